/- The Driver laws: a driver's numbers out of some. -/
import Derived.Test.YtmififfaljihgaaD18
set_option linter.unusedVariables false
namespace Go.Proofs.Ytmififfaljihgaa
open Go Go.Ab
theorem round45 {m : Int} (hm : 0 < m) (hm2 : m ≤ 72057594037927936) (x : Int) (h : H) : ACalls Try.prog 45 [i64 x, i64 m] h (fun r h' => h' = h ∧ r = i64 (x % m)) := by
  have hr := tmod_round (x := x) hm
  refine call_ Try.func45 rfl rfl (by kernel_rfl) ?_
  conv => whnf
  refine ⟨by omega, ?_⟩
  conv => whnf
  refine br_mk (fun ha => ?_) (fun ha => ?_)
  · conv => whnf
    have ha : x.tmod m < 0 := by simpa using ha
    rw [if_pos ha] at hr
    have h1 := Int.emod_nonneg x (show m ≠ 0 by omega)
    have h2 := Int.emod_lt_of_pos x hm
    exact ⟨rfl, by rw [wrap_i64 (by omega) (by omega), hr]⟩
  · conv => whnf
    have ha : ¬ x.tmod m < 0 := by simpa using ha
    rw [if_neg ha] at hr
    exact ⟨rfl, by rw [hr]⟩
theorem at26 {h : H} {p : Option (Nat × Nat)} {n : Nat} {l : List Int} (s : SlIs h p n false 1 (ints .i64 l)) (hn : n ≤ 100) {i m : Int} (h0 : 0 ≤ i) (h1 : i ≤ 1000) (hm : 0 < m) (hm2 : m ≤ 100000) : ACalls Try.prog 26 [.sl p n, i64 i, i64 m] h (fun r h' => h' = h ∧ ∃ x, r = i64 x ∧ 0 ≤ x ∧ x < m) := by
  have hl := slo_len s
  refine call_ Try.func26 rfl rfl (by kernel_rfl) ?_
  conv => whnf
  refine br_mk (fun ha => ?_) (fun ha => ?_)
  · conv => whnf
    exact ⟨rfl, 0, rfl, Int.le_refl _, hm⟩
  have ha : ¬ n = 0 := by simpa using ha
  conv => whnf
  refine ⟨[0, 1, 2, 3, 4, 5, 6, 7, 8, 9, 10, 11, 12, 13, 14, 15], [0, 0, 0, 4, 14, 31, 63, 127, 0, 0, 512, 1792, 4095, 0, 16383, 32767], by kernel_rfl, ?_⟩
  conv => whnf
  refine ⟨by omega, ?_⟩
  have e1 : i.tmod (n : Int) = i % (n : Int) := Int.tmod_eq_emod_of_nonneg h0
  have r0 := Int.emod_nonneg i (show (n : Int) ≠ 0 by omega)
  have r1 := Int.emod_lt_of_pos i (show (0 : Int) < n by omega)
  rw [e1]
  obtain ⟨j, hj⟩ := Int.eq_ofNat_of_zero_le r0
  rw [hj] at r1 ⊢
  have r1 : j < n := by omega
  obtain ⟨i1, c1, f1, f2⟩ := slo_get s r1
  conv => whnf
  refine ⟨i1, c1, j, f1, rfl, r1, ?_⟩
  conv => whnf
  refine ⟨_, f2, ?_⟩
  conv => whnf
  refine ⟨by decide, ?_⟩
  conv => whnf
  refine ⟨by omega, ?_⟩
  conv => whnf
  refine (round45 hm (by omega) _ h).mono ?_
  rintro _ h2 ⟨eh, rfl⟩
  subst eh
  conv => whnf
  exact ⟨rfl, _, rfl, Int.emod_nonneg _ (by omega), Int.emod_lt_of_pos _ hm⟩
/-- the numbers that Small gives -/
def smC (a b c d e f : Int) : Cfg := ⟨1 + a, 1 + b, c, 1 + d, 1 + d + e, 5 + f⟩
set_option maxHeartbeats 1000000 in
theorem small8 {h : H} {p : Option (Nat × Nat)} {n : Nat} {l : List Int} (s : SlIs h p n false 1 (ints .i64 l)) (hn : n ≤ 100) : ACalls Try.prog 8 [.sl p n] h (fun r h' => ∃ c : Cfg, r = .agg c.cells ∧ okCfg c = true ∧ Ab.Mod none_ h h') := by
  refine call_ Try.func8 rfl rfl (by kernel_rfl) ?_
  conv => whnf
  have mP := Mod.push none_ h (.row true 6 [i64 0, i64 0, i64 0, i64 0, i64 0, i64 0])
  have gP : (h.push (.row true 6 [i64 0, i64 0, i64 0, i64 0, i64 0, i64 0])).obj h.next = some (.row true 6 [i64 0, i64 0, i64 0, i64 0, i64 0, i64 0]) := H.obj_push_new _ _
  have s1 := SlIs.old s mP (fun _ _ k => k)
  refine (at26 s1 hn (i := 0) (m := 3) (by decide) (by decide) (by decide) (by decide)).mono ?_
  rintro _ h1 ⟨eh, a, rfl, a0, a1⟩
  have eh1 : h1 = _ := eh
  rw [← eh1] at s1
  conv => whnf
  refine (at26 s1 hn (i := 1) (m := 4) (by decide) (by decide) (by decide) (by decide)).mono ?_
  rintro _ h2 ⟨eh2, b, rfl, b0, b1⟩
  rw [← eh2] at s1
  conv => whnf
  refine (at26 s1 hn (i := 2) (m := 5) (by decide) (by decide) (by decide) (by decide)).mono ?_
  rintro _ h3 ⟨eh3, c, rfl, c0, c1⟩
  rw [← eh3] at s1
  conv => whnf
  refine (at26 s1 hn (i := 3) (m := 6) (by decide) (by decide) (by decide) (by decide)).mono ?_
  rintro _ h4 ⟨eh4, d, rfl, d0, d1⟩
  rw [← eh4] at s1
  have E : h4 = h.push (.row true 6 [i64 0, i64 0, i64 0, i64 0, i64 0, i64 0]) := by rw [eh4, eh3, eh2, eh1]
  rw [← E] at mP gP
  clear E eh4 eh3 eh2 eh1 eh
  conv => whnf
  rw [wrap_i64 (x := 1 + a) (by omega) (by omega), wrap_i64 (x := 1 + b) (by omega) (by omega), wrap_i64 (x := 1 + d) (by omega) (by omega)]
  obtain ⟨g0, gx, mx⟩ := lay_row (h := h4) (sz := 6) [i64 0, i64 0, i64 0, i64 0, i64 0, i64 0] [i64 (1 + a), i64 (1 + b), i64 c, i64 (1 + d), i64 0, i64 0]
  refine ⟨_, _, g0, Nat.le_of_ble_eq_true rfl, ?_⟩
  have s5 := SlIs.old s1 mx (fun _ _ k => k)
  conv => whnf
  refine ⟨[0, 1, 2, 3, 4, 5, 6], [0, 1, 0, 4, 15, 31, 63], by kernel_rfl, ?_⟩
  conv => whnf
  refine ⟨_, Cell.mk gx rfl, ?_⟩
  conv => whnf
  refine (at26 s5 hn (i := 4) (m := 10) (by decide) (by decide) (by decide) (by decide)).mono ?_
  rintro _ h5 ⟨eh5, e, rfl, e0, e1⟩
  rw [← eh5] at s5 gx mx
  conv => whnf
  refine ⟨⟨_, Cell.mk gx rfl, rfl⟩, ?_⟩
  conv => whnf
  rw [wrap_i64 (x := 1 + d + e) (by omega) (by omega)]
  refine ⟨_, _, gx, Nat.le_of_ble_eq_true rfl, ?_⟩
  have hn4 : h.next < h4.next := h4.lt _ _ gP
  have hbo : ∀ i, i < h4.next → one h4.next i → none_ i := fun i hi k => absurd hi (by unfold one at k; omega)
  have mS := Mod.set (S := one h4.next) (ob := .row true 6 [i64 (1 + a), i64 (1 + b), i64 c, i64 (1 + d), i64 (1 + d + e), i64 0]) rfl gx rfl
  have gS := H.obj_set_same (ob' := .row true 6 [i64 (1 + a), i64 (1 + b), i64 c, i64 (1 + d), i64 (1 + d + e), i64 0]) gx
  have mx2 := mx.trans' mS (S2 := none_) (fun _ _ k => k) hbo
  have s6 := SlIs.old s1 mx2 (fun _ _ k => k)
  conv => whnf
  refine (at26 s6 hn (i := 5) (m := 120) (by decide) (by decide) (by decide) (by decide)).mono ?_
  rintro _ h6 ⟨eh6, f, rfl, f0, f1⟩
  rw [← eh6] at gS mx2
  conv => whnf
  rw [wrap_i64 (x := 5 + f) (by omega) (by omega)]
  refine ⟨_, _, gS, Nat.le_of_ble_eq_true rfl, ?_⟩
  have mT := Mod.set (S := one h4.next) (ob := .row true 6 [i64 (1 + a), i64 (1 + b), i64 c, i64 (1 + d), i64 (1 + d + e), i64 (5 + f)]) rfl gS rfl
  have gT := H.obj_set_same (ob' := .row true 6 [i64 (1 + a), i64 (1 + b), i64 c, i64 (1 + d), i64 (1 + d + e), i64 (5 + f)]) gS
  have mx3 := mx2.trans' mT (S2 := none_) (fun _ _ k => k) hbo
  have gP3 := mx3.get gP (.inl (fun k => k))
  conv => whnf
  refine ⟨_, Cells.mk gT (Nat.le_of_ble_eq_true rfl) rfl, ?_⟩
  conv => whnf
  refine ⟨_, _, gP3, Nat.le_of_ble_eq_true rfl, ?_⟩
  have mU := Mod.set (S := one h.next) (ob := .row true 6 (Cfg.cells ⟨1 + a, 1 + b, c, 1 + d, 1 + d + e, 5 + f⟩)) rfl gP3 rfl
  have gU := H.obj_set_same (ob' := .row true 6 (Cfg.cells ⟨1 + a, 1 + b, c, 1 + d, 1 + d + e, 5 + f⟩)) gP3
  have mF := (mod_none mP mx3).trans' mU (S2 := none_) (fun _ _ k => k) (fun i hi k => absurd hi (by unfold one at k; omega))
  conv => whnf
  refine ⟨_, Cells.mk gU (Nat.le_of_ble_eq_true rfl) rfl, ?_⟩
  conv => whnf
  refine ⟨⟨1 + a, 1 + b, c, 1 + d, 1 + d + e, 5 + f⟩, rfl, ?_, mF⟩
  simp only [okCfg, Bool.and_eq_true]
  exact ⟨⟨⟨⟨⟨inR_iff.2 ⟨by show 1 ≤ 1 + a; omega, by show 1 + a ≤ 16; omega⟩, inR_iff.2 ⟨by show 1 ≤ 1 + b; omega, by show 1 + b ≤ 16; omega⟩⟩, inR_iff.2 ⟨c0, by show c ≤ 20; omega⟩⟩, inR_iff.2 ⟨by show 1 ≤ 1 + d; omega, by show 1 + d ≤ 1000; omega⟩⟩, inR_iff.2 ⟨by show 1 + d ≤ 1 + d + e; omega, by show 1 + d + e ≤ 1000; omega⟩⟩, inR_iff.2 ⟨by show 1 ≤ 5 + f; omega, by show 5 + f ≤ 1000; omega⟩⟩
end Go.Proofs.Ytmififfaljihgaa
