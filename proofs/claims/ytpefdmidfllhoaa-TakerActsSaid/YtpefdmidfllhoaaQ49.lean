/- TakerActs: its walk. -/
import Derived.Test.YtpefdmidfllhoaaQ48
set_option linter.unusedVariables false
namespace Go.Proofs.Ytpefdmidfllhoaa
open Go Go.Ab
theorem wrap_u8_eq (x : Int) : IntKind.u8.wrap x = x % 256 := by simp [IntKind.wrap, IntKind.bits, IntKind.signed]
def OctH (C : Hd) : Prop := ∀ x ∈ C, Oct x.2
theorem OctH.ins {C : Hd} (s : OctH C) {b : List Int} (hb : Oct b) (k : Int) : OctH (insS C k b) := fun x hx => by
  rw [insS, List.mem_append, List.mem_cons] at hx
  rcases hx with hx | rfl | hx
  · exact s x (List.mem_filter.1 hx).1
  · exact hb
  · exact s x (List.mem_filter.1 hx).1
theorem chn_oct : ∀ {C : Hd} (N : Int), OctH C → (∀ b ∈ (chn N C).1, Oct b) ∧ OctH (chn N C).2.2
  | [], N, s => ⟨fun b hb => by simp [chn] at hb, fun x hx => by simp [chn] at hx⟩
  | p :: C, N, s => by
    rw [chn]
    by_cases e : p.1 = N
    · rw [if_pos e]
      obtain ⟨h1, h2⟩ := chn_oct (C := C) (N + 1) (fun x hx => s x (List.mem_cons_of_mem _ hx))
      refine ⟨fun b hb => ?_, h2⟩
      have hb : b ∈ p.2 :: (chn (N + 1) C).1 := hb
      rcases List.mem_cons.1 hb with rfl | hb
      · exact s p (by simp)
      · exact h1 b hb
    · rw [if_neg e]
      exact ⟨fun b hb => by simp at hb, s⟩
theorem tk_oct {W N : Int} {C : Hd} (s : OctH C) {b : List Int} (hb : Oct b) (k : Int) : (∀ x ∈ (tkV W N C k b).2.1, Oct x) ∧ OctH (tkV W N C k b).2.2.2 := by
  unfold tkV
  by_cases hm : mayC W N k C = true
  · rw [if_pos hm]
    exact chn_oct N (s.ins hb k)
  · rw [if_neg hm]
    exact ⟨fun x hx => by simp at hx, s⟩
theorem held35c {h : H} {g : Nat} {W N : Int} {C : Hd} (s : RTkC h g W N C) (hC : C.length ≤ 1000) : ACalls Try.prog 35 [.ptr (some (g, 0))] h (HeldR h (keys C)) := by
  obtain ⟨S, st, e⟩ := s
  have hkeq : keys C = keys S := by rw [← e]; exact encM_keys Prod.snd S
  have hlen : C.length = S.length := by rw [← e, encM_length]
  rw [hkeq]
  exact held35 st (by omega)
set_option maxHeartbeats 1000000 in
theorem acts6 {h : H} {po : Option (Nat × Nat)} {m : Nat} {xs : List Int} (ro : RoSl h po m 1 (ints .i64 xs)) (hx64 : ∀ x ∈ xs, inI x) {pb : Option (Nat × Nat)} {mb : Nat} {bs : List Int} (rb : RoSl h pb mb 1 (ints .u8 bs)) (hb8 : Oct bs) (W : Int) : ACalls Try.prog 6 [i64 W, .sl po m, .sl pb mb] h (fun r _ => r = .bool true) := by
  have hm := slo_len ro.is
  have hmb := slo_len rb.is
  refine call_ Try.func6 rfl rfl (by kernel_rfl) ?_
  conv => whnf
  refine br_mk (fun ha => ?_) (fun ha => ?_)
  · conv => whnf
    refine (awake26 h).mono ?_
    rintro _ h1 rfl
    conv => whnf
  conv => whnf
  have ha : m ≤ 100 := by
    have : ¬ (m : Int) > 100 := by simpa using ha
    omega
  refine br_mk (fun hb => ?_) (fun hb => ?_)
  · conv => whnf
    refine (awake26 h).mono ?_
    rintro _ h1 rfl
    conv => whnf
  conv => whnf
  have hb : mb ≤ 40 := by
    have : ¬ (mb : Int) > 40 := by simpa using hb
    omega
  refine (new27 h W).mono ?_
  rintro _ h1 q
  cases ok : okW W with
  | false =>
    obtain ⟨rfl, eh⟩ := newK_no q ok
    subst eh
    conv => whnf
    refine ⟨_, rfl, ?_⟩
    conv => whnf
    refine ⟨_, rfl, ?_⟩
    conv => whnf
    refine (new28 _ W).mono ?_
    rintro _ h2 (⟨_, rfl, eh⟩ | ⟨e, _⟩)
    rotate_left
    · rw [ok] at e
      cases e
    subst eh
    conv => whnf
    refine (awake26 _).mono ?_
    rintro _ h3 rfl
    conv => whnf
  | true =>
  have hW : 1 ≤ W ∧ W ≤ 16 := by simpa [okW] using ok
  obtain ⟨g, mi, rfl, s1, hg0, hm0, m1⟩ := newK_yes q ok
  clear q
  have tk : TkC h1 g mi W 0 [] := ⟨[], s1, rfl⟩
  conv => whnf
  refine ⟨_, rfl, ?_⟩
  conv => whnf
  refine ⟨_, rfl, ?_⟩
  conv => whnf
  refine (new28 _ W).mono ?_
  rintro _ h2 (⟨e, _⟩ | ⟨_, rg, rfl, s2, hrg, m2⟩)
  · rw [ok] at e
    cases e
  have rk : RTkC h2 rg W 0 [] := ⟨[], s2, rfl⟩
  have hgr := tk.lt
  have tk := tk.old m2
  have ro := (ro.get m1).get m2
  have rb := (rb.get m1).get m2
  conv => whnf
  refine ⟨fun env hh => ∃ (i : Nat) (zi N : Int) (C : Hd), i ≤ m ∧ zi = i ∧ TkC hh g mi W N C ∧ RTkC hh rg W N C ∧ OkH W N C ∧ OctH C ∧ 0 ≤ N ∧ N ≤ 16 * i ∧ RoSl hh po m 1 (ints .i64 xs) ∧ RoSl hh pb mb 1 (ints .u8 bs) ∧ env = [(10, i64 zi), (1, .sl po m), (2, .sl pb mb), (7, .ptr (some (g, 0))), (9, .ptr (some (rg, 0)))],
    fun env _ => match get env 10 with
      | .int _ z => (m - z).toNat
      | _ => 0, ⟨_, Forget.cons rfl (Forget.cons rfl (Forget.cons rfl (Forget.cons rfl (Forget.cons rfl (Forget.nil _))))), 0, _, 0, [], Nat.zero_le _, rfl, tk, rk, OkH.nil _ _, (fun x hx => by cases hx), by omega, by omega, ro, rb, rfl⟩, ?_⟩
  clear tk rk ro rb s1 s2 m1 m2
  rintro _ hh ⟨i, zi, N, C, hi, rfl, tk, rk, oh, oc, hN0, hN1, ro, rb, rfl⟩
  conv => whnf
  refine br_mk (fun hx => ?_) (fun hx => ?_)
  rotate_left
  · conv => whnf
    refine (awake26 _).mono ?_
    rintro _ h3 rfl
    conv => whnf
  conv => whnf
  have hx : i < m := by simpa using hx
  have hu8 : IntKind.u8.wrap (i : Int) = (i : Int) := by rw [wrap_u8_eq]; omega
  rw [hu8]
  obtain ⟨y1, y2, y3⟩ := app2 (hh := hh) [.int .u8 (i : Int)] rfl rb.is
  refine ⟨_, _, y1, y2, by rw [show (T.at_ 5).bytes = 1 from rfl]; omega, by omega, fun pc h3 hs3 hm3 hf3 => ?_⟩
  obtain ⟨nc, m3⟩ := y3 pc h3 hs3 hm3 hf3
  have ec : [V.int .u8 (i : Int)] ++ ints .u8 bs = ints .u8 ((i : Int) :: bs) := rfl
  rw [ec] at nc
  have hob : Oct ((i : Int) :: bs) := fun x hx2 => by
    rcases List.mem_cons.1 hx2 with rfl | hx2
    · omega
    · exact hb8 x hx2
  obtain ⟨body, hbody⟩ : ∃ b, b = (i : Int) :: bs := ⟨_, rfl⟩
  rw [← hbody] at nc hob
  clear hbody ec y1 y2 y3 hs3 hm3 hf3
  have tkl := tk.lt
  have rkl := rk.lt
  have tk := tk.old m3
  have rk := rk.old m3
  have ro := ro.get m3
  have rb := rb.get m3
  conv => whnf
  obtain ⟨i1, c1, f1, f2⟩ := slo_get ro.is hx
  refine ⟨i1, c1, i, f1, rfl, hx, ?_⟩
  conv => whnf
  refine ⟨_, f2, ?_⟩
  conv => whnf
  have hk : inI (xs.getD i 0) := hx64 _ (getD_in (by omega))
  refine (take29c tk ok oh hN0 (by omega) hk nc.1.weak (by omega)).mono ?_
  rintro _ h4 ⟨q4, rfl, rw4, tk, m4⟩
  have ro := ro.get m4
  have rb := rb.get m4
  have rk := rk.get m4 (fun k => k.elim (by omega) (by omega))
  have nc4 : SlIs h4 pc (1 + mb) false 1 (ints .u8 body) := (nc.1.get m4 (fun a o e => .inl (fun k => by
    have := nc.2 a o e
    exact k.elim (by omega) (by omega)))).weak
  conv => whnf
  refine ⟨_, rfl, ?_⟩
  conv => whnf
  refine ⟨_, rfl, ?_⟩
  conv => whnf
  obtain ⟨i2, c2, f3, f4⟩ := slo_get ro.is hx
  refine ⟨i2, c2, i, f3, rfl, hx, ?_⟩
  conv => whnf
  refine ⟨_, f4, ?_⟩
  conv => whnf
  refine (take30c rk ok oh hN0 (by omega) hk nc4 (by omega)).mono ?_
  rintro _ h5 ⟨q5, rfl, rw5, rk, m5⟩
  have ro := ro.get m5
  have rb := rb.get m5
  have rw4 := rw4.get m5
  have tk := tk.get m5 (by show ¬ g = rg; omega) (by show ¬ mi = rg; omega)
  conv => whnf
  refine ⟨_, rfl, ?_⟩
  conv => whnf
  refine ⟨_, rfl, ?_⟩
  conv => whnf
  obtain ⟨oh2, on1, on2, on3⟩ := oh.take hW.1 (xs.getD i 0) body
  obtain ⟨oa, ob⟩ := tk_oct (W := W) (N := N) oc hob (xs.getD i 0)
  generalize tkV W N C (xs.getD i 0) body = tv at rw4 rw5 tk rk oh2 on1 on2 on3 oa ob ⊢
  obtain ⟨tb, tl, N2, C2⟩ := tv
  replace on1 : N ≤ N2 := on1
  replace on2 : N2 = N + tl.length := on2
  replace on3 : (tl.length : Int) ≤ W := on3
  replace oh2 : OkH W N2 C2 := oh2
  replace rw4 : Rws h5 q4 tl := rw4
  replace rw5 : Rws h5 q5 tl := rw5
  replace tk : TkC h5 g mi W N2 C2 := tk
  replace rk : RTkC h5 rg W N2 C2 := rk
  replace oa : ∀ x ∈ tl, Oct x := oa
  replace ob : OctH C2 := ob
  refine ⟨[0, 1, 2, 3, 4, 5, 6, 7, 8, 9, 10, 12, 13, 14, 15, 11, 16, 17, 18, 19, 21, 20, 22, 23, 24, 25], [0, 0, 3, 7, 15, 31, 31, 127, 255, 511, 1023, 2047, 1023, 5119, 13311, 29695, 65535, 131071, 262143, 524287, 1048575, 524287, 4194303, 8388607, 16777215, 33554431], by kernel_rfl, ?_⟩
  conv => whnf
  refine (rows31 rw4 rw5 oa oa (by omega)).mono ?_
  rintro _ h6 ⟨eh, rfl⟩
  subst eh
  rw [decide_eq_true rfl]
  conv => whnf
  refine br_mk (fun hb => ?_) (fun hb => ?_)
  · exact absurd hb (by simp)
  conv => whnf
  refine ⟨_, rk.n, ?_⟩
  conv => whnf
  refine (next32c tk).mono ?_
  rintro _ h6 ⟨eh, rfl⟩
  subst eh
  conv => whnf
  refine ⟨⟨_, rk.n, rfl⟩, ?_⟩
  conv => whnf
  refine br_mk (fun hb => ?_) (fun hb => ?_)
  · exact absurd hb (by simp)
  conv => whnf
  have hcl := oh2.len hW.1
  refine (held34c tk ok oh2 (by omega) (by omega)).mono ?_
  rintro _ h7 ⟨q7, rfl, r7, m7⟩
  conv => whnf
  refine (held35c (rk.old m7) (by omega)).mono ?_
  rintro _ h8 ⟨q8, rfl, r8, m8⟩
  conv => whnf
  refine (ints33 (r7.get m8).is r8.is (by rw [keys_length]; omega)).mono ?_
  rintro _ h9 ⟨eh, rfl⟩
  subst eh
  rw [decide_eq_true rfl]
  conv => whnf
  have hwi : IntKind.i64.wrap ((i : Int) + 1) = ((i + 1 : Nat) : Int) := by rw [wrap_i64 (by omega) (by omega)]; omega
  rw [hwi]
  refine ⟨_, Forget.cons rfl (Forget.cons rfl (Forget.cons rfl (Forget.cons rfl (Forget.cons rfl (Forget.nil _))))), ⟨i + 1, _, N2, C2, by omega, rfl, (tk.old m7).old m8, (rk.old m7).old m8, oh2, ob, by omega, by omega, (ro.get m7).get m8, (rb.get m7).get m8, rfl⟩, ?_⟩
  show ((m : Int) - ((i + 1 : Nat) : Int)).toNat < ((m : Int) - (i : Int)).toNat
  omega
end Go.Proofs.Ytpefdmidfllhoaa
