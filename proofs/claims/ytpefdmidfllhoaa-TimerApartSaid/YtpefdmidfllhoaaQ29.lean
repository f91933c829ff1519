/- TimerActs: its walk. -/
import Derived.Test.YtpefdmidfllhoaaQ28
set_option linter.unusedVariables false
namespace Go.Proofs.Ytpefdmidfllhoaa
open Go Go.Ab
def NN (S : List Wt) : Prop := ∀ x ∈ S, 0 ≤ x.2.2
theorem insS_nn {S : List Wt} (h : NN S) (id a : Int) : NN (insS S id (a, 0)) := fun x hx => by
  rw [insS, List.mem_append, List.mem_cons] at hx
  rcases hx with hx | rfl | hx
  · exact h x (List.mem_filter.1 hx).1
  · exact Int.le_refl _
  · exact h x (List.mem_filter.1 hx).1
theorem insS_le (id : Int) (v : Int × Int) : ∀ S : List Wt, (insS S id v).length ≤ S.length + 1 := fun S => by
  have key : ∀ l : List Wt, (l.filter fun p => decide (p.1 < id)).length + (l.filter fun p => decide (id < p.1)).length ≤ l.length := by
    intro l
    induction l with
    | nil => simp
    | cons p l ih =>
      by_cases h1 : p.1 < id
      · rw [List.filter_cons_of_pos (by simpa using h1), List.filter_cons_of_neg (by simp; omega)]
        simp only [List.length_cons]
        omega
      · rw [List.filter_cons_of_neg (by simpa using h1)]
        by_cases h2 : id < p.1
        · rw [List.filter_cons_of_pos (by simpa using h2)]
          simp only [List.length_cons]
          omega
        · rw [List.filter_cons_of_neg (by simpa using h2)]
          simp only [List.length_cons]
          omega
  rw [insS, List.length_append, List.length_cons]
  exact Nat.succ_le_succ (key S)
theorem delS_nn {S : List Wt} (h : NN S) (id : Int) : NN (delS S id) := fun x hx => h x (List.mem_filter.1 hx).1
theorem rsS_nn {S : List Wt} (h : NN S) (B M R now : Int) : NN (rsS B M R now S) := fun x hx => by
  obtain ⟨y, hy, e⟩ := List.mem_filterMap.1 hx
  have := h y hy
  unfold dueF at e
  split at e
  · injection e with e
    rw [← e]
    exact this
  · split at e
    · injection e with e
      rw [← e]
      show 0 ≤ y.2.2 + 1
      omega
    · cases e
theorem acts9 {h : H} {pa pw : Option (Nat × Nat)} {n m : Nat} {acts : List Wt} {ws : List Int} (ac : RoSl h pa n 3 (acts.flatMap wC)) (hn : n = acts.length) (hA : ∀ x ∈ acts, inI x.2.1) (rw_ : RoSl h pw m 1 (ints .i64 ws)) (hW : ∀ w ∈ ws, w ≤ 9223372036854775807) (B M R : Int) :
    ACalls Try.prog 9 [i64 B, i64 M, i64 R, .sl pa n, .sl pw m] h (fun r _ => r = .bool true) := by
  have hm := slo_len rw_.is
  refine call_ Try.func9 rfl rfl (by kernel_rfl) ?_
  conv => whnf
  refine br_mk (fun ha => ?_) (fun ha => ?_)
  · conv => whnf
    refine (awake21 h).mono ?_
    rintro _ h1 rfl
    conv => whnf
  conv => whnf
  have ha : n ≤ 80 := by
    have : ¬ (n : Int) > 80 := by simpa using ha
    omega
  refine br_mk (fun hb => ?_) (fun hb => ?_)
  · conv => whnf
    refine (awake21 h).mono ?_
    rintro _ h1 rfl
    conv => whnf
  conv => whnf
  have hb : m ≤ 20 := by
    have : ¬ (m : Int) > 20 := by simpa using hb
    omega
  refine (new22 h B M R).mono ?_
  rintro _ h1 q1
  by_cases ok : okT B M R = true
  rotate_left
  · have ok : okT B M R = false := by simpa using ok
    obtain ⟨rfl, eh⟩ := newT_no q1 ok
    subst eh
    conv => whnf
    refine ⟨_, rfl, ?_⟩
    conv => whnf
    refine ⟨_, rfl, ?_⟩
    conv => whnf
    refine (new36 h1 B M R).mono ?_
    rintro _ h2 q2
    rcases q2 with ⟨_, rfl, eh⟩ | ⟨e, _⟩
    rotate_left
    · rw [ok] at e
      cases e
    subst eh
    conv => whnf
    refine (awake21 _).mono ?_
    rintro _ h3 rfl
    conv => whnf
  obtain ⟨b1, b2, b3, b4, b5, b6⟩ := okT_iff.1 ok
  obtain ⟨g, mi, rfl, tS, lg, lm, m1⟩ := newT_yes q1 ok
  clear q1
  conv => whnf
  refine ⟨_, rfl, ?_⟩
  conv => whnf
  refine ⟨_, rfl, ?_⟩
  conv => whnf
  refine (new36 h1 B M R).mono ?_
  rintro _ h2 q2
  rcases q2 with ⟨e, _⟩ | ⟨_, gr, rfl, rS, lr, m2⟩
  · rw [ok] at e
    cases e
  have ap : gr ≠ g ∧ gr ≠ mi := by
    have := tS.lt
    omega
  have tS := tS.old m2
  have ac := (ac.get m1).get m2
  have rw_ := (rw_.get m1).get m2
  conv => whnf
  refine ⟨fun env hh => ∃ (j : Nat) (z : Int), j ≤ m ∧ z = j ∧ TSt hh g mi B M R [] ∧ RSt hh gr B M R [] ∧ RoSl hh pa n 3 (acts.flatMap wC) ∧ RoSl hh pw m 1 (ints .i64 ws) ∧ env = [(14, i64 z), (4, .sl pw m), (11, .ptr (some (g, 0))), (13, .ptr (some (gr, 0))), (3, .sl pa n)],
    fun env _ => match get env 14 with
      | .int _ z => (m - z).toNat
      | _ => 0, ⟨_, Forget.cons rfl (Forget.cons rfl (Forget.cons rfl (Forget.cons rfl (Forget.cons rfl (Forget.nil _))))), 0, _, Nat.zero_le _, rfl, tS, rS, ac, rw_, rfl⟩, ?_⟩
  clear tS rS ac rw_ m1 m2 lg lm lr
  rintro _ hh ⟨j, z, hj, rfl, tS, rS, ac, rw_, rfl⟩
  conv => whnf
  refine br_mk (fun hd => ?_) (fun hd => ?_)
  · conv => whnf
    have hd : j < m := by simpa using hd
    refine ⟨[0, 1, 2, 3, 4, 6, 7, 8, 9, 10, 5, 11, 12], [0, 0, 0, 6, 14, 31, 0, 0, 0, 384, 896, 2047, 4095], by kernel_rfl, ?_⟩
    conv => whnf
    obtain ⟨i1, c1, f1, f2⟩ := slo_get rw_.is hd
    have hw := hW _ (getD_in (l := ws) (j := j) (by omega))
    refine ⟨i1, c1, j, f1, rfl, hd, ?_⟩
    conv => whnf
    refine ⟨_, f2, ?_⟩
    conv => whnf
    refine ⟨i1, c1, j, f1, rfl, hd, ?_⟩
    conv => whnf
    refine ⟨_, f2, ?_⟩
    conv => whnf
    refine (wait37 tS.box b1 b3 b4 hw).mono ?_
    rintro _ hX ⟨eh, rfl⟩
    subst eh
    conv => whnf
    refine ⟨⟨_, f2, rfl⟩, ?_⟩
    conv => whnf
    obtain ⟨pX, bX, _⟩ := rS.box
    refine (wait38 bX b1 b3 b4 hw).mono ?_
    rintro _ hX2 ⟨eh, rfl⟩
    subst eh
    conv => whnf
    refine br_mk (fun hz => ?_) (fun hz => ?_)
    · exact absurd hz (by simp)
    clear hz
    conv => whnf
    exact ⟨_, Forget.cons rfl (Forget.cons rfl (Forget.cons rfl (Forget.cons rfl (Forget.cons rfl (Forget.nil _))))), ⟨j + 1, _, hd, succ_i64 hd (by omega), tS, rS, ac, rw_, rfl⟩, mu_lt hd (by omega)⟩
  conv => whnf
  clear hd rw_
  refine ⟨fun env hh => ∃ (j : Nat) (z : Int) (S : List Wt), j ≤ n ∧ z = j ∧ TSt hh g mi B M R S ∧ RSt hh gr B M R S ∧ NN S ∧ S.length ≤ j ∧ RoSl hh pa n 3 (acts.flatMap wC) ∧ env = [(15, i64 z), (3, .sl pa n), (11, .ptr (some (g, 0))), (13, .ptr (some (gr, 0)))],
    fun env _ => match get env 15 with
      | .int _ z => (n - z).toNat
      | _ => 0, ⟨_, Forget.cons rfl (Forget.cons rfl (Forget.cons rfl (Forget.cons rfl (Forget.nil _)))), 0, _, [], Nat.zero_le _, rfl, tS, rS, (fun x hx => by cases hx), Nat.le_refl _, ac, rfl⟩, ?_⟩
  clear tS rS ac hj
  rintro _ hh ⟨j, z, S, hj, rfl, tS, rS, nn, sl, ac, rfl⟩
  conv => whnf
  refine br_mk (fun hd => ?_) (fun hd => ?_)
  rotate_left
  · conv => whnf
    refine (awake21 _).mono ?_
    rintro _ h3 rfl
    conv => whnf
  conv => whnf
  have hd : j < n := by simpa using hd
  have hdl : j < acts.length := by omega
  obtain ⟨i1, c1, k1, k2, _⟩ := sls_get wC_len ac.is hn hdl
  have hid := hA _ (getElem_in hdl)
  refine ⟨i1, c1, j, k1, rfl, hd, ?_⟩
  conv => whnf
  refine ⟨_, k2, ?_⟩
  conv => whnf
  generalize acts[j] = x at hid k2 ⊢
  obtain ⟨gm, gn, ml⟩ := lay_row (h := hh) (sz := 3) [i64 0, i64 0, i64 0] (wC x)
  refine ⟨_, _, gm, Nat.le_of_ble_eq_true rfl, ?_⟩
  conv => whnf
  have hgl := tS.lt
  have hasc := tS.asc
  have hrl := rS.lt
  have tS := tS.old ml
  have rS := rS.get ml (fun k => k)
  have ac := ac.get ml
  clear k2 gm ml
  refine ⟨_, Cell.mk gn rfl, ?_⟩
  conv => whnf
  refine (round19 (m := 1048576) (by decide) (by decide) x.2.2 _).mono ?_
  rintro _ hR ⟨eh, rfl⟩
  subst eh
  have hn0 := Int.emod_nonneg x.2.2 (show (1048576 : Int) ≠ 0 by decide)
  have hn1 := Int.emod_lt_of_pos x.2.2 (show (0 : Int) < 1048576 by decide)
  obtain ⟨now, hnow⟩ : ∃ now, now = x.2.2 % 1048576 := ⟨_, rfl⟩
  rw [← hnow] at hn0 hn1 ⊢
  conv => whnf
  refine ⟨_, Cell.mk gn rfl, ?_⟩
  conv => whnf
  refine br_mk (fun hk => ?_) (fun hk => ?_)
  · conv => whnf
    refine ⟨_, Cell.mk gn rfl, ?_⟩
    conv => whnf
    refine (start23 tS ok hid (now := now) (by omega) (by omega)).mono ?_
    rintro _ h4 ⟨tS, m4⟩
    have rS := rS.get m4 (fun k => ap.2 k)
    have ac := ac.get m4
    have gn := m4.get gn (.inl (fun k => by
      have : hh.next = mi := k
      omega))
    conv => whnf
    refine ⟨_, Cell.mk gn rfl, ?_⟩
    conv => whnf
    refine (start39 rS hasc ok (by omega) x.2.1 (now := now) (by omega) (by omega)).mono ?_
    rintro _ h5 ⟨rS, m5⟩
    have tS := tS.get m5 (fun k => ap.1 k.symm) (fun k => ap.2 k.symm)
    have ac := ac.get m5
    have sl : (insS S x.2.1 (now + waitV B M 0, 0)).length ≤ j + 1 := Nat.le_trans (insS_le _ _ _) (by omega)
    have nn := insS_nn nn x.2.1 (now + waitV B M 0)
    generalize insS S x.2.1 (now + waitV B M 0, 0) = S2 at tS rS sl nn
    conv => whnf
    refine ⟨[0, 2, 3, 4, 5, 6, 1, 7], [0, 1, 0, 4, 12, 28, 60, 127], by kernel_rfl, ?_⟩
    conv => whnf
    obtain ⟨pX, bX, rX⟩ := rS.box
    refine ⟨_, Cell.mk bX rfl, ?_⟩
    conv => whnf
    refine (len25 tS).mono ?_
    rintro _ hL ⟨eh, rfl⟩
    subst eh
    conv => whnf
    refine ⟨⟨_, Cell.mk bX rfl, rfl⟩, ?_⟩
    conv => whnf
    refine br_mk (fun hz => ?_) (fun hz => ?_)
    · exact absurd hz (by simp)
    clear hz
    conv => whnf
    exact ⟨_, Forget.cons rfl (Forget.cons rfl (Forget.cons rfl (Forget.cons rfl (Forget.nil _)))), ⟨j + 1, _, S2, hd, succ_i64 hd (by omega), tS, rS, nn, sl, ac, rfl⟩, mu_lt hd (by omega)⟩
  conv => whnf
  refine br_mk (fun hk2 => ?_) (fun hk2 => ?_)
  · conv => whnf
    refine ⟨_, Cell.mk gn rfl, ?_⟩
    conv => whnf
    refine ⟨_, Cell.mk gn rfl, ?_⟩
    conv => whnf
    obtain ⟨lq, nq⟩ := laid_row (((hh.push (.row true 3 [i64 0, i64 0, i64 0])).set hh.next (.row true 3 (wC x)))) [x.2.1, IntKind.i64.wrap (x.2.1 + 1)]
    have gn := nq.get gn (.inl (fun k => k))
    refine (stop40 (tS.old nq) lq (fun i o e => by
      injection e with e
      injection e with e
      have : hh.next + 1 = i := e
      omega) (by simp)).mono ?_
    rintro _ h4 ⟨tS, m4⟩
    have rS := (rS.get nq (fun k => k)).get m4 (fun k => ap.2 k)
    have ac := (ac.get nq).get m4
    have gn := m4.get gn (.inl (fun k => by
      have : hh.next = mi := k
      omega))
    conv => whnf
    refine ⟨_, Cell.mk gn rfl, ?_⟩
    conv => whnf
    refine (stop41 rS (by omega) x.2.1).mono ?_
    rintro _ h5 ⟨rS, m5⟩
    have tS := tS.get m5 (fun k => ap.1 k.symm) (fun k => ap.2 k.symm)
    have ac := ac.get m5
    have gn := m5.get gn (.inl (fun k => by
      have : hh.next = gr := k
      omega))
    conv => whnf
    refine ⟨_, Cell.mk gn rfl, ?_⟩
    conv => whnf
    have l1 := delS_le S x.2.1
    have l2 := delS_le (delS S x.2.1) (IntKind.i64.wrap (x.2.1 + 1))
    refine (stop41 rS (by omega) (IntKind.i64.wrap (x.2.1 + 1))).mono ?_
    rintro _ h6 ⟨rS, m6⟩
    have tS := tS.get m6 (fun k => ap.1 k.symm) (fun k => ap.2 k.symm)
    have ac := ac.get m6
    have tS : TSt h6 g mi B M R (delS (delS S x.2.1) (IntKind.i64.wrap (x.2.1 + 1))) := tS
    have sl : (delS (delS S x.2.1) (IntKind.i64.wrap (x.2.1 + 1))).length ≤ j + 1 := by omega
    have nn := delS_nn (delS_nn nn x.2.1) (IntKind.i64.wrap (x.2.1 + 1))
    clear l1 l2
    generalize delS (delS S x.2.1) (IntKind.i64.wrap (x.2.1 + 1)) = S2 at tS rS sl nn
    conv => whnf
    refine ⟨[0, 2, 3, 4, 5, 6, 1, 7], [0, 1, 0, 4, 12, 28, 60, 127], by kernel_rfl, ?_⟩
    conv => whnf
    obtain ⟨pX, bX, rX⟩ := rS.box
    refine ⟨_, Cell.mk bX rfl, ?_⟩
    conv => whnf
    refine (len25 tS).mono ?_
    rintro _ hL ⟨eh, rfl⟩
    subst eh
    conv => whnf
    refine ⟨⟨_, Cell.mk bX rfl, rfl⟩, ?_⟩
    conv => whnf
    refine br_mk (fun hz => ?_) (fun hz => ?_)
    · exact absurd hz (by simp)
    clear hz
    conv => whnf
    exact ⟨_, Forget.cons rfl (Forget.cons rfl (Forget.cons rfl (Forget.cons rfl (Forget.nil _)))), ⟨j + 1, _, S2, hd, succ_i64 hd (by omega), tS, rS, nn, sl, ac, rfl⟩, mu_lt hd (by omega)⟩
  conv => whnf
  refine br_mk (fun hk3 => ?_) (fun hk3 => ?_)
  · conv => whnf
    refine (due24r tS ok (by omega) nn (now := now) (by omega) (by omega) _ _ _ rfl rfl rfl).mono ?_
    rintro _ h4 ⟨qa, qo, rfl, ra, ro, tS, m4⟩
    have rS := rS.get m4 (fun k => ap.2 k)
    have ac := ac.get m4
    conv => whnf
    refine ⟨_, rfl, ?_⟩
    conv => whnf
    refine ⟨_, rfl, ?_⟩
    conv => whnf
    refine (due42r rS ok (by omega) nn (now := now) (by omega) (by omega)).mono ?_
    rintro _ h5 ⟨qb, qp, rfl, rb, rp, rS, m5⟩
    have tS := tS.get m5 (fun k => ap.1 k.symm) (fun k => ap.2 k.symm)
    have ac := ac.get m5
    have ra := ra.get m5
    have ro := ro.get m5
    conv => whnf
    refine ⟨_, rfl, ?_⟩
    conv => whnf
    refine ⟨_, rfl, ?_⟩
    conv => whnf
    have la := agS_le R now S
    have lo := ovS_le R now S
    refine (ints33 ra.is rb.is (by omega)).mono ?_
    rintro _ h6 ⟨eh, rfl⟩
    subst eh
    rw [decide_eq_true rfl]
    conv => whnf
    refine (ints33 ro.is rp.is (by omega)).mono ?_
    rintro _ h7 ⟨eh, rfl⟩
    subst eh
    rw [decide_eq_true rfl]
    have sl : (rsS B M R now S).length ≤ j + 1 := Nat.le_trans (rsS_le _ _ _ _ _) (by omega)
    have nn := rsS_nn nn B M R now
    clear ra ro rb rp la lo
    generalize rsS B M R now S = S2 at tS rS sl nn
    conv => whnf
    refine ⟨[0, 2, 3, 4, 5, 6, 1, 7], [0, 1, 0, 4, 12, 28, 60, 127], by kernel_rfl, ?_⟩
    conv => whnf
    obtain ⟨pX, bX, rX⟩ := rS.box
    refine ⟨_, Cell.mk bX rfl, ?_⟩
    conv => whnf
    refine (len25 tS).mono ?_
    rintro _ hL ⟨eh, rfl⟩
    subst eh
    conv => whnf
    refine ⟨⟨_, Cell.mk bX rfl, rfl⟩, ?_⟩
    conv => whnf
    refine br_mk (fun hz => ?_) (fun hz => ?_)
    · exact absurd hz (by simp)
    clear hz
    conv => whnf
    exact ⟨_, Forget.cons rfl (Forget.cons rfl (Forget.cons rfl (Forget.cons rfl (Forget.nil _)))), ⟨j + 1, _, S2, hd, succ_i64 hd (by omega), tS, rS, nn, sl, ac, rfl⟩, mu_lt hd (by omega)⟩
  · conv => whnf
    obtain ⟨S2, hS2⟩ : ∃ S2, S2 = S := ⟨_, rfl⟩
    rw [← hS2] at tS rS nn sl
    have sl : S2.length ≤ j + 1 := by omega
    conv => whnf
    refine ⟨[0, 2, 3, 4, 5, 6, 1, 7], [0, 1, 0, 4, 12, 28, 60, 127], by kernel_rfl, ?_⟩
    conv => whnf
    obtain ⟨pX, bX, rX⟩ := rS.box
    refine ⟨_, Cell.mk bX rfl, ?_⟩
    conv => whnf
    refine (len25 tS).mono ?_
    rintro _ hL ⟨eh, rfl⟩
    subst eh
    conv => whnf
    refine ⟨⟨_, Cell.mk bX rfl, rfl⟩, ?_⟩
    conv => whnf
    refine br_mk (fun hz => ?_) (fun hz => ?_)
    · exact absurd hz (by simp)
    clear hz
    conv => whnf
    exact ⟨_, Forget.cons rfl (Forget.cons rfl (Forget.cons rfl (Forget.cons rfl (Forget.nil _)))), ⟨j + 1, _, S2, hd, succ_i64 hd (by omega), tS, rS, nn, sl, ac, rfl⟩, mu_lt hd (by omega)⟩
end Go.Proofs.Ytpefdmidfllhoaa
