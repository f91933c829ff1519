/- ShutsAll: its walk. -/
import Derived.Test.YtpefdmidfllhoaaQ14
set_option linter.unusedVariables false
namespace Go.Proofs.Ytpefdmidfllhoaa
open Go Go.Ab
theorem pl_add_len {F : Nat → Bool} {e : Nat} {b : Bool} (hF : b = true → F e = false) : ∀ n, (pl n fun k => F k || (decide (k = e) && b)).length = (pl n F).length + (if decide (e < n) && b then 1 else 0)
  | 0 => by simp [pl]
  | n + 1 => by
    rw [pl_succ, pl_succ, List.length_append, List.length_append, pl_add_len hF n]
    by_cases he : n = e
    · subst he
      rw [decide_eq_true rfl, decide_eq_false (Nat.lt_irrefl n), decide_eq_true (Nat.lt_succ_self n)]
      cases b with
      | true => rw [hF rfl]; simp
      | false => simp
    · rw [decide_eq_false he, show decide (e < n + 1) = decide (e < n) from decide_eq_decide.2 (by omega)]
      cases F n <;> simp <;> omega
theorem turns_setV {U : List Int} {u : Int} {E : List Int} {e : Int} (h0 : 0 ≤ e) (h1 : e < U.length) : turnsB (setV U u E) u e = (turnsB U u e && !decide (e ∈ E)) := by
  unfold turnsB
  rw [setV_get _ _ _ (by omega), show ((e.toNat : Nat) : Int) = e by omega]
  by_cases h : e ∈ E
  · rw [if_pos h, decide_eq_true h]
    simp
  · rw [if_neg h, decide_eq_false h]
    simp
theorem out_snoc_len {U : List Int} {u : Int} {E : List Int} {e : Int} (h0 : 0 ≤ e) (h1 : e < U.length) : (outV U u (E ++ [e])).length = (outV U u E).length + (outV (setV U u E) u [e]).length := by
  rw [out1 h0 (by rw [setV_length]; exact h1), turns_setV h0 h1]
  have key := pl_add_len (F := fun k => decide ((k : Int) ∈ E) && turnsB U u k) (e := e.toNat) (b := turnsB U u e && !decide (e ∈ E)) (fun hb => by
    simp only [Bool.and_eq_true, Bool.not_eq_true', decide_eq_false_iff_not] at hb
    rw [show ((e.toNat : Nat) : Int) = e by omega, decide_eq_false hb.2]
    rfl) U.length
  rw [decide_eq_true (show e.toNat < U.length by omega), Bool.true_and] at key
  rw [outV, outV, show (pl U.length fun k => decide ((k : Int) ∈ E ++ [e]) && turnsB U u k) = _ from pl_cong (G := fun k => (decide ((k : Int) ∈ E) && turnsB U u k) || (decide (k = e.toNat) && (turnsB U u e && !decide (e ∈ E)))) (fun k hk => ?_), key]
  · cases hc : (turnsB U u e && !decide (e ∈ E)) <;> simp
  · by_cases hke : k = e.toNat
    · subst hke
      rw [show ((e.toNat : Nat) : Int) = e by omega, decide_eq_true (by simp), decide_eq_true rfl]
      by_cases h : e ∈ E
      · rw [decide_eq_true h]
        cases turnsB U u e <;> rfl
      · rw [decide_eq_false h]
        cases turnsB U u e <;> rfl
    · have : ((k : Int) ∈ E ++ [e]) ↔ (k : Int) ∈ E := by
        rw [List.mem_append]
        constructor
        · rintro (a | a)
          · exact a
          · have a : (k : Int) = e := by simpa using a
            omega
        · exact .inl
      rw [show decide ((k : Int) ∈ E ++ [e]) = decide ((k : Int) ∈ E) from decide_eq_decide.2 this, decide_eq_false hke]
      simp
theorem setV_setV {U : List Int} {u : Int} {E : List Int} {e : Int} (h0 : 0 ≤ e) (h1 : e < U.length) : setV (setV U u E) u [e] = setV U u (E ++ [e]) := by
  rw [set1 h0 (by rw [setV_length]; exact h1), setV_snoc U u E h0 h1]
theorem out_nil (U : List Int) (u : Int) : outV U u [] = [] := by
  apply List.eq_nil_iff_forall_not_mem.2
  intro x hx
  obtain ⟨k, _, hk, _⟩ := pl_mem.1 hx
  simp at hk
def rks (l : List Int) (j : Nat) : List Int := (l.take j).map (· % 7)
theorem rks_succ {l : List Int} {j : Nat} (h : j < l.length) : rks l (j + 1) = rks l j ++ [l.getD j 0 % 7] := by
  rw [rks, take_snoc_ h, List.map_append]
  rfl
theorem rks_len {l : List Int} {j : Nat} (h : j ≤ l.length) : (rks l j).length = j := by
  rw [rks, List.length_map, List.length_take]
  omega
theorem rks_in (l : List Int) (j : Nat) : inE 7 (rks l j) = true := inE_iff.2 (fun e he => by
  obtain ⟨x, _, rfl⟩ := List.mem_map.1 he
  exact ⟨Int.emod_nonneg x (by decide), Int.emod_lt_of_pos x (by decide)⟩)
theorem in_app {n : Nat} {E F : List Int} : inE n (E ++ F) = (inE n E && inE n F) := by simp [inE]
theorem in_odd {odd : Int} (h : odd < 0 ∨ odd > 6) : inE 7 [odd] = false := by
  cases hh : inE 7 [odd] with
  | false => rfl
  | true =>
    have := inE_iff.1 hh odd (by simp)
    omega
/-- a row that is none yet, and one that is appended to it -/
theorem app0 {h0 hh : H} {po : Option (Nat × Nat)} {n sz : Nat} {ys : List V} (no : SlIs hh po n false sz ys) :
    SlIs (hh.push (.row true sz [])) (some (hh.next, 0)) 0 true sz [] ∧ SlIs (hh.push (.row true sz [])) po n false sz ys ∧
    ∀ p' h', SlIs h' p' (0 + n) true sz ([] ++ ys) → Ab.Mod (inSl (some (hh.next, 0))) (hh.push (.row true sz [])) h' → isFresh (hh.push (.row true sz [])) (some (hh.next, 0)) p' → NewSl hh h' p' n sz ys ∧ Ab.Mod none_ hh h' := by
  have mP := Mod.push none_ hh (.row true sz [])
  refine ⟨⟨by simp, .inr ⟨_, 0, true, [], rfl, H.obj_push_new _ _, fun e => e, by simp, by simp⟩⟩, SlIs.old no mP (fun _ _ k => k), fun p' h' hs hm hf => ⟨⟨by rw [Nat.zero_add] at hs; exact hs, fun i o e => ?_⟩, mP.trans' hm (fun _ _ k => k) (fun i hi k => ?_)⟩⟩
  · rcases hf i o e with k | k
    · rw [e] at k
      injection k with k
      injection k with k
      omega
    · exact Nat.le_trans (Nat.le_succ _) k
  · obtain ⟨o, k⟩ := k
    injection k with k
    injection k with k
    omega
/-- a row of one, and one that is appended to it -/
theorem app2 {hh : H} {po : Option (Nat × Nat)} {n sz : Nat} {ys : List V} (c : List V) (hc : c.length = sz) (no : SlIs hh po n false sz ys) :
    SlIs (hh.push (.row true sz c)) (some (hh.next, 0)) 1 true sz c ∧ SlIs (hh.push (.row true sz c)) po n false sz ys ∧
    ∀ p' h', SlIs h' p' (1 + n) true sz (c ++ ys) → Ab.Mod (inSl (some (hh.next, 0))) (hh.push (.row true sz c)) h' → isFresh (hh.push (.row true sz c)) (some (hh.next, 0)) p' → NewSl hh h' p' (1 + n) sz (c ++ ys) ∧ Ab.Mod none_ hh h' := by
  have mP := Mod.push none_ hh (.row true sz c)
  refine ⟨SlIs.row (n := 1) (H.obj_push_new _ _) (by rw [hc, Nat.one_mul]), SlIs.old no mP (fun _ _ k => k), fun p' h' hs hm hf => ⟨⟨hs, fun i o e => ?_⟩, mP.trans' hm (fun _ _ k => k) (fun i hi k => ?_)⟩⟩
  · rcases hf i o e with k | k
    · rw [e] at k
      injection k with k
      injection k with k
      omega
    · exact Nat.le_trans (Nat.le_succ _) k
  · obtain ⟨o, k⟩ := k
    injection k with k
    injection k with k
    omega
theorem shuts14 {h : H} {pl0 : Option (Nat × Nat)} {m : Nat} {l : List Int} (ro : RoSl h pl0 m 1 (ints .i64 l)) (u odd : Int) (o : Bool) : ACalls Try.prog 14 [.sl pl0 m, i64 u, i64 odd, .bool o] h (fun r _ => r = .bool true) := by
  have hl : m = l.length := slo_len ro.is
  refine call_ Try.func14 rfl rfl (by kernel_rfl) ?_
  conv => whnf
  refine br_mk (fun ha => ?_) (fun ha => ?_)
  · conv => whnf
    refine (awake43 h).mono ?_
    rintro _ h1 rfl
    conv => whnf
  conv => whnf
  have ha : m ≤ 20 := by
    have : ¬ (m : Int) > 20 := by simpa using ha
    omega
  refine br_mk (fun hb => ?_) (fun hb => ?_)
  · conv => whnf
    refine (awake43 h).mono ?_
    rintro _ h1 rfl
    conv => whnf
  conv => whnf
  have hb : 1 ≤ u := by
    have : ¬ u < 1 := by simpa using hb
    omega
  refine br_mk (fun hc => ?_) (fun hc => ?_)
  · conv => whnf
    refine (awake43 h).mono ?_
    rintro _ h1 rfl
    conv => whnf
  conv => whnf
  have hc : u ≤ 1000 := by
    have : ¬ u > 1000 := by simpa using hc
    omega
  refine (new44 h 7).mono ?_
  rintro _ h1 q
  obtain ⟨g, p, rfl, sa, _, m1⟩ := new_yes q rfl
  clear q
  conv => whnf
  refine (new44 h1 7).mono ?_
  rintro _ hB q
  obtain ⟨gr, pr, rfl, sb, fb, m2⟩ := new_yes q rfl
  clear q
  have apart : ∀ i, foot g p i → foot gr pr i → False := fun i a b => by
    have := sa.lt i a
    have := fb i b
    omega
  have sa : St hB g p [0, 0, 0, 0, 0, 0, 0] := sa.old m2 (fun _ _ k => k)
  have sb : St hB gr pr [0, 0, 0, 0, 0, 0, 0] := sb
  have ro := (ro.get m1).get m2
  have hpB : ∀ i, foot g p i → i < hB.next := sa.lt
  have hpB2 : ∀ i, foot gr pr i → i < hB.next := sb.lt
  clear fb
  conv => whnf
  refine ⟨fun env hh => ∃ (j : Nat) (z : Int) (po : Option (Nat × Nat)), j ≤ m ∧ z = j ∧ NewSl hB hh po j 1 (ints .i64 (rks l j)) ∧ Ab.Mod none_ hB hh ∧ env = [(12, i64 z), (11, .sl po j), (0, .sl pl0 m), (9, .ptr (some (g, 0))), (10, .ptr (some (gr, 0))), (1, i64 u), (2, i64 odd), (3, .bool o)],
    fun env _ => match get env 12 with
      | .int _ z => (m - z).toNat
      | _ => 0, ⟨_, Forget.cons rfl (Forget.cons rfl (Forget.cons rfl (Forget.cons rfl (Forget.cons rfl (Forget.cons rfl (Forget.cons rfl (Forget.cons rfl (Forget.nil _)))))))), 0, _, none, Nat.zero_le _, rfl, NewSl.nil _ _ _, ⟨Nat.le_refl _, fun _ _ _ => rfl⟩, rfl⟩, ?_⟩
  rintro _ hC ⟨j, z, po, hj, rfl, nk, mC, rfl⟩
  conv => whnf
  refine br_mk (fun hd => ?_) (fun hd => ?_)
  · conv => whnf
    have hd : j < m := by simpa using hd
    obtain ⟨i1, c1, f1, f2⟩ := slo_get (ro.get mC).is hd
    refine ⟨i1, c1, j, f1, rfl, hd, ?_⟩
    conv => whnf
    refine ⟨_, f2, ?_⟩
    conv => whnf
    refine (round19 (m := 7) (by decide) (by decide) _ _).mono ?_
    rintro _ h2 ⟨eh, rfl⟩
    subst eh
    conv => whnf
    obtain ⟨y1, y2, y3⟩ := app1 nk mC [i64 (l.getD j 0 % 7)] rfl
    refine ⟨_, _, y1, y2, by rw [show (T.at_ 3).bytes = 8 from rfl]; omega, by omega, fun py hY hs2 hm2 hf2 => ?_⟩
    obtain ⟨ny, my0, my⟩ := y3 py hY hs2 hm2 hf2
    have e6 : ints .i64 (rks l j) ++ [i64 (l.getD j 0 % 7)] = ints .i64 (rks l (j + 1)) := by rw [rks_succ (by omega), ints_append]; rfl
    rw [e6] at ny
    conv => whnf
    exact ⟨_, Forget.cons rfl (Forget.cons rfl (Forget.cons rfl (Forget.cons rfl (Forget.cons rfl (Forget.cons rfl (Forget.cons rfl (Forget.cons rfl (Forget.nil _)))))))), ⟨j + 1, _, py, hd, succ_i64 hd (by omega), ny, my0, rfl⟩, mu_lt hd (by omega)⟩
  conv => whnf
  have hd : m = j := by
    have : ¬ j < m := by simpa using hd
    omega
  subst hd
  have hkl : (rks l m).length = m := rks_len (by omega)
  have sa := sa.old mC (fun _ _ k => k)
  have sb := sb.old mC (fun _ _ k => k)
  -- Close(3, 1, 2, 3), of both
  obtain ⟨la, na⟩ := laid_row hC [1, 2, 3]
  refine (close46r (sa.old na (fun _ _ k => k)) la (by simp) (by decide) 3).mono (fun r h4 c => ?_)
  obtain ⟨q4, rfl, r4, sa, m4⟩ := c.val true [1, 2, 3] [0, 3, 3, 3, 0, 0, 0] (by decide) (by decide) (by decide)
  clear c
  have sb := (sb.old na (fun _ _ k => k)).get m4 (fun i a b => apart i (.inr b) a)
  have nk := NewSl.keep (NewSl.kept nk na) m4 (fun i hi => hpB i (.inr hi))
  conv => whnf
  obtain ⟨lb, nb⟩ := laid_row h4 [1, 2, 3]
  refine (close46r (sb.old nb (fun _ _ k => k)) lb (by simp) (by decide) 3).mono (fun r h5 c => ?_)
  obtain ⟨q5, rfl, r5, sb, m5⟩ := c.val true [1, 2, 3] [0, 3, 3, 3, 0, 0, 0] (by decide) (by decide) (by decide)
  clear c
  have sa := (sa.old nb (fun _ _ k => k)).get m5 (fun i a b => apart i a (.inr b))
  have nk := NewSl.keep (NewSl.kept nk nb) m5 (fun i hi => hpB2 i (.inr hi))
  conv => whnf
  refine (all55r sa (by decide)).mono ?_
  rintro _ h6 ⟨q13, rfl, rw13, m13⟩
  have sa := sa.old m13 (fun _ _ k => k)
  have sb := sb.old m13 (fun _ _ k => k)
  have nk := NewSl.kept nk m13
  conv => whnf
  obtain ⟨U0, hU0⟩ : ∃ U0 : List Int, U0 = [0, 3, 3, 3, 0, 0, 0] := ⟨_, rfl⟩
  rw [← hU0] at sa sb rw13 ⊢
  have hs0 : U0.length = 7 := by rw [hU0]; rfl
  have hin0 : inE U0.length (rks l m) = true := by rw [hs0]; exact rks_in l m
  have hur : inR u 1 1099511627776 = true := by rw [inR, decide_eq_true hb, decide_eq_true (show u ≤ 1099511627776 by omega)]; rfl
  have hok0 : okC U0.length u (rks l m) = true := by rw [okC, hur, hin0]; rfl
  have hBC : hB.next ≤ h6.next := by
    have := mC.next
    have := na.next
    have := m4.next
    have := nb.next
    have := m5.next
    have := m13.next
    omega
  have nkC : ∀ i o, po = some (i, o) → i < h6.next := fun i o e => SlIs.own_lt nk.1 ⟨o, e⟩
  clear la lb na nb m4 m5 m13 r4 r5
  refine br_mk (fun ho => ?_) (fun ho => ?_)
  · have hodd : odd < 0 ∨ odd > 6 := .inl (by simpa using ho)
    conv => whnf
    obtain ⟨z1, z2, z3⟩ := app0 (h0 := h6) nk.1.weak
    refine ⟨_, _, z1, z2, by rw [show (T.at_ 3).bytes = 8 from rfl]; omega, by omega, fun pz hZ hs hm hf => ?_⟩
    obtain ⟨nz, mz⟩ := z3 pz hZ hs hm hf
    rw [show 0 + m = m from Nat.zero_add m]
    have sa := sa.old mz (fun _ _ k => k)
    have sb := sb.old mz (fun _ _ k => k)
    have nk := NewSl.kept nk mz
    have rw13 := rw13.get mz
    conv => whnf
    obtain ⟨y1, y2, y3⟩ := app1 nz mz [i64 odd] rfl
    refine ⟨_, _, y1, y2, by rw [show (T.at_ 3).bytes = 8 from rfl]; omega, by omega, fun py hY hs2 hm2 hf2 => ?_⟩
    obtain ⟨ny, my0, my⟩ := y3 py hY hs2 hm2 hf2
    have sa := sa.apart (h0 := h6) my (fun i hi => Nat.lt_of_lt_of_le (hpB i hi) hBC) nz.2
    have sb := sb.apart (h0 := h6) my (fun i hi => Nat.lt_of_lt_of_le (hpB2 i hi) hBC) nz.2
    have nk : NewSl hB hY po m 1 (ints .i64 (rks l m)) := ⟨nk.1.get my (fun i o e => .inl (fun k => by
      obtain ⟨o2, k⟩ := k
      have := nz.2 i o2 k
      have := nkC i o e
      omega)), nk.2⟩
    have rw13 := rw13.get my
    have ny : SlIs hY py (m + 1) true 1 (ints .i64 (rks l m ++ [odd])) := by
      have := ny.1
      rw [ints_append]
      exact this
    conv => whnf
    refine (close46r sa ny.weak (by omega) (by rw [hs0]; decide) u).mono (fun r hD c => ?_)
    obtain ⟨q7, rfl, r7, sa, m7⟩ := c.val false [] U0 (by rw [okC, in_app, hs0, in_odd hodd, Bool.and_false, Bool.and_false]) rfl rfl
    clear c
    have sb := sb.get m7 (fun i a b => apart i (.inr b) a)
    have nk := NewSl.keep nk m7 (fun i hi => hpB i (.inr hi))
    have rw13 := rw13.get m7
    conv => whnf
    refine ⟨_, rfl, ?_⟩
    conv => whnf
    refine ⟨_, rfl, ?_⟩
    conv => whnf
    obtain ⟨x1, x2, x3⟩ := app2 [i64 odd] rfl nk.1.weak
    refine ⟨_, _, x1, x2, by rw [show (T.at_ 3).bytes = 8 from rfl]; omega, by omega, fun px hX hs3 hm3 hf3 => ?_⟩
    obtain ⟨nx, mx⟩ := x3 px hX hs3 hm3 hf3
    have sa := sa.old mx (fun _ _ k => k)
    have sb := sb.old mx (fun _ _ k => k)
    have nk := NewSl.kept nk mx
    have rw13 := rw13.get mx
    have nx : SlIs hX px (1 + m) true 1 (ints .i64 ([odd] ++ rks l m)) := by
      have := nx.1
      rw [ints_append]
      exact this
    conv => whnf
    refine (open48r sa nx.weak (by omega) (by rw [hs0]; decide)).mono (fun r hE c => ?_)
    obtain ⟨q8, rfl, r8, sa, m8⟩ := c.val false [] U0 (by rw [in_app, hs0, in_odd hodd, Bool.false_and]) rfl rfl
    clear c
    have sb := sb.get m8 (fun i a b => apart i (.inr b) a)
    have nk := NewSl.keep nk m8 (fun i hi => hpB i (.inr hi))
    have rw13 := rw13.get m8
    conv => whnf
    refine ⟨_, rfl, ?_⟩
    conv => whnf
    refine ⟨_, rfl, ?_⟩
    conv => whnf
    refine (all55r sa (by rw [hs0]; decide)).mono ?_
    rintro _ hF ⟨q9, rfl, r9, m9⟩
    have sa := sa.old m9 (fun _ _ k => k)
    have sb := sb.old m9 (fun _ _ k => k)
    have nk := NewSl.kept nk m9
    have rw13 := rw13.get m9
    conv => whnf
    refine (same54 r9.is rw13.is rfl rfl (by have := allV_len U0; omega)).mono ?_
    rintro _ hG ⟨eh, rfl⟩
    subst eh
    rw [decide_eq_true rfl]
    conv => whnf
    cases o with
    | true =>
      conv => whnf
      refine (open48r sa nk.1.weak (by omega) (by rw [hs0]; decide)).mono (fun r hD c => ?_)
      obtain ⟨q5, rfl, r5, sa, m5⟩ := c.val true (outV U0 0 (rks l m)) (setV U0 0 (rks l m)) hin0 rfl rfl
      clear c
      have sb := sb.get m5 (fun i a b => apart i (.inr b) a)
      have nk := NewSl.keep nk m5 (fun i hi => hpB i (.inr hi))
      conv => whnf
      refine ⟨_, rfl, ?_⟩
      conv => whnf
      refine ⟨_, rfl, ?_⟩
      conv => whnf
      refine ⟨fun env hk => ∃ (i : Nat) (zi zm : Int), i ≤ m ∧ zi = i ∧ zm = (outV U0 0 ((rks l m).take i)).length ∧ St hk g p (setV U0 0 (rks l m)) ∧ St hk gr pr (setV U0 0 ((rks l m).take i)) ∧ NewSl hB hk po m 1 (ints .i64 (rks l m)) ∧ env = [(24, i64 zi), (19, i64 zm), (18, i64 (outV U0 0 (rks l m)).length), (11, .sl po m), (3, .bool true), (9, .ptr (some (g, 0))), (10, .ptr (some (gr, 0))), (1, i64 u)],
        fun env _ => match get env 24 with
          | .int _ z => (m - z).toNat
          | _ => 0, ⟨_, Forget.cons rfl (Forget.cons rfl (Forget.cons rfl (Forget.cons rfl (Forget.cons rfl (Forget.cons rfl (Forget.cons rfl (Forget.cons rfl (Forget.nil _)))))))), 0, _, 0, Nat.zero_le _, rfl, (by rw [List.take_zero, out_nil]; rfl), sa, by rw [List.take_zero, setV_nil]; exact sb, nk, rfl⟩, ?_⟩
      clear sa sb nk
      rintro _ hK ⟨i, zi, zm, hi, rfl, rfl, sa, sb, nk, rfl⟩
      conv => whnf
      refine br_mk (fun hy => ?_) (fun hy => ?_)
      · conv => whnf
        have hy : i < m := by simpa using hy
        have hyl : i < (rks l m).length := by omega
        obtain ⟨i1, c1, f1, f2⟩ := slo_get nk.1 hy
        refine ⟨i1, c1, i, f1, rfl, hy, ?_⟩
        conv => whnf
        refine ⟨_, f2, ?_⟩
        conv => whnf
        obtain ⟨hx0, hx1⟩ := inE_iff.1 (rks_in l m) _ (getD_in hyl)
        have hsn : (rks l m).take (i + 1) = (rks l m).take i ++ [(rks l m).getD i 0] := take_snoc_ hyl
        generalize (rks l m).getD i 0 = e at f2 hx0 hx1 hsn ⊢
        obtain ⟨lr, nr⟩ := laid_row hK [e]
        have hsl := setV_length U0 0 ((rks l m).take i)
        refine (open48r (sb.old nr (fun _ _ k => k)) lr (by simp) (by rw [hsl, hs0]; decide)).mono (fun r hE c => ?_)
        obtain ⟨q6, rfl, r6, sb, m6⟩ := c.val true (outV (setV U0 0 ((rks l m).take i)) 0 [e]) (setV U0 0 ((rks l m).take (i + 1))) (in1 hx0 (by rw [setV_length, hs0]; omega)) rfl (by rw [hsn]; exact setV_setV hx0 (by rw [hs0]; omega))
        clear c
        have sa := (sa.old nr (fun _ _ k => k)).get m6 (fun i a b => apart i a (.inr b))
        have nk := NewSl.keep (NewSl.kept nk nr) m6 (fun i hi => hpB2 i (.inr hi))
        conv => whnf
        refine ⟨_, rfl, ?_⟩
        conv => whnf
        refine ⟨_, rfl, ?_⟩
        conv => whnf
        have hsum := out_snoc_len (U := U0) (u := 0) (E := (rks l m).take i) hx0 (by rw [hs0]; omega)
        rw [← hsn] at hsum
        have hb1 : (outV U0 0 ((rks l m).take (i + 1))).length ≤ U0.length := pl_le _ _
        have hw : IntKind.i64.wrap (((outV U0 0 ((rks l m).take i)).length : Int) + ((outV (setV U0 0 ((rks l m).take i)) 0 [e]).length : Int)) = ((outV U0 0 ((rks l m).take (i + 1))).length : Int) := by
          rw [wrap_i64 (by omega) (by omega)]
          omega
        rw [hw]
        exact ⟨_, Forget.cons rfl (Forget.cons rfl (Forget.cons rfl (Forget.cons rfl (Forget.cons rfl (Forget.cons rfl (Forget.cons rfl (Forget.cons rfl (Forget.nil _)))))))), ⟨i + 1, _, _, hy, succ_i64 hy (by omega), rfl, sa, sb, nk, rfl⟩, mu_lt hy (by omega)⟩
      · conv => whnf
        have hy : i = m := by
          have : ¬ i < m := by simpa using hy
          omega
        subst hy
        have etk : (rks l i).take i = rks l i := List.take_of_length_le (by omega)
        rw [etk] at sb ⊢
        refine br_mk (fun hz => ?_) (fun hz => ?_)
        rotate_left
        · exact absurd hz (by simp)
        conv => whnf
        have hsl := setV_length U0 0 (rks l i)
        have hal := allV_len (setV U0 0 (rks l i))
        refine (all55r sa (by rw [hsl, hs0]; decide)).mono ?_
        rintro _ hX ⟨qa, rfl, ra, mA⟩
        conv => whnf
        refine (all55r (sb.old mA (fun _ _ k => k)) (by rw [hsl, hs0]; decide)).mono ?_
        rintro _ hX2 ⟨qb, rfl, rb, mB⟩
        conv => whnf
        refine (same54 (ra.get mB).is rb.is rfl rfl (by omega)).mono ?_
        rintro _ hX3 ⟨eh, rfl⟩
        subst eh
        rw [decide_eq_true rfl]
        conv => whnf
        refine (awake43 _).mono ?_
        rintro _ hX4 rfl
        conv => whnf
    | false =>
      conv => whnf
      refine (close46r sa nk.1.weak (by omega) (by rw [hs0]; decide) u).mono (fun r hD c => ?_)
      obtain ⟨q5, rfl, r5, sa, m5⟩ := c.val true (outV U0 u (rks l m)) (setV U0 u (rks l m)) hok0 rfl rfl
      clear c
      have sb := sb.get m5 (fun i a b => apart i (.inr b) a)
      have nk := NewSl.keep nk m5 (fun i hi => hpB i (.inr hi))
      conv => whnf
      refine ⟨_, rfl, ?_⟩
      conv => whnf
      refine ⟨_, rfl, ?_⟩
      conv => whnf
      refine ⟨fun env hk => ∃ (i : Nat) (zi zm : Int), i ≤ m ∧ zi = i ∧ zm = (outV U0 u ((rks l m).take i)).length ∧ St hk g p (setV U0 u (rks l m)) ∧ St hk gr pr (setV U0 u ((rks l m).take i)) ∧ NewSl hB hk po m 1 (ints .i64 (rks l m)) ∧ env = [(24, i64 zi), (19, i64 zm), (18, i64 (outV U0 u (rks l m)).length), (11, .sl po m), (3, .bool false), (9, .ptr (some (g, 0))), (10, .ptr (some (gr, 0))), (1, i64 u)],
        fun env _ => match get env 24 with
          | .int _ z => (m - z).toNat
          | _ => 0, ⟨_, Forget.cons rfl (Forget.cons rfl (Forget.cons rfl (Forget.cons rfl (Forget.cons rfl (Forget.cons rfl (Forget.cons rfl (Forget.cons rfl (Forget.nil _)))))))), 0, _, 0, Nat.zero_le _, rfl, (by rw [List.take_zero, out_nil]; rfl), sa, by rw [List.take_zero, setV_nil]; exact sb, nk, rfl⟩, ?_⟩
      clear sa sb nk
      rintro _ hK ⟨i, zi, zm, hi, rfl, rfl, sa, sb, nk, rfl⟩
      conv => whnf
      refine br_mk (fun hy => ?_) (fun hy => ?_)
      · conv => whnf
        have hy : i < m := by simpa using hy
        have hyl : i < (rks l m).length := by omega
        obtain ⟨i1, c1, f1, f2⟩ := slo_get nk.1 hy
        refine ⟨i1, c1, i, f1, rfl, hy, ?_⟩
        conv => whnf
        refine ⟨_, f2, ?_⟩
        conv => whnf
        obtain ⟨hx0, hx1⟩ := inE_iff.1 (rks_in l m) _ (getD_in hyl)
        have hsn : (rks l m).take (i + 1) = (rks l m).take i ++ [(rks l m).getD i 0] := take_snoc_ hyl
        generalize (rks l m).getD i 0 = e at f2 hx0 hx1 hsn ⊢
        obtain ⟨lr, nr⟩ := laid_row hK [e]
        have hsl := setV_length U0 u ((rks l m).take i)
        refine (close46r (sb.old nr (fun _ _ k => k)) lr (by simp) (by rw [hsl, hs0]; decide) u).mono (fun r hE c => ?_)
        obtain ⟨q6, rfl, r6, sb, m6⟩ := c.val true (outV (setV U0 u ((rks l m).take i)) u [e]) (setV U0 u ((rks l m).take (i + 1))) (by rw [okC, hur, in1 hx0 (by rw [setV_length, hs0]; omega)]; rfl) rfl (by rw [hsn]; exact setV_setV hx0 (by rw [hs0]; omega))
        clear c
        have sa := (sa.old nr (fun _ _ k => k)).get m6 (fun i a b => apart i a (.inr b))
        have nk := NewSl.keep (NewSl.kept nk nr) m6 (fun i hi => hpB2 i (.inr hi))
        conv => whnf
        refine ⟨_, rfl, ?_⟩
        conv => whnf
        refine ⟨_, rfl, ?_⟩
        conv => whnf
        have hsum := out_snoc_len (U := U0) (u := u) (E := (rks l m).take i) hx0 (by rw [hs0]; omega)
        rw [← hsn] at hsum
        have hb1 : (outV U0 u ((rks l m).take (i + 1))).length ≤ U0.length := pl_le _ _
        have hw : IntKind.i64.wrap (((outV U0 u ((rks l m).take i)).length : Int) + ((outV (setV U0 u ((rks l m).take i)) u [e]).length : Int)) = ((outV U0 u ((rks l m).take (i + 1))).length : Int) := by
          rw [wrap_i64 (by omega) (by omega)]
          omega
        rw [hw]
        exact ⟨_, Forget.cons rfl (Forget.cons rfl (Forget.cons rfl (Forget.cons rfl (Forget.cons rfl (Forget.cons rfl (Forget.cons rfl (Forget.cons rfl (Forget.nil _)))))))), ⟨i + 1, _, _, hy, succ_i64 hy (by omega), rfl, sa, sb, nk, rfl⟩, mu_lt hy (by omega)⟩
      · conv => whnf
        have hy : i = m := by
          have : ¬ i < m := by simpa using hy
          omega
        subst hy
        have etk : (rks l i).take i = rks l i := List.take_of_length_le (by omega)
        rw [etk] at sb ⊢
        refine br_mk (fun hz => ?_) (fun hz => ?_)
        rotate_left
        · exact absurd hz (by simp)
        conv => whnf
        have hsl := setV_length U0 u (rks l i)
        have hal := allV_len (setV U0 u (rks l i))
        refine (all55r sa (by rw [hsl, hs0]; decide)).mono ?_
        rintro _ hX ⟨qa, rfl, ra, mA⟩
        conv => whnf
        refine (all55r (sb.old mA (fun _ _ k => k)) (by rw [hsl, hs0]; decide)).mono ?_
        rintro _ hX2 ⟨qb, rfl, rb, mB⟩
        conv => whnf
        refine (same54 (ra.get mB).is rb.is rfl rfl (by omega)).mono ?_
        rintro _ hX3 ⟨eh, rfl⟩
        subst eh
        rw [decide_eq_true rfl]
        conv => whnf
        refine (awake43 _).mono ?_
        rintro _ hX4 rfl
        conv => whnf
  conv => whnf
  refine br_mk (fun ho2 => ?_) (fun ho2 => ?_)
  · have hodd : odd < 0 ∨ odd > 6 := .inr (by simpa using ho2)
    conv => whnf
    obtain ⟨z1, z2, z3⟩ := app0 (h0 := h6) nk.1.weak
    refine ⟨_, _, z1, z2, by rw [show (T.at_ 3).bytes = 8 from rfl]; omega, by omega, fun pz hZ hs hm hf => ?_⟩
    obtain ⟨nz, mz⟩ := z3 pz hZ hs hm hf
    rw [show 0 + m = m from Nat.zero_add m]
    have sa := sa.old mz (fun _ _ k => k)
    have sb := sb.old mz (fun _ _ k => k)
    have nk := NewSl.kept nk mz
    have rw13 := rw13.get mz
    conv => whnf
    obtain ⟨y1, y2, y3⟩ := app1 nz mz [i64 odd] rfl
    refine ⟨_, _, y1, y2, by rw [show (T.at_ 3).bytes = 8 from rfl]; omega, by omega, fun py hY hs2 hm2 hf2 => ?_⟩
    obtain ⟨ny, my0, my⟩ := y3 py hY hs2 hm2 hf2
    have sa := sa.apart (h0 := h6) my (fun i hi => Nat.lt_of_lt_of_le (hpB i hi) hBC) nz.2
    have sb := sb.apart (h0 := h6) my (fun i hi => Nat.lt_of_lt_of_le (hpB2 i hi) hBC) nz.2
    have nk : NewSl hB hY po m 1 (ints .i64 (rks l m)) := ⟨nk.1.get my (fun i o e => .inl (fun k => by
      obtain ⟨o2, k⟩ := k
      have := nz.2 i o2 k
      have := nkC i o e
      omega)), nk.2⟩
    have rw13 := rw13.get my
    have ny : SlIs hY py (m + 1) true 1 (ints .i64 (rks l m ++ [odd])) := by
      have := ny.1
      rw [ints_append]
      exact this
    conv => whnf
    refine (close46r sa ny.weak (by omega) (by rw [hs0]; decide) u).mono (fun r hD c => ?_)
    obtain ⟨q7, rfl, r7, sa, m7⟩ := c.val false [] U0 (by rw [okC, in_app, hs0, in_odd hodd, Bool.and_false, Bool.and_false]) rfl rfl
    clear c
    have sb := sb.get m7 (fun i a b => apart i (.inr b) a)
    have nk := NewSl.keep nk m7 (fun i hi => hpB i (.inr hi))
    have rw13 := rw13.get m7
    conv => whnf
    refine ⟨_, rfl, ?_⟩
    conv => whnf
    refine ⟨_, rfl, ?_⟩
    conv => whnf
    obtain ⟨x1, x2, x3⟩ := app2 [i64 odd] rfl nk.1.weak
    refine ⟨_, _, x1, x2, by rw [show (T.at_ 3).bytes = 8 from rfl]; omega, by omega, fun px hX hs3 hm3 hf3 => ?_⟩
    obtain ⟨nx, mx⟩ := x3 px hX hs3 hm3 hf3
    have sa := sa.old mx (fun _ _ k => k)
    have sb := sb.old mx (fun _ _ k => k)
    have nk := NewSl.kept nk mx
    have rw13 := rw13.get mx
    have nx : SlIs hX px (1 + m) true 1 (ints .i64 ([odd] ++ rks l m)) := by
      have := nx.1
      rw [ints_append]
      exact this
    conv => whnf
    refine (open48r sa nx.weak (by omega) (by rw [hs0]; decide)).mono (fun r hE c => ?_)
    obtain ⟨q8, rfl, r8, sa, m8⟩ := c.val false [] U0 (by rw [in_app, hs0, in_odd hodd, Bool.false_and]) rfl rfl
    clear c
    have sb := sb.get m8 (fun i a b => apart i (.inr b) a)
    have nk := NewSl.keep nk m8 (fun i hi => hpB i (.inr hi))
    have rw13 := rw13.get m8
    conv => whnf
    refine ⟨_, rfl, ?_⟩
    conv => whnf
    refine ⟨_, rfl, ?_⟩
    conv => whnf
    refine (all55r sa (by rw [hs0]; decide)).mono ?_
    rintro _ hF ⟨q9, rfl, r9, m9⟩
    have sa := sa.old m9 (fun _ _ k => k)
    have sb := sb.old m9 (fun _ _ k => k)
    have nk := NewSl.kept nk m9
    have rw13 := rw13.get m9
    conv => whnf
    refine (same54 r9.is rw13.is rfl rfl (by have := allV_len U0; omega)).mono ?_
    rintro _ hG ⟨eh, rfl⟩
    subst eh
    rw [decide_eq_true rfl]
    conv => whnf
    cases o with
    | true =>
      conv => whnf
      refine (open48r sa nk.1.weak (by omega) (by rw [hs0]; decide)).mono (fun r hD c => ?_)
      obtain ⟨q5, rfl, r5, sa, m5⟩ := c.val true (outV U0 0 (rks l m)) (setV U0 0 (rks l m)) hin0 rfl rfl
      clear c
      have sb := sb.get m5 (fun i a b => apart i (.inr b) a)
      have nk := NewSl.keep nk m5 (fun i hi => hpB i (.inr hi))
      conv => whnf
      refine ⟨_, rfl, ?_⟩
      conv => whnf
      refine ⟨_, rfl, ?_⟩
      conv => whnf
      refine ⟨fun env hk => ∃ (i : Nat) (zi zm : Int), i ≤ m ∧ zi = i ∧ zm = (outV U0 0 ((rks l m).take i)).length ∧ St hk g p (setV U0 0 (rks l m)) ∧ St hk gr pr (setV U0 0 ((rks l m).take i)) ∧ NewSl hB hk po m 1 (ints .i64 (rks l m)) ∧ env = [(24, i64 zi), (19, i64 zm), (18, i64 (outV U0 0 (rks l m)).length), (11, .sl po m), (3, .bool true), (9, .ptr (some (g, 0))), (10, .ptr (some (gr, 0))), (1, i64 u)],
        fun env _ => match get env 24 with
          | .int _ z => (m - z).toNat
          | _ => 0, ⟨_, Forget.cons rfl (Forget.cons rfl (Forget.cons rfl (Forget.cons rfl (Forget.cons rfl (Forget.cons rfl (Forget.cons rfl (Forget.cons rfl (Forget.nil _)))))))), 0, _, 0, Nat.zero_le _, rfl, (by rw [List.take_zero, out_nil]; rfl), sa, by rw [List.take_zero, setV_nil]; exact sb, nk, rfl⟩, ?_⟩
      clear sa sb nk
      rintro _ hK ⟨i, zi, zm, hi, rfl, rfl, sa, sb, nk, rfl⟩
      conv => whnf
      refine br_mk (fun hy => ?_) (fun hy => ?_)
      · conv => whnf
        have hy : i < m := by simpa using hy
        have hyl : i < (rks l m).length := by omega
        obtain ⟨i1, c1, f1, f2⟩ := slo_get nk.1 hy
        refine ⟨i1, c1, i, f1, rfl, hy, ?_⟩
        conv => whnf
        refine ⟨_, f2, ?_⟩
        conv => whnf
        obtain ⟨hx0, hx1⟩ := inE_iff.1 (rks_in l m) _ (getD_in hyl)
        have hsn : (rks l m).take (i + 1) = (rks l m).take i ++ [(rks l m).getD i 0] := take_snoc_ hyl
        generalize (rks l m).getD i 0 = e at f2 hx0 hx1 hsn ⊢
        obtain ⟨lr, nr⟩ := laid_row hK [e]
        have hsl := setV_length U0 0 ((rks l m).take i)
        refine (open48r (sb.old nr (fun _ _ k => k)) lr (by simp) (by rw [hsl, hs0]; decide)).mono (fun r hE c => ?_)
        obtain ⟨q6, rfl, r6, sb, m6⟩ := c.val true (outV (setV U0 0 ((rks l m).take i)) 0 [e]) (setV U0 0 ((rks l m).take (i + 1))) (in1 hx0 (by rw [setV_length, hs0]; omega)) rfl (by rw [hsn]; exact setV_setV hx0 (by rw [hs0]; omega))
        clear c
        have sa := (sa.old nr (fun _ _ k => k)).get m6 (fun i a b => apart i a (.inr b))
        have nk := NewSl.keep (NewSl.kept nk nr) m6 (fun i hi => hpB2 i (.inr hi))
        conv => whnf
        refine ⟨_, rfl, ?_⟩
        conv => whnf
        refine ⟨_, rfl, ?_⟩
        conv => whnf
        have hsum := out_snoc_len (U := U0) (u := 0) (E := (rks l m).take i) hx0 (by rw [hs0]; omega)
        rw [← hsn] at hsum
        have hb1 : (outV U0 0 ((rks l m).take (i + 1))).length ≤ U0.length := pl_le _ _
        have hw : IntKind.i64.wrap (((outV U0 0 ((rks l m).take i)).length : Int) + ((outV (setV U0 0 ((rks l m).take i)) 0 [e]).length : Int)) = ((outV U0 0 ((rks l m).take (i + 1))).length : Int) := by
          rw [wrap_i64 (by omega) (by omega)]
          omega
        rw [hw]
        exact ⟨_, Forget.cons rfl (Forget.cons rfl (Forget.cons rfl (Forget.cons rfl (Forget.cons rfl (Forget.cons rfl (Forget.cons rfl (Forget.cons rfl (Forget.nil _)))))))), ⟨i + 1, _, _, hy, succ_i64 hy (by omega), rfl, sa, sb, nk, rfl⟩, mu_lt hy (by omega)⟩
      · conv => whnf
        have hy : i = m := by
          have : ¬ i < m := by simpa using hy
          omega
        subst hy
        have etk : (rks l i).take i = rks l i := List.take_of_length_le (by omega)
        rw [etk] at sb ⊢
        refine br_mk (fun hz => ?_) (fun hz => ?_)
        rotate_left
        · exact absurd hz (by simp)
        conv => whnf
        have hsl := setV_length U0 0 (rks l i)
        have hal := allV_len (setV U0 0 (rks l i))
        refine (all55r sa (by rw [hsl, hs0]; decide)).mono ?_
        rintro _ hX ⟨qa, rfl, ra, mA⟩
        conv => whnf
        refine (all55r (sb.old mA (fun _ _ k => k)) (by rw [hsl, hs0]; decide)).mono ?_
        rintro _ hX2 ⟨qb, rfl, rb, mB⟩
        conv => whnf
        refine (same54 (ra.get mB).is rb.is rfl rfl (by omega)).mono ?_
        rintro _ hX3 ⟨eh, rfl⟩
        subst eh
        rw [decide_eq_true rfl]
        conv => whnf
        refine (awake43 _).mono ?_
        rintro _ hX4 rfl
        conv => whnf
    | false =>
      conv => whnf
      refine (close46r sa nk.1.weak (by omega) (by rw [hs0]; decide) u).mono (fun r hD c => ?_)
      obtain ⟨q5, rfl, r5, sa, m5⟩ := c.val true (outV U0 u (rks l m)) (setV U0 u (rks l m)) hok0 rfl rfl
      clear c
      have sb := sb.get m5 (fun i a b => apart i (.inr b) a)
      have nk := NewSl.keep nk m5 (fun i hi => hpB i (.inr hi))
      conv => whnf
      refine ⟨_, rfl, ?_⟩
      conv => whnf
      refine ⟨_, rfl, ?_⟩
      conv => whnf
      refine ⟨fun env hk => ∃ (i : Nat) (zi zm : Int), i ≤ m ∧ zi = i ∧ zm = (outV U0 u ((rks l m).take i)).length ∧ St hk g p (setV U0 u (rks l m)) ∧ St hk gr pr (setV U0 u ((rks l m).take i)) ∧ NewSl hB hk po m 1 (ints .i64 (rks l m)) ∧ env = [(24, i64 zi), (19, i64 zm), (18, i64 (outV U0 u (rks l m)).length), (11, .sl po m), (3, .bool false), (9, .ptr (some (g, 0))), (10, .ptr (some (gr, 0))), (1, i64 u)],
        fun env _ => match get env 24 with
          | .int _ z => (m - z).toNat
          | _ => 0, ⟨_, Forget.cons rfl (Forget.cons rfl (Forget.cons rfl (Forget.cons rfl (Forget.cons rfl (Forget.cons rfl (Forget.cons rfl (Forget.cons rfl (Forget.nil _)))))))), 0, _, 0, Nat.zero_le _, rfl, (by rw [List.take_zero, out_nil]; rfl), sa, by rw [List.take_zero, setV_nil]; exact sb, nk, rfl⟩, ?_⟩
      clear sa sb nk
      rintro _ hK ⟨i, zi, zm, hi, rfl, rfl, sa, sb, nk, rfl⟩
      conv => whnf
      refine br_mk (fun hy => ?_) (fun hy => ?_)
      · conv => whnf
        have hy : i < m := by simpa using hy
        have hyl : i < (rks l m).length := by omega
        obtain ⟨i1, c1, f1, f2⟩ := slo_get nk.1 hy
        refine ⟨i1, c1, i, f1, rfl, hy, ?_⟩
        conv => whnf
        refine ⟨_, f2, ?_⟩
        conv => whnf
        obtain ⟨hx0, hx1⟩ := inE_iff.1 (rks_in l m) _ (getD_in hyl)
        have hsn : (rks l m).take (i + 1) = (rks l m).take i ++ [(rks l m).getD i 0] := take_snoc_ hyl
        generalize (rks l m).getD i 0 = e at f2 hx0 hx1 hsn ⊢
        obtain ⟨lr, nr⟩ := laid_row hK [e]
        have hsl := setV_length U0 u ((rks l m).take i)
        refine (close46r (sb.old nr (fun _ _ k => k)) lr (by simp) (by rw [hsl, hs0]; decide) u).mono (fun r hE c => ?_)
        obtain ⟨q6, rfl, r6, sb, m6⟩ := c.val true (outV (setV U0 u ((rks l m).take i)) u [e]) (setV U0 u ((rks l m).take (i + 1))) (by rw [okC, hur, in1 hx0 (by rw [setV_length, hs0]; omega)]; rfl) rfl (by rw [hsn]; exact setV_setV hx0 (by rw [hs0]; omega))
        clear c
        have sa := (sa.old nr (fun _ _ k => k)).get m6 (fun i a b => apart i a (.inr b))
        have nk := NewSl.keep (NewSl.kept nk nr) m6 (fun i hi => hpB2 i (.inr hi))
        conv => whnf
        refine ⟨_, rfl, ?_⟩
        conv => whnf
        refine ⟨_, rfl, ?_⟩
        conv => whnf
        have hsum := out_snoc_len (U := U0) (u := u) (E := (rks l m).take i) hx0 (by rw [hs0]; omega)
        rw [← hsn] at hsum
        have hb1 : (outV U0 u ((rks l m).take (i + 1))).length ≤ U0.length := pl_le _ _
        have hw : IntKind.i64.wrap (((outV U0 u ((rks l m).take i)).length : Int) + ((outV (setV U0 u ((rks l m).take i)) u [e]).length : Int)) = ((outV U0 u ((rks l m).take (i + 1))).length : Int) := by
          rw [wrap_i64 (by omega) (by omega)]
          omega
        rw [hw]
        exact ⟨_, Forget.cons rfl (Forget.cons rfl (Forget.cons rfl (Forget.cons rfl (Forget.cons rfl (Forget.cons rfl (Forget.cons rfl (Forget.cons rfl (Forget.nil _)))))))), ⟨i + 1, _, _, hy, succ_i64 hy (by omega), rfl, sa, sb, nk, rfl⟩, mu_lt hy (by omega)⟩
      · conv => whnf
        have hy : i = m := by
          have : ¬ i < m := by simpa using hy
          omega
        subst hy
        have etk : (rks l i).take i = rks l i := List.take_of_length_le (by omega)
        rw [etk] at sb ⊢
        refine br_mk (fun hz => ?_) (fun hz => ?_)
        rotate_left
        · exact absurd hz (by simp)
        conv => whnf
        have hsl := setV_length U0 u (rks l i)
        have hal := allV_len (setV U0 u (rks l i))
        refine (all55r sa (by rw [hsl, hs0]; decide)).mono ?_
        rintro _ hX ⟨qa, rfl, ra, mA⟩
        conv => whnf
        refine (all55r (sb.old mA (fun _ _ k => k)) (by rw [hsl, hs0]; decide)).mono ?_
        rintro _ hX2 ⟨qb, rfl, rb, mB⟩
        conv => whnf
        refine (same54 (ra.get mB).is rb.is rfl rfl (by omega)).mono ?_
        rintro _ hX3 ⟨eh, rfl⟩
        subst eh
        rw [decide_eq_true rfl]
        conv => whnf
        refine (awake43 _).mono ?_
        rintro _ hX4 rfl
        conv => whnf
  · skip
    conv => whnf
    cases o with
    | true =>
      conv => whnf
      refine (open48r sa nk.1.weak (by omega) (by rw [hs0]; decide)).mono (fun r hD c => ?_)
      obtain ⟨q5, rfl, r5, sa, m5⟩ := c.val true (outV U0 0 (rks l m)) (setV U0 0 (rks l m)) hin0 rfl rfl
      clear c
      have sb := sb.get m5 (fun i a b => apart i (.inr b) a)
      have nk := NewSl.keep nk m5 (fun i hi => hpB i (.inr hi))
      conv => whnf
      refine ⟨_, rfl, ?_⟩
      conv => whnf
      refine ⟨_, rfl, ?_⟩
      conv => whnf
      refine ⟨fun env hk => ∃ (i : Nat) (zi zm : Int), i ≤ m ∧ zi = i ∧ zm = (outV U0 0 ((rks l m).take i)).length ∧ St hk g p (setV U0 0 (rks l m)) ∧ St hk gr pr (setV U0 0 ((rks l m).take i)) ∧ NewSl hB hk po m 1 (ints .i64 (rks l m)) ∧ env = [(24, i64 zi), (19, i64 zm), (18, i64 (outV U0 0 (rks l m)).length), (11, .sl po m), (3, .bool true), (9, .ptr (some (g, 0))), (10, .ptr (some (gr, 0))), (1, i64 u)],
        fun env _ => match get env 24 with
          | .int _ z => (m - z).toNat
          | _ => 0, ⟨_, Forget.cons rfl (Forget.cons rfl (Forget.cons rfl (Forget.cons rfl (Forget.cons rfl (Forget.cons rfl (Forget.cons rfl (Forget.cons rfl (Forget.nil _)))))))), 0, _, 0, Nat.zero_le _, rfl, (by rw [List.take_zero, out_nil]; rfl), sa, by rw [List.take_zero, setV_nil]; exact sb, nk, rfl⟩, ?_⟩
      clear sa sb nk
      rintro _ hK ⟨i, zi, zm, hi, rfl, rfl, sa, sb, nk, rfl⟩
      conv => whnf
      refine br_mk (fun hy => ?_) (fun hy => ?_)
      · conv => whnf
        have hy : i < m := by simpa using hy
        have hyl : i < (rks l m).length := by omega
        obtain ⟨i1, c1, f1, f2⟩ := slo_get nk.1 hy
        refine ⟨i1, c1, i, f1, rfl, hy, ?_⟩
        conv => whnf
        refine ⟨_, f2, ?_⟩
        conv => whnf
        obtain ⟨hx0, hx1⟩ := inE_iff.1 (rks_in l m) _ (getD_in hyl)
        have hsn : (rks l m).take (i + 1) = (rks l m).take i ++ [(rks l m).getD i 0] := take_snoc_ hyl
        generalize (rks l m).getD i 0 = e at f2 hx0 hx1 hsn ⊢
        obtain ⟨lr, nr⟩ := laid_row hK [e]
        have hsl := setV_length U0 0 ((rks l m).take i)
        refine (open48r (sb.old nr (fun _ _ k => k)) lr (by simp) (by rw [hsl, hs0]; decide)).mono (fun r hE c => ?_)
        obtain ⟨q6, rfl, r6, sb, m6⟩ := c.val true (outV (setV U0 0 ((rks l m).take i)) 0 [e]) (setV U0 0 ((rks l m).take (i + 1))) (in1 hx0 (by rw [setV_length, hs0]; omega)) rfl (by rw [hsn]; exact setV_setV hx0 (by rw [hs0]; omega))
        clear c
        have sa := (sa.old nr (fun _ _ k => k)).get m6 (fun i a b => apart i a (.inr b))
        have nk := NewSl.keep (NewSl.kept nk nr) m6 (fun i hi => hpB2 i (.inr hi))
        conv => whnf
        refine ⟨_, rfl, ?_⟩
        conv => whnf
        refine ⟨_, rfl, ?_⟩
        conv => whnf
        have hsum := out_snoc_len (U := U0) (u := 0) (E := (rks l m).take i) hx0 (by rw [hs0]; omega)
        rw [← hsn] at hsum
        have hb1 : (outV U0 0 ((rks l m).take (i + 1))).length ≤ U0.length := pl_le _ _
        have hw : IntKind.i64.wrap (((outV U0 0 ((rks l m).take i)).length : Int) + ((outV (setV U0 0 ((rks l m).take i)) 0 [e]).length : Int)) = ((outV U0 0 ((rks l m).take (i + 1))).length : Int) := by
          rw [wrap_i64 (by omega) (by omega)]
          omega
        rw [hw]
        exact ⟨_, Forget.cons rfl (Forget.cons rfl (Forget.cons rfl (Forget.cons rfl (Forget.cons rfl (Forget.cons rfl (Forget.cons rfl (Forget.cons rfl (Forget.nil _)))))))), ⟨i + 1, _, _, hy, succ_i64 hy (by omega), rfl, sa, sb, nk, rfl⟩, mu_lt hy (by omega)⟩
      · conv => whnf
        have hy : i = m := by
          have : ¬ i < m := by simpa using hy
          omega
        subst hy
        have etk : (rks l i).take i = rks l i := List.take_of_length_le (by omega)
        rw [etk] at sb ⊢
        refine br_mk (fun hz => ?_) (fun hz => ?_)
        rotate_left
        · exact absurd hz (by simp)
        conv => whnf
        have hsl := setV_length U0 0 (rks l i)
        have hal := allV_len (setV U0 0 (rks l i))
        refine (all55r sa (by rw [hsl, hs0]; decide)).mono ?_
        rintro _ hX ⟨qa, rfl, ra, mA⟩
        conv => whnf
        refine (all55r (sb.old mA (fun _ _ k => k)) (by rw [hsl, hs0]; decide)).mono ?_
        rintro _ hX2 ⟨qb, rfl, rb, mB⟩
        conv => whnf
        refine (same54 (ra.get mB).is rb.is rfl rfl (by omega)).mono ?_
        rintro _ hX3 ⟨eh, rfl⟩
        subst eh
        rw [decide_eq_true rfl]
        conv => whnf
        refine (awake43 _).mono ?_
        rintro _ hX4 rfl
        conv => whnf
    | false =>
      conv => whnf
      refine (close46r sa nk.1.weak (by omega) (by rw [hs0]; decide) u).mono (fun r hD c => ?_)
      obtain ⟨q5, rfl, r5, sa, m5⟩ := c.val true (outV U0 u (rks l m)) (setV U0 u (rks l m)) hok0 rfl rfl
      clear c
      have sb := sb.get m5 (fun i a b => apart i (.inr b) a)
      have nk := NewSl.keep nk m5 (fun i hi => hpB i (.inr hi))
      conv => whnf
      refine ⟨_, rfl, ?_⟩
      conv => whnf
      refine ⟨_, rfl, ?_⟩
      conv => whnf
      refine ⟨fun env hk => ∃ (i : Nat) (zi zm : Int), i ≤ m ∧ zi = i ∧ zm = (outV U0 u ((rks l m).take i)).length ∧ St hk g p (setV U0 u (rks l m)) ∧ St hk gr pr (setV U0 u ((rks l m).take i)) ∧ NewSl hB hk po m 1 (ints .i64 (rks l m)) ∧ env = [(24, i64 zi), (19, i64 zm), (18, i64 (outV U0 u (rks l m)).length), (11, .sl po m), (3, .bool false), (9, .ptr (some (g, 0))), (10, .ptr (some (gr, 0))), (1, i64 u)],
        fun env _ => match get env 24 with
          | .int _ z => (m - z).toNat
          | _ => 0, ⟨_, Forget.cons rfl (Forget.cons rfl (Forget.cons rfl (Forget.cons rfl (Forget.cons rfl (Forget.cons rfl (Forget.cons rfl (Forget.cons rfl (Forget.nil _)))))))), 0, _, 0, Nat.zero_le _, rfl, (by rw [List.take_zero, out_nil]; rfl), sa, by rw [List.take_zero, setV_nil]; exact sb, nk, rfl⟩, ?_⟩
      clear sa sb nk
      rintro _ hK ⟨i, zi, zm, hi, rfl, rfl, sa, sb, nk, rfl⟩
      conv => whnf
      refine br_mk (fun hy => ?_) (fun hy => ?_)
      · conv => whnf
        have hy : i < m := by simpa using hy
        have hyl : i < (rks l m).length := by omega
        obtain ⟨i1, c1, f1, f2⟩ := slo_get nk.1 hy
        refine ⟨i1, c1, i, f1, rfl, hy, ?_⟩
        conv => whnf
        refine ⟨_, f2, ?_⟩
        conv => whnf
        obtain ⟨hx0, hx1⟩ := inE_iff.1 (rks_in l m) _ (getD_in hyl)
        have hsn : (rks l m).take (i + 1) = (rks l m).take i ++ [(rks l m).getD i 0] := take_snoc_ hyl
        generalize (rks l m).getD i 0 = e at f2 hx0 hx1 hsn ⊢
        obtain ⟨lr, nr⟩ := laid_row hK [e]
        have hsl := setV_length U0 u ((rks l m).take i)
        refine (close46r (sb.old nr (fun _ _ k => k)) lr (by simp) (by rw [hsl, hs0]; decide) u).mono (fun r hE c => ?_)
        obtain ⟨q6, rfl, r6, sb, m6⟩ := c.val true (outV (setV U0 u ((rks l m).take i)) u [e]) (setV U0 u ((rks l m).take (i + 1))) (by rw [okC, hur, in1 hx0 (by rw [setV_length, hs0]; omega)]; rfl) rfl (by rw [hsn]; exact setV_setV hx0 (by rw [hs0]; omega))
        clear c
        have sa := (sa.old nr (fun _ _ k => k)).get m6 (fun i a b => apart i a (.inr b))
        have nk := NewSl.keep (NewSl.kept nk nr) m6 (fun i hi => hpB2 i (.inr hi))
        conv => whnf
        refine ⟨_, rfl, ?_⟩
        conv => whnf
        refine ⟨_, rfl, ?_⟩
        conv => whnf
        have hsum := out_snoc_len (U := U0) (u := u) (E := (rks l m).take i) hx0 (by rw [hs0]; omega)
        rw [← hsn] at hsum
        have hb1 : (outV U0 u ((rks l m).take (i + 1))).length ≤ U0.length := pl_le _ _
        have hw : IntKind.i64.wrap (((outV U0 u ((rks l m).take i)).length : Int) + ((outV (setV U0 u ((rks l m).take i)) u [e]).length : Int)) = ((outV U0 u ((rks l m).take (i + 1))).length : Int) := by
          rw [wrap_i64 (by omega) (by omega)]
          omega
        rw [hw]
        exact ⟨_, Forget.cons rfl (Forget.cons rfl (Forget.cons rfl (Forget.cons rfl (Forget.cons rfl (Forget.cons rfl (Forget.cons rfl (Forget.cons rfl (Forget.nil _)))))))), ⟨i + 1, _, _, hy, succ_i64 hy (by omega), rfl, sa, sb, nk, rfl⟩, mu_lt hy (by omega)⟩
      · conv => whnf
        have hy : i = m := by
          have : ¬ i < m := by simpa using hy
          omega
        subst hy
        have etk : (rks l i).take i = rks l i := List.take_of_length_le (by omega)
        rw [etk] at sb ⊢
        refine br_mk (fun hz => ?_) (fun hz => ?_)
        rotate_left
        · exact absurd hz (by simp)
        conv => whnf
        have hsl := setV_length U0 u (rks l i)
        have hal := allV_len (setV U0 u (rks l i))
        refine (all55r sa (by rw [hsl, hs0]; decide)).mono ?_
        rintro _ hX ⟨qa, rfl, ra, mA⟩
        conv => whnf
        refine (all55r (sb.old mA (fun _ _ k => k)) (by rw [hsl, hs0]; decide)).mono ?_
        rintro _ hX2 ⟨qb, rfl, rb, mB⟩
        conv => whnf
        refine (same54 (ra.get mB).is rb.is rfl rfl (by omega)).mono ?_
        rintro _ hX3 ⟨eh, rfl⟩
        subst eh
        rw [decide_eq_true rfl]
        conv => whnf
        refine (awake43 _).mono ?_
        rintro _ hX4 rfl
        conv => whnf
end Go.Proofs.Ytpefdmidfllhoaa
