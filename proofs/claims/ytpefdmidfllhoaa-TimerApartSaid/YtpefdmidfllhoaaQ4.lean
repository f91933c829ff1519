/- Edges that are closed: what lies in memory; a new set; which edges may be. -/
import Derived.Test.YtpefdmidfllhoaaQ3
set_option linter.unusedVariables false
namespace Go.Proofs.Ytpefdmidfllhoaa
open Go Go.Ab
/-- a box that holds a row of integers of its own -/
structure St (h : H) (g : Nat) (p : Option (Nat × Nat)) (U : List Int) : Prop where
  box : h.obj g = some (.row true 1 [.sl p U.length])
  row : SlIs h p U.length true 1 (ints .i64 U)
  sep : ∀ i o, p = some (i, o) → i ≠ g
theorem St.lt {h : H} {g : Nat} {p : Option (Nat × Nat)} {U : List Int} (s : St h g p U) : ∀ i, foot g p i → i < h.next := fun i hi => by
  rcases hi with rfl | k
  · exact h.lt _ _ s.box
  · exact SlIs.own_lt s.row k
theorem St.get {S : Nat → Prop} {h h' : H} {g : Nat} {p : Option (Nat × Nat)} {U : List Int} (s : St h g p U) (m : Ab.Mod S h h') (hS : ∀ i, foot g p i → ¬ S i) : St h' g p U :=
  ⟨m.get s.box (.inl (hS g (.inl rfl))), s.row.get m (fun i o e => .inl (hS i (.inr ⟨o, e⟩))), s.sep⟩
theorem St.old {S : Nat → Prop} {h h' : H} {g : Nat} {p : Option (Nat × Nat)} {U : List Int} (s : St h g p U) (m : Ab.Mod S h h') (hS : ∀ i, i < h.next → ¬ S i) : St h' g p U :=
  s.get m (fun i hi => hS i (s.lt i hi))
theorem St.cell {h : H} {g : Nat} {p : Option (Nat × Nat)} {U : List Int} (s : St h g p U) {j : Nat} (hj : j < U.length) : ∃ i c, p = some (i, c) ∧ Cell h i (c + j * 1) (i64 (U.getD j 0)) := slo_get s.row hj
theorem St.put {h : H} {g : Nat} {p : Option (Nat × Nat)} {U : List Int} (s : St h g p U) {j : Nat} (hj : j < U.length) (v : Int) :
    ∃ i c sz cs, p = some (i, c) ∧ h.obj i = some (.row true sz cs) ∧ c + j * 1 + 1 ≤ cs.length ∧ St (h.set i (.row true sz (splice cs (c + j * 1) [i64 v]))) g p (U.set j v) ∧ Ab.Mod (inSl p) h (h.set i (.row true sz (splice cs (c + j * 1) [i64 v]))) := by
  obtain ⟨i, c, sz, cs, e1, e2, e3, e4⟩ := own_put s.row hj v
  refine ⟨i, c, sz, cs, e1, e2, e3, ⟨?_, by rw [List.length_set]; exact e4, s.sep⟩, Mod.set ⟨c, e1⟩ e2 rfl⟩
  rw [H.obj_set_ne h _ (fun e => s.sep i c e1 e.symm), s.box, List.length_set]
/-- new rows -/
theorem NewSl.app {h0 h1 h2 : H} {p p' : Option (Nat × Nat)} {n m sz : Nat} {xs ys : List V} (w : NewSl h0 h1 p n sz xs) (hs : SlIs h2 p' (n + m) true sz (xs ++ ys)) (hf : isFresh h1 p p') (hn : h0.next ≤ h1.next) : NewSl h0 h2 p' (n + m) sz (xs ++ ys) :=
  ⟨hs, fun i o e => by
    rcases hf i o e with k | k
    · exact w.2 i o (by rw [← k, e])
    · exact Nat.le_trans hn k⟩
theorem NewSl.mod {S : Nat → Prop} {h0 h1 h2 : H} {p : Option (Nat × Nat)} {n sz : Nat} {xs : List V} (w : NewSl h0 h1 p n sz xs) (m0 : Ab.Mod S h0 h1) (hm : Ab.Mod (inSl p) h1 h2) : Ab.Mod S h0 h2 :=
  m0.trans' hm (fun _ _ k => k) (fun i hi k => by
    obtain ⟨o, k⟩ := k
    have := w.2 i o k
    omega)
theorem NewSl.keep {h0 h h' : H} {S : Nat → Prop} {p : Option (Nat × Nat)} {n sz : Nat} {xs : List V} (w : NewSl h0 h p n sz xs) (m : Ab.Mod S h h') (hS : ∀ i, S i → i < h0.next) : NewSl h0 h' p n sz xs :=
  ⟨w.1.get m (fun i o e => .inl (fun k => by
    have := hS i k
    have := w.2 i o e
    omega)), w.2⟩
theorem NewSl.kept {h0 h h' : H} {p : Option (Nat × Nat)} {n sz : Nat} {xs : List V} (w : NewSl h0 h p n sz xs) (m : Ab.Mod none_ h h') : NewSl h0 h' p n sz xs :=
  ⟨SlIs.old w.1 m (fun _ _ k => k), w.2⟩
theorem mu_lt {m j : Nat} (hd : j < m) (hm : m ≤ 1000000) : ((m : Int) - IntKind.i64.wrap ((j : Int) + 1)).toNat < ((m : Int) - (j : Int)).toNat := by
  rw [succ_i64 hd (by omega)]
  omega
def inR (x lo hi : Int) : Bool := decide (lo ≤ x) && decide (x ≤ hi)
theorem within70 (h : H) (x lo hi : Int) : ACalls Try.prog 70 [i64 x, i64 lo, i64 hi] h (fun r h' => h' = h ∧ r = .bool (inR x lo hi)) := by
  refine call_ Try.func70 rfl rfl (by kernel_rfl) ?_
  conv => whnf
  refine br_mk (fun ha => ?_) (fun ha => ?_)
  · conv => whnf
    have ha : lo ≤ x := by simpa using ha
    exact ⟨rfl, by rw [inR, decide_eq_true ha, Bool.true_and]⟩
  · conv => whnf
    have ha : ¬ lo ≤ x := by simpa using ha
    exact ⟨rfl, by rw [inR, decide_eq_false ha, Bool.false_and]⟩
/-- what a new set is -/
def NewQ (n : Int) (h : H) (r : V) (h' : H) : Prop :=
  (inR n 0 512 = false ∧ r = .ptr none ∧ Ab.Mod none_ h h') ∨ (inR n 0 512 = true ∧ ∃ g p, r = .ptr (some (g, 0)) ∧ St h' g p (List.replicate n.toNat 0) ∧ (∀ i, foot g p i → h.next ≤ i) ∧ Ab.Mod none_ h h')
theorem newQ_yes {n : Int} (hn : inR n 0 512 = true) (h : H) : ∃ m : Nat, n = (m : Int) ∧ m ≤ 512 ∧
    NewQ n h (.ptr (some (h.next + 1, 0))) ((h.push (.row true 1 (zerosV m [i64 0]))).push (.row true 1 [.sl (some (h.next, 0)) m])) := by
  have hb : 0 ≤ n ∧ n ≤ 512 := by simpa [inR] using hn
  obtain ⟨m, rfl⟩ : ∃ m : Nat, n = (m : Int) := ⟨n.toNat, by omega⟩
  refine ⟨m, rfl, by omega, .inr ⟨hn, h.next + 1, some (h.next, 0), rfl, ⟨?_, ?_, fun i o e => ?_⟩, fun i k => ?_, mod_none (Mod.push none_ h _) (Mod.push none_ _ _)⟩⟩
  · rw [List.length_replicate]
    exact H.obj_push_new _ _
  · rw [List.length_replicate, zeros_ints, show ((m : Int)).toNat = m by omega]
    exact SlIs.row (H.obj_push _ (H.obj_push_new _ _)) (by rw [ints_length, List.length_replicate, Nat.mul_one])
  · injection e with e
    injection e with e
    omega
  · rcases k with rfl | ⟨o, k⟩
    · omega
    · injection k with k
      injection k with k
      omega
theorem new44 (h : H) (n : Int) : ACalls Try.prog 44 [i64 n] h (fun r h' => NewQ n h r h') := by
  refine call_ Try.func44 rfl rfl (by kernel_rfl) ?_
  conv => whnf
  have fin : inR n 0 512 = true → ∃ m : Nat, n = (m : Int) ∧ n = (m : Int) ∧ m ≤ 70368744177664 ∧ m * 8 ≤ 70368744177664 ∧ NewQ n h (.ptr (some (h.next + 1, 0))) ((h.push (.row true 1 (zerosV m [i64 0]))).push (.row true 1 [.sl (some (h.next, 0)) m])) := fun hn => by
    obtain ⟨m, e, hm, q⟩ := newQ_yes hn h
    exact ⟨m, e, e, by omega, by omega, q⟩
  have no : inR n 0 512 = false → NewQ n h (.ptr none) h := fun hn => .inl ⟨hn, rfl, ⟨Nat.le_refl _, fun _ _ _ => rfl⟩⟩
  refine br_mk (fun ha => ?_) (fun ha => ?_)
  · conv => whnf
    have ha : n < 0 := by simpa using ha
    exact no (by rw [inR, decide_eq_false (by omega), Bool.false_and])
  conv => whnf
  have ha : ¬ n < 0 := by simpa using ha
  refine br_mk (fun hb => ?_) (fun hb => ?_)
  · conv => whnf
    have hb : n > 512 := by simpa using hb
    exact no (by rw [inR, decide_eq_false (show ¬ n ≤ 512 by omega), Bool.and_false])
  conv => whnf
  have hb : ¬ n > 512 := by simpa using hb
  exact fin (by rw [inR, decide_eq_true (show (0 : Int) ≤ n by omega), decide_eq_true (show n ≤ 512 by omega)]; rfl)
theorem new45 (h : H) (n : Int) : ACalls Try.prog 45 [i64 n] h (fun r h' => NewQ n h r h') := by
  refine call_ Try.func45 rfl rfl (by kernel_rfl) ?_
  conv => whnf
  have fin : inR n 0 512 = true → ∃ m : Nat, n = (m : Int) ∧ n = (m : Int) ∧ m ≤ 70368744177664 ∧ m * 8 ≤ 70368744177664 ∧ NewQ n h (.ptr (some (h.next + 1, 0))) ((h.push (.row true 1 (zerosV m [i64 0]))).push (.row true 1 [.sl (some (h.next, 0)) m])) := fun hn => by
    obtain ⟨m, e, hm, q⟩ := newQ_yes hn h
    exact ⟨m, e, e, by omega, by omega, q⟩
  refine (within70 h n 0 512).mono ?_
  rintro _ h' ⟨rfl, rfl⟩
  conv => whnf
  refine br_mk (fun ha => ?_) (fun ha => ?_)
  · conv => whnf
    exact .inl ⟨by simpa using ha, rfl, ⟨Nat.le_refl _, fun _ _ _ => rfl⟩⟩
  conv => whnf
  exact fin (by simpa using ha)
theorem may83 {h : H} {b g : Nat} {o : Bool} {p : Option (Nat × Nat)} {U : List Int} (hb : h.obj b = some (.row o 1 [.ptr (some (g, 0))])) (s : St h g p U) (e : Int) :
    ACalls Try.prog 83 [i64 e, .ptr (some (b, 0))] h (fun r h' => h' = h ∧ r = .bool (!(decide (0 ≤ e) && decide (e < (U.length : Int))))) := by
  refine call_ Try.func83 rfl rfl (by kernel_rfl) ?_
  conv => whnf
  refine br_mk (fun ha => ?_) (fun ha => ?_)
  · conv => whnf
    have ha : e < 0 := by simpa using ha
    exact ⟨rfl, by rw [decide_eq_false (show ¬ 0 ≤ e by omega), Bool.false_and, Bool.not_false]⟩
  conv => whnf
  have ha : ¬ e < 0 := by simpa using ha
  refine ⟨_, Cell.mk hb rfl, ?_⟩
  conv => whnf
  refine ⟨_, Cell.mk s.box rfl, ?_⟩
  conv => whnf
  refine ⟨rfl, ?_⟩
  rw [decide_eq_true (show 0 ≤ e by omega), Bool.true_and]
  by_cases hc : e < (U.length : Int)
  · rw [decide_eq_true hc, decide_eq_false (by omega)]
    rfl
  · rw [decide_eq_false hc, decide_eq_true (by omega)]
    rfl
theorem idx90 {h : H} {b g : Nat} {o : Bool} {p q : Option (Nat × Nat)} {U E : List Int} (hb : h.obj b = some (.row o 1 [.ptr (some (g, 0))])) (s : St h g p U) {m : Nat} (nm : SlIs h q m false 1 (ints .i64 E)) (hm : m ≤ 1000000) :
    ACalls Try.prog 90 [.sl q m, .clo 83 [.ptr (some (b, 0))]] h (fun r h' => h' = h ∧ ∃ z : Int, r = i64 z ∧ decide (0 ≤ z) = !inE U.length E) := by
  have hl := slo_len nm
  refine call_ Try.func90 rfl rfl (by kernel_rfl) ?_
  conv => whnf
  refine ⟨fun env hh => ∃ (j : Nat) (z : Int), j ≤ m ∧ z = j ∧ hh = h ∧ (∀ k, k < j → 0 ≤ E.getD k 0 ∧ E.getD k 0 < U.length) ∧ env = [(8, i64 z), (7, i64 m), (0, .sl q m), (1, .clo 83 [.ptr (some (b, 0))])],
    fun env _ => match get env 8 with
      | .int _ z => (m - z).toNat
      | _ => 0, ⟨_, Forget.cons rfl (Forget.cons rfl (Forget.cons rfl (Forget.cons rfl (Forget.nil _)))), 0, _, Nat.zero_le _, rfl, rfl, fun k hk => absurd hk (Nat.not_lt_zero k), rfl⟩, ?_⟩
  rintro _ h1 ⟨j, z, hj, rfl, hh, hall, rfl⟩
  subst hh
  conv => whnf
  refine br_mk (fun hd => ?_) (fun hd => ?_)
  · conv => whnf
    have hd : j < m := by simpa using hd
    obtain ⟨i, c, e1, e2⟩ := slo_get nm hd
    refine ⟨i, c, j, e1, rfl, hd, ?_⟩
    conv => whnf
    refine ⟨_, e2, ?_⟩
    conv => whnf
    refine (may83 hb s (E.getD j 0)).mono ?_
    rintro _ h' ⟨e3, rfl⟩
    subst e3
    conv => whnf
    refine br_mk (fun he => ?_) (fun he => ?_)
    · conv => whnf
      refine ⟨rfl, _, rfl, ?_⟩
      have hne : inE U.length E = false := by
        cases hh : inE U.length E with
        | false => rfl
        | true =>
          have := inE_iff.1 hh (E.getD j 0) (getD_mem (by omega))
          rw [decide_eq_true this.1, decide_eq_true this.2] at he
          cases he
      rw [hne, decide_eq_true (by omega)]
      rfl
    · conv => whnf
      have he : 0 ≤ E.getD j 0 ∧ E.getD j 0 < U.length := by
        have he := congrArg (! ·) he
        simp only [Bool.not_not, Bool.not_false, Bool.and_eq_true, decide_eq_true_eq] at he
        exact he
      refine ⟨_, Forget.cons rfl (Forget.cons rfl (Forget.cons rfl (Forget.cons rfl (Forget.nil _)))), ⟨j + 1, _, hd, succ_i64 hd (by omega), rfl, fun k hk => ?_, rfl⟩, ?_⟩
      · by_cases e : k = j
        · subst e; exact he
        · exact hall k (by omega)
      · exact mu_lt hd hm
  · conv => whnf
    have hd : ¬ j < m := by simpa using hd
    refine ⟨rfl, _, rfl, ?_⟩
    have : inE U.length E = true := inE_iff.2 (fun e he => by
      obtain ⟨k, hk, rfl⟩ := List.getElem_of_mem he
      have := hall k (by omega)
      rw [List.getD_eq_getElem?_getD, List.getElem?_eq_getElem hk] at this
      exact this)
    rw [this]
    rfl
end Go.Proofs.Ytpefdmidfllhoaa
