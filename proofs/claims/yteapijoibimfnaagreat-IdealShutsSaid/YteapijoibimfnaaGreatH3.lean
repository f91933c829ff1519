/- H3: texts of another seat, turned to this one. -/
import Derived.Test.YteapijoibimfnaaGreatH2
set_option linter.unusedVariables false
set_option linter.unusedSimpArgs false
namespace Go.Proofs.YteapijoibimfnaaGreat
open Go Go.Ab Go.Shelf
/-- a box that holds a row of integers of its own -/
structure St (h : H) (g : Nat) (p : Option (Nat × Nat)) (U : List Int) : Prop where
  box : h.obj g = some (.row true 1 [.sl p U.length])
  row : SlIs h p U.length true 1 (ints .i64 U)
  sep : ∀ i o, p = some (i, o) → i ≠ g
theorem St.lt {h : H} {g : Nat} {p : Option (Nat × Nat)} {U : List Int} (s : St h g p U) : ∀ i, foot g p i → i < h.next := fun i hi => by
  rcases hi with rfl | k
  · exact h.lt _ _ s.box
  · exact SlIs.own_lt s.row k
theorem St.get {S : Nat → Prop} {h h' : H} {g : Nat} {p : Option (Nat × Nat)} {U : List Int} (s : St h g p U) (m : Ab.Mod S h h') (hS : ∀ i, foot g p i → ¬ S i) : St h' g p U :=
  ⟨m.get s.box (.inl (hS g (.inl rfl))), s.row.get m (fun i o e => .inl (hS i (.inr ⟨o, e⟩))), s.sep⟩
theorem St.old {S : Nat → Prop} {h h' : H} {g : Nat} {p : Option (Nat × Nat)} {U : List Int} (s : St h g p U) (m : Ab.Mod S h h') (hS : ∀ i, i < h.next → ¬ S i) : St h' g p U :=
  s.get m (fun i hi => hS i (s.lt i hi))
theorem St.cell {h : H} {g : Nat} {p : Option (Nat × Nat)} {U : List Int} (s : St h g p U) {j : Nat} (hj : j < U.length) : ∃ i c, p = some (i, c) ∧ Cell h i (c + j * 1) (i64 (U.getD j 0)) := slo_get s.row hj
theorem St.put {h : H} {g : Nat} {p : Option (Nat × Nat)} {U : List Int} (s : St h g p U) {j : Nat} (hj : j < U.length) (v : Int) :
    ∃ i c sz cs, p = some (i, c) ∧ h.obj i = some (.row true sz cs) ∧ c + j * 1 + 1 ≤ cs.length ∧ St (h.set i (.row true sz (splice cs (c + j * 1) [i64 v]))) g p (U.set j v) ∧ Ab.Mod (inSl p) h (h.set i (.row true sz (splice cs (c + j * 1) [i64 v]))) := by
  obtain ⟨i, c, sz, cs, e1, e2, e3, e4⟩ := own_put s.row hj v
  refine ⟨i, c, sz, cs, e1, e2, e3, ⟨?_, by rw [List.length_set]; exact e4, s.sep⟩, Mod.set ⟨c, e1⟩ e2 rfl⟩
  rw [H.obj_set_ne h _ (fun e => s.sep i c e1 e.symm), s.box, List.length_set]
theorem within70 (h : H) (x lo hi : Int) : ACalls Tryz.prog 68 [i64 x, i64 lo, i64 hi] h (fun r h' => h' = h ∧ r = .bool (inR x lo hi)) := by
  refine call_ Tryz.func68 rfl rfl (by kernel_rfl) ?_
  conv => whnf
  refine br_mk (fun ha => ?_) (fun ha => ?_)
  · conv => whnf
    have ha : lo ≤ x := by simpa using ha
    exact ⟨rfl, by rw [inR, decide_eq_true ha, Bool.true_and]⟩
  · conv => whnf
    have ha : ¬ lo ≤ x := by simpa using ha
    exact ⟨rfl, by rw [inR, decide_eq_false ha, Bool.false_and]⟩
/-- what a new set is -/
def NewQ (n : Int) (h : H) (r : V) (h' : H) : Prop :=
  (inR n 0 512 = false ∧ r = .ptr none ∧ Ab.Mod none_ h h') ∨ (inR n 0 512 = true ∧ ∃ g p, r = .ptr (some (g, 0)) ∧ St h' g p (List.replicate n.toNat 0) ∧ (∀ i, foot g p i → h.next ≤ i) ∧ Ab.Mod none_ h h')
theorem newQ_yes {n : Int} (hn : inR n 0 512 = true) (h : H) : ∃ m : Nat, n = (m : Int) ∧ m ≤ 512 ∧
    NewQ n h (.ptr (some (h.next + 1, 0))) ((h.push (.row true 1 (zerosV m [i64 0]))).push (.row true 1 [.sl (some (h.next, 0)) m])) := by
  have hb : 0 ≤ n ∧ n ≤ 512 := by simpa [inR] using hn
  obtain ⟨m, rfl⟩ : ∃ m : Nat, n = (m : Int) := ⟨n.toNat, by omega⟩
  refine ⟨m, rfl, by omega, .inr ⟨hn, h.next + 1, some (h.next, 0), rfl, ⟨?_, ?_, fun i o e => ?_⟩, fun i k => ?_, mod_none (Mod.push none_ h _) (Mod.push none_ _ _)⟩⟩
  · rw [List.length_replicate]
    exact H.obj_push_new _ _
  · rw [List.length_replicate, zeros_ints, show ((m : Int)).toNat = m by omega]
    exact SlIs.row (H.obj_push _ (H.obj_push_new _ _)) (by rw [ints_length, List.length_replicate, Nat.mul_one])
  · injection e with e
    injection e with e
    omega
  · rcases k with rfl | ⟨o, k⟩
    · omega
    · injection k with k
      injection k with k
      omega
theorem new44 (h : H) (n : Int) : ACalls Tryz.prog 18 [i64 n] h (fun r h' => NewQ n h r h') := by
  refine call_ Tryz.func18 rfl rfl (by kernel_rfl) ?_
  conv => whnf
  have fin : inR n 0 512 = true → ∃ m : Nat, n = (m : Int) ∧ n = (m : Int) ∧ m ≤ 70368744177664 ∧ m * 8 ≤ 70368744177664 ∧ NewQ n h (.ptr (some (h.next + 1, 0))) ((h.push (.row true 1 (zerosV m [i64 0]))).push (.row true 1 [.sl (some (h.next, 0)) m])) := fun hn => by
    obtain ⟨m, e, hm, q⟩ := newQ_yes hn h
    exact ⟨m, e, e, by omega, by omega, q⟩
  have no : inR n 0 512 = false → NewQ n h (.ptr none) h := fun hn => .inl ⟨hn, rfl, ⟨Nat.le_refl _, fun _ _ _ => rfl⟩⟩
  refine br_mk (fun ha => ?_) (fun ha => ?_)
  · conv => whnf
    have ha : n < 0 := by simpa using ha
    exact no (by rw [inR, decide_eq_false (by omega), Bool.false_and])
  conv => whnf
  have ha : ¬ n < 0 := by simpa using ha
  refine br_mk (fun hb => ?_) (fun hb => ?_)
  · conv => whnf
    have hb : n > 512 := by simpa using hb
    exact no (by rw [inR, decide_eq_false (show ¬ n ≤ 512 by omega), Bool.and_false])
  conv => whnf
  have hb : ¬ n > 512 := by simpa using hb
  exact fin (by rw [inR, decide_eq_true (show (0 : Int) ≤ n by omega), decide_eq_true (show n ≤ 512 by omega)]; rfl)
theorem may83 {h : H} {b g : Nat} {o : Bool} {p : Option (Nat × Nat)} {U : List Int} (hb : h.obj b = some (.row o 1 [.ptr (some (g, 0))])) (s : St h g p U) (e : Int) :
    ACalls Tryz.prog 63 [i64 e, .ptr (some (b, 0))] h (fun r h' => h' = h ∧ r = .bool (!(decide (0 ≤ e) && decide (e < (U.length : Int))))) := by
  refine call_ Tryz.func63 rfl rfl (by kernel_rfl) ?_
  conv => whnf
  refine br_mk (fun ha => ?_) (fun ha => ?_)
  · conv => whnf
    have ha : e < 0 := by simpa using ha
    exact ⟨rfl, by rw [decide_eq_false (show ¬ 0 ≤ e by omega), Bool.false_and, Bool.not_false]⟩
  conv => whnf
  have ha : ¬ e < 0 := by simpa using ha
  refine ⟨_, Cell.mk hb rfl, ?_⟩
  conv => whnf
  refine ⟨_, Cell.mk s.box rfl, ?_⟩
  conv => whnf
  refine ⟨rfl, ?_⟩
  rw [decide_eq_true (show 0 ≤ e by omega), Bool.true_and]
  by_cases hc : e < (U.length : Int)
  · rw [decide_eq_true hc, decide_eq_false (by omega)]
    rfl
  · rw [decide_eq_false hc, decide_eq_true (by omega)]
    rfl
theorem idx90 {h : H} {b g : Nat} {o : Bool} {p q : Option (Nat × Nat)} {U E : List Int} (hb : h.obj b = some (.row o 1 [.ptr (some (g, 0))])) (s : St h g p U) {m : Nat} (nm : SlIs h q m false 1 (ints .i64 E)) (hm : m ≤ 1000000) :
    ACalls Tryz.prog 66 [.sl q m, .clo 63 [.ptr (some (b, 0))]] h (fun r h' => h' = h ∧ ∃ z : Int, r = i64 z ∧ decide (0 ≤ z) = !inE U.length E) := by
  have hl := slo_len nm
  refine call_ Tryz.func66 rfl rfl (by kernel_rfl) ?_
  conv => whnf
  refine ⟨fun env hh => ∃ (j : Nat) (z : Int), j ≤ m ∧ z = j ∧ hh = h ∧ (∀ k, k < j → 0 ≤ E.getD k 0 ∧ E.getD k 0 < U.length) ∧ env = [(8, i64 z), (7, i64 m), (0, .sl q m), (1, .clo 63 [.ptr (some (b, 0))])],
    fun env _ => match get env 8 with
      | .int _ z => (m - z).toNat
      | _ => 0, ⟨_, Forget.cons rfl (Forget.cons rfl (Forget.cons rfl (Forget.cons rfl (Forget.nil _)))), 0, _, Nat.zero_le _, rfl, rfl, fun k hk => absurd hk (Nat.not_lt_zero k), rfl⟩, ?_⟩
  rintro _ h1 ⟨j, z, hj, rfl, hh, hall, rfl⟩
  subst hh
  conv => whnf
  refine br_mk (fun hd => ?_) (fun hd => ?_)
  · conv => whnf
    have hd : j < m := by simpa using hd
    obtain ⟨i, c, e1, e2⟩ := slo_get nm hd
    refine ⟨i, c, j, e1, rfl, hd, ?_⟩
    conv => whnf
    refine ⟨_, e2, ?_⟩
    conv => whnf
    refine (may83 hb s (E.getD j 0)).mono ?_
    rintro _ h' ⟨e3, rfl⟩
    subst e3
    conv => whnf
    refine br_mk (fun he => ?_) (fun he => ?_)
    · conv => whnf
      refine ⟨rfl, _, rfl, ?_⟩
      have hne : inE U.length E = false := by
        cases hh : inE U.length E with
        | false => rfl
        | true =>
          have := inE_iff.1 hh (E.getD j 0) (getD_mem (by omega))
          rw [decide_eq_true this.1, decide_eq_true this.2] at he
          cases he
      rw [hne, decide_eq_true (by omega)]
      rfl
    · conv => whnf
      have he : 0 ≤ E.getD j 0 ∧ E.getD j 0 < U.length := by
        have he := congrArg (! ·) he
        simp only [Bool.not_not, Bool.not_false, Bool.and_eq_true, decide_eq_true_eq] at he
        exact he
      refine ⟨_, Forget.cons rfl (Forget.cons rfl (Forget.cons rfl (Forget.cons rfl (Forget.nil _)))), ⟨j + 1, _, hd, succ_i64 hd (by omega), rfl, fun k hk => ?_, rfl⟩, ?_⟩
      · by_cases e : k = j
        · subst e; exact he
        · exact hall k (by omega)
      · exact mu_lt hd hm
  · conv => whnf
    have hd : ¬ j < m := by simpa using hd
    refine ⟨rfl, _, rfl, ?_⟩
    have : inE U.length E = true := inE_iff.2 (fun e he => by
      obtain ⟨k, hk, rfl⟩ := List.getElem_of_mem he
      have := hall k (by omega)
      rw [List.getD_eq_getElem?_getD, List.getElem?_eq_getElem hk] at this
      exact this)
    rw [this]
    rfl
theorem cont82 {h : H} {b g : Nat} {o : Bool} {p q : Option (Nat × Nat)} {U E : List Int} (hb : h.obj b = some (.row o 1 [.ptr (some (g, 0))])) (s : St h g p U) {m : Nat} (nm : SlIs h q m false 1 (ints .i64 E)) (hm : m ≤ 1000000) :
    ACalls Tryz.prog 46 [.sl q m, .clo 63 [.ptr (some (b, 0))]] h (fun r h' => h' = h ∧ r = .bool (!inE U.length E)) := by
  refine call_ Tryz.func46 rfl rfl (by kernel_rfl) ?_
  conv => whnf
  refine (idx90 hb s nm hm).mono ?_
  rintro _ h' ⟨rfl, z, rfl, hz⟩
  conv => whnf
  exact ⟨rfl, by rw [← hz]⟩
theorem may71 {h : H} {g : Nat} {p q : Option (Nat × Nat)} {U E : List Int} (s : St h g p U) {m : Nat} (nm : SlIs h q m false 1 (ints .i64 E)) (hm : m ≤ 1000000) :
    ACalls Tryz.prog 44 [.ptr (some (g, 0)), .sl q m] h (fun r h' => r = .bool (inE U.length E) ∧ Ab.Mod none_ h h') := by
  refine call_ Tryz.func44 rfl rfl (by kernel_rfl) ?_
  conv => whnf
  have mm := Mod.push none_ h (.row true 1 [.ptr (some (g, 0))])
  have gb : (h.push (.row true 1 [.ptr (some (g, 0))])).obj h.next = some (.row true 1 [.ptr (some (g, 0))]) := H.obj_push_new _ _
  refine ⟨_, Cell.mk gb rfl, ?_⟩
  conv => whnf
  refine (cont82 gb (s.old mm (fun _ _ k => k)) (SlIs.old nm mm (fun _ _ k => k)) hm).mono ?_
  rintro _ h' ⟨e, rfl⟩
  subst e
  conv => whnf
  exact ⟨by rw [Bool.not_not], mm⟩
theorem may71n (h : H) (q : Option (Nat × Nat)) (m : Nat) : ACalls Tryz.prog 44 [.ptr none, .sl q m] h (fun r h' => r = .bool false ∧ Ab.Mod none_ h h') := by
  refine call_ Tryz.func44 rfl rfl (by kernel_rfl) ?_
  conv => whnf
  have mm := Mod.push none_ h (.row true 1 [.ptr none])
  have gb : (h.push (.row true 1 [.ptr none])).obj h.next = some (.row true 1 [.ptr none]) := H.obj_push_new _ _
  refine ⟨_, Cell.mk gb rfl, ?_⟩
  conv => whnf
  exact ⟨rfl, mm⟩
theorem clone84 {h : H} {p : Option (Nat × Nat)} {n : Nat} {cs : List V} (o : SlIs h p n false 1 cs) (hn : n ≤ 1000000) : ACalls Tryz.prog 24 [.sl p n] h (fun v h' => ∃ q, v = .sl q n ∧ NewSl h h' q n 1 cs ∧ Ab.Mod none_ h h') := by
  refine call_ Tryz.func24 rfl rfl (by kernel_rfl) ?_
  conv => whnf
  refine br_mk (fun hb => ?_) (fun hb => ?_)
  · conv => whnf
    cases p with
    | some x => simp at hb
    | none =>
      have hl := o.1
      rcases o.2 with ⟨h0, _⟩ | ⟨i, j, b, r, e, _⟩
      · subst h0
        rw [Nat.zero_mul] at hl
        rw [List.eq_nil_of_length_eq_zero hl]
        exact ⟨none, rfl, NewSl.nil _ _ _, ⟨Nat.le_refl _, fun _ _ _ => rfl⟩⟩
      · cases e
  conv => whnf
  refine ⟨[], _, ⟨rfl, .inr ⟨_, 0, true, [], rfl, by simp [H.push]; rfl, fun e => e, by simp, by simp⟩⟩, o.get (Mod.push none_ h _) (fun _ _ _ => .inl (fun k => k)), by rw [show (T.at_ 3).bytes = 8 from rfl]; omega, by omega, fun p' h' hs hm hf => ?_⟩
  conv => whnf
  rw [Nat.zero_add] at hs ⊢
  refine ⟨p', rfl, ⟨hs, fun i o e => ?_⟩, (Mod.push none_ h _).trans' hm (fun _ _ k => k) (fun i hi k => ?_)⟩
  · rcases hf i o e with k | k
    · rw [e] at k
      injection k with k
      injection k with k
      omega
    · exact Nat.le_trans (Nat.le_succ _) k
  · obtain ⟨o, k⟩ := k
    injection k with k
    injection k with k
    omega
/-- what set answers -/
def SetQ (h : H) (g : Nat) (p : Option (Nat × Nat)) (U : List Int) (u : Int) (E : List Int) (r : V) (h' : H) : Prop :=
  ∃ q, r = .sl q (outV U u E).length ∧ NewSl h h' q (outV U u E).length 1 (ints .i64 (outV U u E)) ∧ St h' g p (setV U u E) ∧ Ab.Mod (inSl p) h h'
theorem asc_notin {l : List Int} (hl : l.Pairwise (· < ·)) {j : Nat} (h : j < l.length) : l.getD j 0 ∉ l.take j := fun hm => by
  obtain ⟨k, hk, e⟩ := List.getElem_of_mem hm
  rw [List.length_take] at hk
  rw [List.getElem_take] at e
  have := (List.pairwise_iff_getElem.1 hl) k j (by omega) h (by omega)
  rw [List.getD_eq_getElem?_getD, List.getElem?_eq_getElem h] at e
  simp only [Option.getD_some] at e
  omega
theorem set72 {h : H} {g : Nat} {p q : Option (Nat × Nat)} {U E : List Int} (s : St h g p U) {m : Nat} (nm : SlIs h q m false 1 (ints .i64 E)) (hm : m ≤ 100000) (hU : U.length ≤ 512) (hE : inE U.length E = true) (u : Int) :
    ACalls Tryz.prog 45 [.ptr (some (g, 0)), i64 u, .sl q m] h (SetQ h g p U u E) := by
  refine call_ Tryz.func45 rfl rfl (by kernel_rfl) ?_
  conv => whnf
  refine (clone84 nm (by omega)).mono ?_
  rintro _ h1 ⟨q1, rfl, n1, m1⟩
  conv => whnf
  refine (sort79 n1.1 (by omega)).mono ?_
  rintro _ h2 ⟨rfl, s2, m2⟩
  conv => whnf
  refine (comp85 s2 (by omega)).mono ?_
  rintro _ h3 ⟨rfl, s3, m3⟩
  conv => whnf
  have e3 : Lib.compact (E.mergeSort leZ) = uniq E := rfl
  rw [e3] at s3 ⊢
  have hq1 : ∀ i, inSl q1 i → h.next ≤ i := fun i hi => n1.2 i hi.choose hi.choose_spec
  have mA : Ab.Mod none_ h h3 := (m1.trans' m2 (fun _ _ k => k) (fun i hi k => by have := hq1 i k; omega)).trans' m3 (fun _ _ k => k) (fun i hi k => by have := hq1 i k; omega)
  have sA := s.old mA (fun _ _ k => k)
  obtain ⟨ua, um⟩ := uniq_asc E
  have hin := inE_iff.1 hE
  have hlen : (uniq E).length ≤ m := by
    have := slo_len nm
    have h1 : (uniq E).length ≤ (E.mergeSort leZ).length := by
      rw [← e3]
      unfold Lib.compact Lib.compactUpTo
      rw [List.length_map]
      exact Nat.le_trans (List.length_filter_le _ _) (by simp)
    rw [List.length_mergeSort] at h1
    omega
  refine ⟨fun env hh => ∃ (j : Nat) (z : Int) (po : Option (Nat × Nat)), j ≤ (uniq E).length ∧ z = j ∧ NewSl h3 hh po (((uniq E).take j).filter (turnsB U u)).length 1 (ints .i64 (((uniq E).take j).filter (turnsB U u))) ∧ St hh g p (setV U u ((uniq E).take j)) ∧ Ab.Mod (inSl p) h3 hh ∧
      env = [(16, i64 z), (6, .sl po (((uniq E).take j).filter (turnsB U u)).length), (15, i64 (uniq E).length), (14, .sl q1 (uniq E).length), (0, .ptr (some (g, 0))), (1, i64 u)],
    fun env _ => match get env 16 with
      | .int _ z => ((uniq E).length - z).toNat
      | _ => 0, ⟨_, Forget.cons rfl (Forget.cons rfl (Forget.cons rfl (Forget.cons rfl (Forget.cons rfl (Forget.cons rfl (Forget.nil _)))))), 0, _, none, Nat.zero_le _, rfl, NewSl.nil _ _ _, by rw [List.take_zero, setV_nil]; exact sA, ⟨Nat.le_refl _, fun _ _ _ => rfl⟩, rfl⟩, ?_⟩
  rintro _ hh ⟨j, z, po, hj, rfl, no, st, mo, rfl⟩
  conv => whnf
  refine br_mk (fun hd => ?_) (fun hd => ?_)
  · conv => whnf
    have hd : j < (uniq E).length := by simpa using hd
    have hpq : ∀ i, inSl p i → i < h.next := fun i hi => s.lt i (.inr hi)
    have s4 : SlIs hh q1 (uniq E).length true 1 (ints .i64 (uniq E)) := s3.get mo (fun i o e => .inl (fun k => by
      have := hpq i k
      have := hq1 i ⟨o, e⟩
      omega))
    obtain ⟨i1, c1, f1, f2⟩ := slo_get s4 hd
    refine ⟨i1, c1, j, f1, rfl, hd, ?_⟩
    conv => whnf
    refine ⟨_, f2, ?_⟩
    conv => whnf
    refine ⟨_, Cell.mk st.box rfl, ?_⟩
    conv => whnf
    obtain ⟨g0, g1⟩ := hin _ ((um _).1 (getD_in hd))
    have hlt : ((uniq E).getD j 0).toNat < (setV U u ((uniq E).take j)).length := by rw [setV_length]; omega
    obtain ⟨i2, c2, k1, k2⟩ := st.cell hlt
    refine ⟨i2, c2, ((uniq E).getD j 0).toNat, k1, by omega, hlt, ?_⟩
    conv => whnf
    refine ⟨_, k2, ?_⟩
    conv => whnf
    rw [setV_get _ _ _ (by rw [setV_length] at hlt; exact hlt), if_neg (by rw [show (((uniq E).getD j 0).toNat : Int) = (uniq E).getD j 0 by omega]; exact asc_notin ua hd)]
    have hP : turnsB U u ((uniq E).getD j 0) = !(decide (U.getD ((uniq E).getD j 0).toNat 0 > 0) == decide (u > 0)) := rfl
    rw [← hP]
    refine br_mk (fun hb => ?_) (fun hb => ?_)
    · have hfil : ((uniq E).take (j + 1)).filter (turnsB U u) = ((uniq E).take j).filter (turnsB U u) ++ [(uniq E).getD j 0] := by
        rw [take_snoc_ hd, filter_snoc, if_pos hb]
      have hfl : (((uniq E).take j).filter (turnsB U u)).length ≤ j := by
        refine Nat.le_trans (List.length_filter_le _ _) ?_
        rw [List.length_take]
        omega
      conv => whnf
      have mP := Mod.push none_ hh (.row true 1 [i64 ((uniq E).getD j 0)])
      have gP : (hh.push (.row true 1 [i64 ((uniq E).getD j 0)])).obj hh.next = some (.row true 1 [i64 ((uniq E).getD j 0)]) := H.obj_push_new _ _
      have nP := NewSl.kept no mP
      refine ⟨_, _, nP.1, (SlIs.row (n := 1) gP rfl).weak, by rw [show (T.at_ 3).bytes = 8 from rfl]; omega, by omega, fun po2 h4 hs hm4 hf => ?_⟩
      have no2 := NewSl.app nP hs hf (Nat.le_trans mo.next mP.next)
      have mo1 : Ab.Mod (inSl p) h3 (hh.push (.row true 1 [i64 ((uniq E).getD j 0)])) := mo.trans' mP (fun _ _ k => k) (fun _ _ k => k.elim)
      have mo2 := NewSl.mod nP mo1 hm4
      have st2 := (st.old mP (fun _ _ k => k)).get hm4 (fun i hi k => by
        obtain ⟨o, k⟩ := k
        have h5 := nP.2 i o k
        have h6 := sA.lt i hi
        omega)
      have e6 : ints .i64 (((uniq E).take j).filter (turnsB U u)) ++ [i64 ((uniq E).getD j 0)] = ints .i64 (((uniq E).take (j + 1)).filter (turnsB U u)) := by rw [hfil, ints_append]; rfl
      have e7 : (((uniq E).take j).filter (turnsB U u)).length + 1 = (((uniq E).take (j + 1)).filter (turnsB U u)).length := by rw [hfil]; simp
      rw [e6, e7] at no2
      rw [e7]
      conv => whnf
      refine ⟨_, Cell.mk st2.box rfl, ?_⟩
      conv => whnf
      have hlt2 : ((uniq E).getD j 0).toNat < (setV U u ((uniq E).take j)).length := hlt
      obtain ⟨i3, c3, sz3, cs3, a1, a2, a3, a4, a5⟩ := st2.put hlt2 u
      refine ⟨i3, c3, ((uniq E).getD j 0).toNat, a1, by omega, hlt2, ?_⟩
      conv => whnf
      refine ⟨_, _, a2, a3, ?_⟩
      conv => whnf
      rw [setV_snoc U u _ g0 g1, ← take_snoc_ hd] at a4
      refine ⟨_, Forget.cons rfl (Forget.cons rfl (Forget.cons rfl (Forget.cons rfl (Forget.cons rfl (Forget.cons rfl (Forget.nil _)))))), ⟨j + 1, _, po2, hd, succ_i64 hd (by omega), NewSl.keep no2 a5 (fun i hi => Nat.lt_of_lt_of_le (hpq i hi) mA.next), a4, mo2.trans' a5 (fun _ _ k => k) (fun _ _ k => k), rfl⟩, ?_⟩
      exact mu_lt hd (by omega)
    · have hfil : ((uniq E).take (j + 1)).filter (turnsB U u) = ((uniq E).take j).filter (turnsB U u) := by
        rw [take_snoc_ hd, filter_snoc, if_neg (by rw [hb]; simp), List.append_nil]
      obtain ⟨po2, hpo2⟩ : ∃ x, x = po := ⟨_, rfl⟩
      have no2 := no
      rw [← hfil, ← hpo2] at no2
      have mo2 := mo
      have st2 := st
      rw [← hfil, ← hpo2]
      conv => whnf
      refine ⟨_, Cell.mk st2.box rfl, ?_⟩
      conv => whnf
      have hlt2 : ((uniq E).getD j 0).toNat < (setV U u ((uniq E).take j)).length := hlt
      obtain ⟨i3, c3, sz3, cs3, a1, a2, a3, a4, a5⟩ := st2.put hlt2 u
      refine ⟨i3, c3, ((uniq E).getD j 0).toNat, a1, by omega, hlt2, ?_⟩
      conv => whnf
      refine ⟨_, _, a2, a3, ?_⟩
      conv => whnf
      rw [setV_snoc U u _ g0 g1, ← take_snoc_ hd] at a4
      refine ⟨_, Forget.cons rfl (Forget.cons rfl (Forget.cons rfl (Forget.cons rfl (Forget.cons rfl (Forget.cons rfl (Forget.nil _)))))), ⟨j + 1, _, po2, hd, succ_i64 hd (by omega), NewSl.keep no2 a5 (fun i hi => Nat.lt_of_lt_of_le (hpq i hi) mA.next), a4, mo2.trans' a5 (fun _ _ k => k) (fun _ _ k => k), rfl⟩, ?_⟩
      exact mu_lt hd (by omega)
  · conv => whnf
    have hd : ¬ j < (uniq E).length := by simpa using hd
    obtain rfl : j = (uniq E).length := by omega
    rw [List.take_length, out_uniq hE] at no
    rw [List.take_length, set_uniq] at st
    rw [List.take_length, out_uniq hE]
    exact ⟨po, rfl, ⟨no.1, fun i o e => Nat.le_trans mA.next (no.2 i o e)⟩, st, mA.trans' mo (fun _ _ k => k.elim) (fun _ _ k => k)⟩
/-- what Close and Open answer -/
def ClQ (h : H) (g : Nat) (p : Option (Nat × Nat)) (U : List Int) (ok : Bool) (u : Int) (E : List Int) (r : V) (h' : H) : Prop :=
  (ok = false ∧ r = .tup [.sl none 0, i64 1] ∧ St h' g p U ∧ Ab.Mod (inSl p) h h') ∨
  (ok = true ∧ ∃ q, r = .tup [.sl q (outV U u E).length, i64 0] ∧ NewSl h h' q (outV U u E).length 1 (ints .i64 (outV U u E)) ∧ St h' g p (setV U u E) ∧ Ab.Mod (inSl p) h h')
def okC (n : Nat) (u : Int) (E : List Int) : Bool := inR u 1 1099511627776 && inE n E
theorem close46 {h : H} {g : Nat} {p q : Option (Nat × Nat)} {U E : List Int} (s : St h g p U) {m : Nat} (nm : SlIs h q m false 1 (ints .i64 E)) (hm : m ≤ 100000) (hU : U.length ≤ 512) (u : Int) :
    ACalls Tryz.prog 22 [.ptr (some (g, 0)), i64 u, .sl q m] h (ClQ h g p U (okC U.length u E) u E) := by
  refine call_ Tryz.func22 rfl rfl (by kernel_rfl) ?_
  conv => whnf
  refine br_mk (fun ha => ?_) (fun ha => ?_)
  · conv => whnf
    have ha : u < 1 := by simpa using ha
    exact .inl ⟨by rw [okC, inR, decide_eq_false (by omega)]; rfl, rfl, s, ⟨Nat.le_refl _, fun _ _ _ => rfl⟩⟩
  conv => whnf
  have ha : ¬ u < 1 := by simpa using ha
  refine br_mk (fun hb => ?_) (fun hb => ?_)
  · conv => whnf
    have hb : u > 1099511627776 := by simpa using hb
    exact .inl ⟨by rw [okC, inR, decide_eq_false (show ¬ u ≤ 1099511627776 by omega), Bool.and_false]; rfl, rfl, s, ⟨Nat.le_refl _, fun _ _ _ => rfl⟩⟩
  conv => whnf
  have hb : ¬ u > 1099511627776 := by simpa using hb
  have hr : inR u 1 1099511627776 = true := by rw [inR, decide_eq_true (show (1 : Int) ≤ u by omega), decide_eq_true (show u ≤ 1099511627776 by omega)]; rfl
  refine (may71 s nm (by omega)).mono ?_
  rintro _ h1 ⟨rfl, m1⟩
  conv => whnf
  refine br_mk (fun hc => ?_) (fun hc => ?_)
  · conv => whnf
    have hc : inE U.length E = false := by simpa using hc
    exact .inl ⟨by rw [okC, hc, Bool.and_false], rfl, s.old m1 (fun _ _ k => k), m1.mono (fun _ _ k => k.elim)⟩
  conv => whnf
  have hc : inE U.length E = true := by simpa using hc
  refine (set72 (s.old m1 (fun _ _ k => k)) (SlIs.old nm m1 (fun _ _ k => k)) hm hU hc u).mono ?_
  rintro _ h2 ⟨q2, rfl, n2, s2, m2⟩
  conv => whnf
  exact .inr ⟨by rw [okC, hr, hc]; rfl, q2, rfl, ⟨n2.1, fun i o e => Nat.le_trans m1.next (n2.2 i o e)⟩, s2, m1.trans' m2 (fun _ _ k => k.elim) (fun _ _ k => k)⟩
theorem close46n (h : H) (q : Option (Nat × Nat)) (m : Nat) (u : Int) : ACalls Tryz.prog 22 [.ptr none, i64 u, .sl q m] h (fun r h' => r = .tup [.sl none 0, i64 1] ∧ Ab.Mod none_ h h') := by
  refine call_ Tryz.func22 rfl rfl (by kernel_rfl) ?_
  conv => whnf
  refine br_mk (fun ha => ?_) (fun ha => ?_)
  · conv => whnf
    exact ⟨rfl, ⟨Nat.le_refl _, fun _ _ _ => rfl⟩⟩
  conv => whnf
  refine br_mk (fun hb => ?_) (fun hb => ?_)
  · conv => whnf
    exact ⟨rfl, ⟨Nat.le_refl _, fun _ _ _ => rfl⟩⟩
  conv => whnf
  refine (may71n h q m).mono ?_
  rintro _ h1 ⟨rfl, m1⟩
  conv => whnf
  exact ⟨rfl, m1⟩
theorem closed57 {h : H} {g : Nat} {p : Option (Nat × Nat)} {U : List Int} (s : St h g p U) (e : Int) : ACalls Tryz.prog 75 [.ptr (some (g, 0)), i64 e] h (fun r h' => h' = h ∧ r = .bool (clB U e)) := by
  refine call_ Tryz.func75 rfl rfl (by kernel_rfl) ?_
  conv => whnf
  refine br_mk (fun ha => ?_) (fun ha => ?_)
  · conv => whnf
    have ha : 0 ≤ e := by simpa using ha
    refine ⟨_, Cell.mk s.box rfl, ?_⟩
    conv => whnf
    refine br_mk (fun hb => ?_) (fun hb => ?_)
    · conv => whnf
      have hb : e < (U.length : Int) := by simpa using hb
      refine ⟨_, Cell.mk s.box rfl, ?_⟩
      conv => whnf
      obtain ⟨i, c, k1, k2⟩ := s.cell (j := e.toNat) (by omega)
      refine ⟨i, c, e.toNat, k1, by omega, by omega, ?_⟩
      conv => whnf
      refine ⟨_, k2, ?_⟩
      conv => whnf
      refine ⟨rfl, ?_⟩
      rw [clB, decide_eq_true ha, decide_eq_true hb]
      rfl
    · conv => whnf
      have hb : ¬ e < (U.length : Int) := by simpa using hb
      exact ⟨rfl, by rw [clB, decide_eq_false hb, Bool.and_false, Bool.false_and]⟩
  · conv => whnf
    have ha : ¬ 0 ≤ e := by simpa using ha
    exact ⟨rfl, by rw [clB, decide_eq_false ha, Bool.false_and, Bool.false_and]⟩
theorem closed57n (h : H) (e : Int) : ACalls Tryz.prog 75 [.ptr none, i64 e] h (fun r h' => h' = h ∧ r = .bool false) := by
  refine call_ Tryz.func75 rfl rfl (by kernel_rfl) ?_
  conv => whnf
  exact ⟨rfl, rfl⟩
/-- all that is closed -/
def shC (x : Int × Int) : List V := [i64 x.1, i64 x.2]
theorem shC_len (x : Int × Int) : (shC x).length = 2 := rfl
def allJ (U : List Int) (j : Nat) : List (Int × Int) := ((List.range j).filter fun (k : Nat) => decide (0 < U.getD k 0)).map fun (k : Nat) => ((k : Int), U.getD k 0)
theorem allJ_succ (U : List Int) (j : Nat) : allJ U (j + 1) = allJ U j ++ (if decide (0 < U.getD j 0) then [((j : Int), U.getD j 0)] else []) := by
  rw [allJ, List.range_succ, List.filter_append, List.map_append, allJ]
  congr 1
  by_cases h : 0 < U.getD j 0
  · rw [if_pos (by simpa using h), List.filter_cons_of_pos (by simpa using h)]
    rfl
  · rw [if_neg (by simpa using h), List.filter_cons_of_neg (by simpa using h)]
    rfl
theorem allJ_le (U : List Int) (j : Nat) : (allJ U j).length ≤ j := by
  rw [allJ, List.length_map]
  exact Nat.le_trans (List.length_filter_le _ _) (by simp)
theorem allJ_all (U : List Int) : allJ U U.length = allV U := rfl
theorem sh_len (l : List (Int × Int)) : (l.flatMap shC).length = l.length * 2 := flat_length shC_len l
def AllQ (h : H) (U : List Int) (r : V) (h' : H) : Prop := ∃ q, r = .sl q (allV U).length ∧ NewSl h h' q (allV U).length 2 ((allV U).flatMap shC) ∧ Ab.Mod none_ h h'
theorem all55 {h : H} {g : Nat} {p : Option (Nat × Nat)} {U : List Int} (s : St h g p U) (hU : U.length ≤ 512) : ACalls Tryz.prog 52 [.ptr (some (g, 0))] h (AllQ h U) := by
  refine call_ Tryz.func52 rfl rfl (by kernel_rfl) ?_
  conv => whnf
  refine ⟨_, Cell.mk s.box rfl, ?_⟩
  conv => whnf
  refine ⟨fun env hh => ∃ (j : Nat) (z : Int) (po : Option (Nat × Nat)), j ≤ U.length ∧ z = j ∧ NewSl h hh po (allJ U j).length 2 ((allJ U j).flatMap shC) ∧ Ab.Mod none_ h hh ∧
      env = [(12, i64 z), (2, .sl po (allJ U j).length), (11, i64 U.length), (10, .sl p U.length)],
    fun env _ => match get env 12 with
      | .int _ z => (U.length - z).toNat
      | _ => 0, ⟨_, Forget.cons rfl (Forget.cons rfl (Forget.cons rfl (Forget.cons rfl (Forget.nil _)))), 0, _, none, Nat.zero_le _, rfl, NewSl.nil _ _ _, ⟨Nat.le_refl _, fun _ _ _ => rfl⟩, rfl⟩, ?_⟩
  rintro _ hh ⟨j, z, po, hj, rfl, no, mo, rfl⟩
  conv => whnf
  refine br_mk (fun hd => ?_) (fun hd => ?_)
  · conv => whnf
    have hd : j < U.length := by simpa using hd
    have st := s.old mo (fun _ _ k => k)
    obtain ⟨i1, c1, f1, f2⟩ := st.cell hd
    refine ⟨i1, c1, j, f1, rfl, hd, ?_⟩
    conv => whnf
    refine ⟨_, f2, ?_⟩
    conv => whnf
    have hjl := allJ_le U j
    refine br_mk (fun hb => ?_) (fun hb => ?_)
    · have e0 : allJ U (j + 1) = allJ U j ++ [((j : Int), U.getD j 0)] := by rw [allJ_succ, if_pos hb]
      conv => whnf
      have mP := Mod.push none_ hh (.row true 2 (shC ((j : Int), U.getD j 0)))
      have gP : (hh.push (.row true 2 (shC ((j : Int), U.getD j 0)))).obj hh.next = some (.row true 2 (shC ((j : Int), U.getD j 0))) := H.obj_push_new _ _
      have nP := NewSl.kept no mP
      refine ⟨_, _, nP.1, (SlIs.row (n := 1) gP rfl).weak, by rw [show (T.at_ 121).bytes = 16 from rfl]; omega, by omega, fun po2 h4 hs hm4 hf => ?_⟩
      have no2 := NewSl.app nP hs hf (Nat.le_trans mo.next mP.next)
      have mo2 := NewSl.mod nP (mod_none mo mP) hm4
      conv => whnf
      have e6 : (allJ U j).flatMap shC ++ shC ((j : Int), U.getD j 0) = (allJ U (j + 1)).flatMap shC := by rw [e0, List.flatMap_append]; simp
      have e7 : (allJ U j).length + 1 = (allJ U (j + 1)).length := by rw [e0]; simp
      rw [e6, e7] at no2
      rw [e7]
      refine ⟨_, Forget.cons rfl (Forget.cons rfl (Forget.cons rfl (Forget.cons rfl (Forget.nil _)))), ⟨j + 1, _, po2, hd, succ_i64 hd (by omega), no2, mo2, rfl⟩, ?_⟩
      exact mu_lt hd (by omega)
    · have e0 : allJ U (j + 1) = allJ U j := by rw [allJ_succ, if_neg (by rw [show decide (0 < U.getD j 0) = false from hb]; simp), List.append_nil]
      conv => whnf
      rw [← e0] at no ⊢
      refine ⟨_, Forget.cons rfl (Forget.cons rfl (Forget.cons rfl (Forget.cons rfl (Forget.nil _)))), ⟨j + 1, _, po, hd, succ_i64 hd (by omega), no, mo, rfl⟩, ?_⟩
      exact mu_lt hd (by omega)
  · conv => whnf
    have hd : ¬ j < U.length := by simpa using hd
    obtain rfl : j = U.length := by omega
    rw [allJ_all] at no ⊢
    exact ⟨po, rfl, no, mo⟩
def bools (l : List Bool) : List V := l.map V.bool
theorem bools_length (l : List Bool) : (bools l).length = l.length := by simp [bools]
def maskJ (U : List Int) (j : Nat) : List Bool := (List.range j).map fun (k : Nat) => decide (0 < U.getD k 0)
theorem maskJ_succ (U : List Int) (j : Nat) : maskJ U (j + 1) = maskJ U j ++ [decide (0 < U.getD j 0)] := by simp [maskJ, List.range_succ]
theorem maskJ_len (U : List Int) (j : Nat) : (maskJ U j).length = j := by simp [maskJ]
def MaskQ (h : H) (U : List Int) (r : V) (h' : H) : Prop := ∃ q, r = .sl q U.length ∧ NewSl h h' q U.length 1 (bools (maskV U)) ∧ Ab.Mod none_ h h'
theorem mask52 {h : H} {g : Nat} {p : Option (Nat × Nat)} {U : List Int} (s : St h g p U) (hU : U.length ≤ 512) : ACalls Tryz.prog 60 [.ptr (some (g, 0))] h (MaskQ h U) := by
  refine call_ Tryz.func60 rfl rfl (by kernel_rfl) ?_
  conv => whnf
  refine ⟨_, Cell.mk s.box rfl, ?_⟩
  conv => whnf
  refine ⟨fun env hh => ∃ (j : Nat) (z : Int) (po : Option (Nat × Nat)), j ≤ U.length ∧ z = j ∧ NewSl h hh po j 1 (bools (maskJ U j)) ∧ Ab.Mod none_ h hh ∧
      env = [(11, i64 z), (2, .sl po j), (10, i64 U.length), (0, .ptr (some (g, 0)))],
    fun env _ => match get env 11 with
      | .int _ z => (U.length - z).toNat
      | _ => 0, ⟨_, Forget.cons rfl (Forget.cons rfl (Forget.cons rfl (Forget.cons rfl (Forget.nil _)))), 0, _, none, Nat.zero_le _, rfl, NewSl.nil _ _ _, ⟨Nat.le_refl _, fun _ _ _ => rfl⟩, rfl⟩, ?_⟩
  rintro _ hh ⟨j, z, po, hj, rfl, no, mo, rfl⟩
  conv => whnf
  refine br_mk (fun hd => ?_) (fun hd => ?_)
  · conv => whnf
    have hd : j < U.length := by simpa using hd
    have st := s.old mo (fun _ _ k => k)
    refine (closed57 st j).mono ?_
    rintro _ h3 ⟨e3, rfl⟩
    subst e3
    have ec : clB U j = decide (0 < U.getD j 0) := by
      rw [clB, decide_eq_true (by omega), decide_eq_true (show (j : Int) < (U.length : Int) by omega)]
      rfl
    rw [ec]
    conv => whnf
    have mP := Mod.push none_ h3 (.row true 1 [.bool (decide (0 < U.getD j 0))])
    have gP : (h3.push (.row true 1 [.bool (decide (0 < U.getD j 0))])).obj h3.next = some (.row true 1 [.bool (decide (0 < U.getD j 0))]) := H.obj_push_new _ _
    have nP := NewSl.kept no mP
    refine ⟨_, _, nP.1, (SlIs.row (n := 1) gP rfl).weak, by rw [show (T.at_ 4).bytes = 1 from rfl]; omega, by omega, fun po2 h4 hs hm4 hf => ?_⟩
    have no2 := NewSl.app nP hs hf (Nat.le_trans mo.next mP.next)
    have mo2 := NewSl.mod nP (mod_none mo mP) hm4
    conv => whnf
    have e6 : bools (maskJ U j) ++ [V.bool (decide (0 < U.getD j 0))] = bools (maskJ U (j + 1)) := by rw [maskJ_succ, bools, bools, List.map_append]; rfl
    rw [e6] at no2
    refine ⟨_, Forget.cons rfl (Forget.cons rfl (Forget.cons rfl (Forget.cons rfl (Forget.nil _)))), ⟨j + 1, _, po2, hd, succ_i64 hd (by omega), no2, mo2, rfl⟩, ?_⟩
    exact mu_lt hd (by omega)
  · conv => whnf
    have hd : ¬ j < U.length := by simpa using hd
    obtain rfl : j = U.length := by omega
    exact ⟨po, rfl, no, mo⟩
def lpJ (now : Int) (l : List (Int × Int)) : List Int := (l.filter fun x => decide (x.2 ≤ now)).map (·.1)
theorem lpJ_snoc (now : Int) (l : List (Int × Int)) (x : Int × Int) : lpJ now (l ++ [x]) = lpJ now l ++ (if decide (x.2 ≤ now) then [x.1] else []) := by
  rw [lpJ, List.filter_append, List.map_append, lpJ]
  congr 1
  by_cases h : x.2 ≤ now <;> simp [h]
theorem lpJ_le (now : Int) (l : List (Int × Int)) : (lpJ now l).length ≤ l.length := by
  rw [lpJ, List.length_map]
  exact List.length_filter_le _ _
theorem allV_len (U : List Int) : (allV U).length ≤ U.length := by
  rw [← allJ_all]
  exact allJ_le U _
theorem allV_mem {U : List Int} {x : Int × Int} (h : x ∈ allV U) : 0 ≤ x.1 ∧ x.1 < U.length ∧ 0 < x.2 ∧ x.2 = U.getD x.1.toNat 0 := by
  unfold allV at h
  obtain ⟨k, h1, rfl⟩ := List.mem_map.1 h
  obtain ⟨h2, h3⟩ := List.mem_filter.1 h1
  have h2 := List.mem_range.1 h2
  have h3 : 0 < U.getD k 0 := by simpa using h3
  exact ⟨by simp, by simpa using h2, h3, by simp⟩
theorem lpJ_all (U : List Int) (now : Int) : lpJ now (allV U) = lapseV U now := by
  have key : ∀ n, lpJ now (allJ U n) = pl n (fun k => decide (0 < U.getD k 0) && decide (U.getD k 0 ≤ now)) := by
    intro n
    induction n with
    | zero => rfl
    | succ n ih =>
      rw [allJ_succ, pl_succ]
      by_cases h : 0 < U.getD n 0
      · rw [if_pos (decide_eq_true h), lpJ_snoc, ih, decide_eq_true h, Bool.true_and]
      · rw [if_neg (by rw [decide_eq_false h]; simp), List.append_nil, ih, decide_eq_false h, Bool.false_and, if_neg (by simp), List.append_nil]
  exact key U.length
def LapseQ (h : H) (g : Nat) (p : Option (Nat × Nat)) (U : List Int) (now : Int) (r : V) (h' : H) : Prop :=
  ∃ q, r = .sl q (lapseV U now).length ∧ NewSl h h' q (lapseV U now).length 1 (ints .i64 (lapseV U now)) ∧ St h' g p (setV U 0 (lapseV U now)) ∧ Ab.Mod (inSl p) h h'
theorem St.apart {h0 hh h' : H} {g : Nat} {p po : Option (Nat × Nat)} {U : List Int} (st : St hh g p U) (m : Ab.Mod (inSl po) hh h') (h1 : ∀ i, foot g p i → i < h0.next) (h2 : ∀ i o, po = some (i, o) → h0.next ≤ i) : St h' g p U :=
  st.get m (fun i hi k => by
    obtain ⟨o, k⟩ := k
    have := h1 i hi
    have := h2 i o k
    omega)
theorem lapse50 {h : H} {g : Nat} {p : Option (Nat × Nat)} {U : List Int} (s : St h g p U) (hU : U.length ≤ 512) (now : Int) : ACalls Tryz.prog 26 [.ptr (some (g, 0)), i64 now] h (LapseQ h g p U now) := by
  refine call_ Tryz.func26 rfl rfl (by kernel_rfl) ?_
  conv => whnf
  refine (all55 s hU).mono ?_
  rintro _ h1 ⟨q1, rfl, n1, m1⟩
  conv => whnf
  have hl := allV_len U
  have s1 := s.old m1 (fun _ _ k => k)
  have hpq : ∀ i, inSl p i → i < h.next := fun i hi => s.lt i (.inr hi)
  refine ⟨fun env hh => ∃ (j : Nat) (z : Int) (po : Option (Nat × Nat)), j ≤ (allV U).length ∧ z = j ∧ NewSl h1 hh po (lpJ now ((allV U).take j)).length 1 (ints .i64 (lpJ now ((allV U).take j))) ∧ St hh g p (setV U 0 (lpJ now ((allV U).take j))) ∧ Ab.Mod (inSl p) h1 hh ∧
      env = [(10, i64 z), (4, .sl po (lpJ now ((allV U).take j)).length), (9, i64 (allV U).length), (8, .sl q1 (allV U).length), (0, .ptr (some (g, 0))), (1, i64 now)],
    fun env _ => match get env 10 with
      | .int _ z => ((allV U).length - z).toNat
      | _ => 0, ⟨_, Forget.cons rfl (Forget.cons rfl (Forget.cons rfl (Forget.cons rfl (Forget.cons rfl (Forget.cons rfl (Forget.nil _)))))), 0, _, none, Nat.zero_le _, rfl, NewSl.nil _ _ _, by rw [List.take_zero, show lpJ now [] = [] from rfl, setV_nil]; exact s1, ⟨Nat.le_refl _, fun _ _ _ => rfl⟩, rfl⟩, ?_⟩
  rintro _ hh ⟨j, z, po, hj, rfl, no, st, mo, rfl⟩
  conv => whnf
  refine br_mk (fun hd => ?_) (fun hd => ?_)
  · conv => whnf
    have hd : j < (allV U).length := by simpa using hd
    have s4 : SlIs hh q1 (allV U).length true 2 ((allV U).flatMap shC) := n1.1.get mo (fun i o e => .inl (fun k => by
      have := hpq i k
      have := n1.2 i o e
      omega))
    obtain ⟨i1, c1, f1, f2, f3⟩ := sls_get shC_len s4 rfl hd
    refine ⟨i1, c1, j, f1, rfl, hd, ?_⟩
    conv => whnf
    refine ⟨_, f2, ?_⟩
    conv => whnf
    obtain ⟨gm, gn, ml⟩ := lay_row (h := hh) (sz := 2) [i64 0, i64 0] (shC (allV U)[j])
    obtain ⟨x0, x1, x2, x3⟩ := allV_mem (getElem_in hd)
    have tk : (allV U).take (j + 1) = (allV U).take j ++ [(allV U)[j]] := List.take_succ_eq_append_getElem hd
    refine ⟨_, _, gm, Nat.le_of_ble_eq_true rfl, ?_⟩
    conv => whnf
    refine ⟨_, Cell.mk gn rfl, ?_⟩
    conv => whnf
    refine br_mk (fun hb => ?_) (fun hb => ?_)
    · have e0 : lpJ now ((allV U).take (j + 1)) = lpJ now ((allV U).take j) ++ [(allV U)[j].1] := by rw [tk, lpJ_snoc, if_pos hb]
      have hjl := lpJ_le now ((allV U).take j)
      rw [List.length_take] at hjl
      conv => whnf
      refine ⟨[0, 1, 2, 3, 4, 5, 6, 7], [0, 1, 3, 7, 0, 16, 63, 127], by kernel_rfl, ?_⟩
      conv => whnf
      have stN := st.old ml (fun _ _ k => k)
      refine ⟨_, Cell.mk stN.box rfl, ?_⟩
      conv => whnf
      refine ⟨_, Cell.mk gn rfl, ?_⟩
      conv => whnf
      have hlt : (allV U)[j].1.toNat < (setV U 0 (lpJ now ((allV U).take j))).length := by rw [setV_length]; omega
      obtain ⟨i3, c3, sz3, cs3, a1, a2, a3, a4, a5⟩ := stN.put hlt 0
      refine ⟨i3, c3, (allV U)[j].1.toNat, a1, by omega, hlt, ?_⟩
      conv => whnf
      refine ⟨_, _, a2, a3, ?_⟩
      conv => whnf
      rw [setV_snoc U 0 _ x0 x1, ← e0] at a4
      have noN := NewSl.kept no ml
      have noS := NewSl.keep noN a5 (fun i hi => Nat.lt_of_lt_of_le (hpq i hi) m1.next)
      have moS := (mo.trans' ml (fun _ _ k => k) (fun _ _ k => k.elim)).trans' a5 (fun _ _ k => k) (fun _ _ k => k)
      have gS := a5.get gn (.inl (fun k => by
        have := hpq _ k
        have := m1.next
        have := mo.next
        omega))
      refine ⟨_, Cell.mk gS rfl, ?_⟩
      conv => whnf
      obtain ⟨q1', q2', q3'⟩ := app1 noS moS [i64 (allV U)[j].1] rfl
      refine ⟨_, _, q1', q2', by rw [show (T.at_ 3).bytes = 8 from rfl]; omega, by omega, fun po2 h6 hs hm6 hf => ?_⟩
      obtain ⟨no2, mo2, m6⟩ := q3' po2 h6 hs hm6 hf
      have st2 := St.apart (h0 := h1) a4 m6 (fun i hi => s1.lt i hi) noS.2
      conv => whnf
      have e6 : ints .i64 (lpJ now ((allV U).take j)) ++ [i64 (allV U)[j].1] = ints .i64 (lpJ now ((allV U).take (j + 1))) := by rw [e0, ints_append]; rfl
      have e7 : (lpJ now ((allV U).take j)).length + 1 = (lpJ now ((allV U).take (j + 1))).length := by rw [e0]; simp
      rw [e6, e7] at no2
      rw [e7]
      refine ⟨_, Forget.cons rfl (Forget.cons rfl (Forget.cons rfl (Forget.cons rfl (Forget.cons rfl (Forget.cons rfl (Forget.nil _)))))), ⟨j + 1, _, po2, hd, succ_i64 hd (by omega), no2, st2, mo2, rfl⟩, ?_⟩
      exact mu_lt hd (by omega)
    · have e0 : lpJ now ((allV U).take (j + 1)) = lpJ now ((allV U).take j) := by rw [tk, lpJ_snoc, if_neg (by rw [show decide ((allV U)[j].2 ≤ now) = false from hb]; simp), List.append_nil]
      conv => whnf
      have no2 := NewSl.kept no ml
      have mo2 := mo.trans' ml (fun _ _ k => k) (fun _ _ k => k.elim)
      have st2 := st.old ml (fun _ _ k => k)
      obtain ⟨po2, hpo2⟩ : ∃ x, x = po := ⟨_, rfl⟩
      rw [← e0] at no2 st2 ⊢
      rw [← hpo2] at no2 ⊢
      refine ⟨_, Forget.cons rfl (Forget.cons rfl (Forget.cons rfl (Forget.cons rfl (Forget.cons rfl (Forget.cons rfl (Forget.nil _)))))), ⟨j + 1, _, po2, hd, succ_i64 hd (by omega), no2, st2, mo2, rfl⟩, ?_⟩
      exact mu_lt hd (by omega)
  · conv => whnf
    have hd : ¬ j < (allV U).length := by simpa using hd
    obtain rfl : j = (allV U).length := by omega
    rw [List.take_length, lpJ_all] at no st
    rw [List.take_length, lpJ_all]
    exact ⟨po, rfl, ⟨no.1, fun i o e => Nat.le_trans m1.next (no.2 i o e)⟩, st, m1.trans' mo (fun _ _ k => k.elim) (fun _ _ k => k)⟩
theorem own_putV {h : H} {p : Option (Nat × Nat)} {n : Nat} {xs : List V} (w : SlIs h p n true 1 xs) {j : Nat} (hj : j < n) (v : V) : ∃ i c sz cs, p = some (i, c) ∧ h.obj i = some (.row true sz cs) ∧ c + j * 1 + 1 ≤ cs.length ∧ SlIs (h.set i (.row true sz (splice cs (c + j * 1) [v]))) p n true 1 (xs.set j v) ∧ Ab.Mod (inSl p) h (h.set i (.row true sz (splice cs (c + j * 1) [v]))) := by
  obtain ⟨hl, hr⟩ := w
  rcases hr with ⟨rfl, _⟩ | ⟨i, c, o', r, rfl, e2, e3, e4, e5⟩
  · omega
  · obtain rfl := e3 rfl
    refine ⟨i, c, 1, r, rfl, e2, by omega, ⟨by rw [List.length_set, hl], .inr ⟨i, c, true, _, rfl, H.obj_set_same e2, fun e => e, ?_, ?_⟩⟩, Mod.set ⟨c, rfl⟩ e2 rfl⟩
    · rw [splice_one, List.length_set]
      exact e4
    · rw [splice_one, Nat.mul_one, Nat.mul_one, List.drop_set, if_neg (by omega), List.take_set]
      rw [Nat.mul_one] at e5
      rw [e5, show c + j - c = j by omega]
theorem bools_get {l : List Bool} {j : Nat} (h : j < l.length) : (bools l)[j]? = some (.bool (l.getD j false)) := by
  simp [bools, List.getElem?_eq_getElem h, List.getD_eq_getElem?_getD]
theorem bools_set (l : List Bool) (j : Nat) (b : Bool) : (bools l).set j (.bool b) = bools (l.set j b) := by simp [bools, List.map_set]
theorem zeros_bools (n : Nat) : zerosV n [V.bool false] = bools (List.replicate n false) := by
  unfold zerosV bools
  rw [List.map_replicate, show n * [V.bool false].length = n from Nat.mul_one n]
  apply List.ext_getElem?
  intro i
  rw [List.getElem?_map, List.getElem?_replicate]
  by_cases h : i < n
  · rw [List.getElem?_range h, if_pos h]
    show some (([V.bool false] : List V).getD (i % 1) .undef) = _
    rw [Nat.mod_one]
    rfl
  · rw [List.getElem?_eq_none (by simp; omega), if_neg h]
    rfl
theorem slb_get {h : H} {p : Option (Nat × Nat)} {n : Nat} {own : Bool} {l : List Bool} (o : SlIs h p n own 1 (bools l)) (hl : l.length = n) {j : Nat} (hj : j < n) : ∃ i c, p = some (i, c) ∧ Cell h i (c + j * 1) (.bool (l.getD j false)) := by
  rw [Nat.mul_one]
  exact SlIs.cell o (bools_get (by omega))
def PlQ (h : H) (l : List Int) (r : V) (h' : H) : Prop := ∃ q, r = .sl q l.length ∧ NewSl h h' q l.length 1 (ints .i64 l) ∧ Ab.Mod none_ h h'
def bt (n : Nat) (F : Nat → Bool) : List Bool := (List.range n).map F
theorem bt_len (n : Nat) (F : Nat → Bool) : (bt n F).length = n := by simp [bt]
theorem bt_get {n : Nat} (F : Nat → Bool) {j : Nat} (h : j < n) : (bt n F).getD j false = F j := by
  simp [bt, List.getD_eq_getElem?_getD, h]
theorem bt_cong {n : Nat} {F G : Nat → Bool} (h : ∀ k, k < n → F k = G k) : bt n F = bt n G := by
  unfold bt
  exact List.map_congr_left (fun k hk => h k (List.mem_range.1 hk))
theorem bt_set {n : Nat} {F G : Nat → Bool} {j : Nat} {b : Bool} (hj : j < n) (h1 : G j = b) (h : ∀ k, k < n → k ≠ j → G k = F k) : (bt n F).set j b = bt n G := by
  apply List.ext_getElem?
  intro i
  rw [List.getElem?_set]
  by_cases e : j = i
  · subst e
    simp [bt, hj, h1]
  · rw [if_neg e]
    by_cases hi : i < n
    · simp [bt, hi, h i hi (Ne.symm e)]
    · simp [bt, hi]
theorem new_bools (h : H) (n : Nat) : NewSl h (h.push (.row true 1 (zerosV n [V.bool false]))) (some (h.next, 0)) n 1 (bools (bt n fun _ => false)) := by
  have e : zerosV n [V.bool false] = bools (bt n fun _ => false) := by
    rw [zeros_bools]
    congr 1
    apply List.ext_getElem
    · simp [bt]
    · intro i h1 h2
      simp [bt]
  rw [e]
  refine ⟨SlIs.row (H.obj_push_new _ _) (by rw [bools_length, bt_len, Nat.mul_one]), fun i o e => ?_⟩
  injection e with e
  injection e with e
  omega
theorem NewSl.put {S : Nat → Prop} {h0 hh : H} {p : Option (Nat × Nat)} {n : Nat} {xs : List V} (w : NewSl h0 hh p n 1 xs) (m : Ab.Mod S h0 hh) {j : Nat} (hj : j < n) (v : V) :
    ∃ i c sz cs, p = some (i, c) ∧ hh.obj i = some (.row true sz cs) ∧ c + j * 1 + 1 ≤ cs.length ∧ NewSl h0 (hh.set i (.row true sz (splice cs (c + j * 1) [v]))) p n 1 (xs.set j v) ∧ Ab.Mod S h0 (hh.set i (.row true sz (splice cs (c + j * 1) [v]))) ∧ Ab.Mod (inSl p) hh (hh.set i (.row true sz (splice cs (c + j * 1) [v]))) := by
  obtain ⟨i, c, sz, cs, a1, a2, a3, a4, a5⟩ := own_putV w.1 hj v
  exact ⟨i, c, sz, cs, a1, a2, a3, ⟨a4, w.2⟩, NewSl.mod w m a5, a5⟩
def frF (U : List Int) (u : Int) (E : List Int) (k : Nat) : Bool := decide ((k : Int) ∈ E) && turnsB U u k
theorem frF_snoc {U : List Int} {u : Int} {E : List Int} {e : Int} (h0 : 0 ≤ e) {n : Nat} (h1 : e.toNat < n) : (bt n (frF U u E)).set e.toNat (turnsB U u e) = bt n (frF U u (E ++ [e])) := by
  refine bt_set h1 ?_ (fun k hk hke => ?_)
  · rw [frF, show ((e.toNat : Nat) : Int) = e by omega, decide_eq_true (by simp), Bool.true_and]
  · rw [frF, frF]
    congr 1
    refine decide_eq_decide.2 ?_
    rw [List.mem_append]
    constructor
    · rintro (a | a)
      · exact a
      · have a : (k : Int) = e := by simpa using a
        omega
    · exact .inl
theorem fresh_close {U : List Int} {u : Int} {E : List Int} (hp : Pos U) (hu : 1 ≤ u) {e : Int} (h0 : 0 ≤ e) (h1 : e < U.length) (hf : frF U u E e.toNat = false) : ((setV U u E).getD e.toNat 0 == 0) = turnsB U u e := by
  rw [setV_get _ _ _ (by omega)]
  have he : ((e.toNat : Nat) : Int) = e := by omega
  rw [frF, he] at hf
  rw [he]
  by_cases hm : e ∈ E
  · rw [if_pos hm]
    rw [decide_eq_true hm, Bool.true_and] at hf
    rw [hf]
    simp
    omega
  · rw [if_neg hm, turnsB, decide_eq_true (show 0 < u by omega)]
    have := hp e.toNat
    by_cases hz : U.getD e.toNat 0 = 0
    · rw [hz]; rfl
    · rw [decide_eq_true (show 0 < U.getD e.toNat 0 by omega)]
      simpa using hz
theorem fresh_open {U : List Int} {E : List Int} (hp : Pos U) {e : Int} (h0 : 0 ≤ e) (h1 : e < U.length) (hf : frF U 0 E e.toNat = false) : ((setV U 0 E).getD e.toNat 0 != 0) = turnsB U 0 e := by
  rw [setV_get _ _ _ (by omega)]
  have he : ((e.toNat : Nat) : Int) = e := by omega
  rw [frF, he] at hf
  rw [he]
  by_cases hm : e ∈ E
  · rw [if_pos hm]
    rw [decide_eq_true hm, Bool.true_and] at hf
    rw [hf]
    rfl
  · rw [if_neg hm, turnsB, decide_eq_false (show ¬ (0 : Int) < 0 by omega)]
    have := hp e.toNat
    by_cases hz : U.getD e.toNat 0 = 0
    · rw [hz]; rfl
    · rw [decide_eq_true (show 0 < U.getD e.toNat 0 by omega)]
      simpa using hz
theorem fresh_yes {U : List Int} {u : Int} {E : List Int} {e : Int} (h0 : 0 ≤ e) (hf : frF U u E e.toNat = true) : turnsB U u e = true := by
  rw [frF, show ((e.toNat : Nat) : Int) = e by omega] at hf
  simp only [Bool.and_eq_true] at hf
  exact hf.2
theorem inR_len {x : Int} {n : Nat} (hn : n ≤ 512) : inR x 0 (IntKind.i64.wrap ((n : Int) - 1)) = (decide (0 ≤ x) && decide (x < n)) := by
  rw [wrap_i64 (by omega) (by omega), inR, show decide (x ≤ (n : Int) - 1) = decide (x < n) from decide_eq_decide.2 (by omega)]
theorem pos_ne {U : List Int} (hp : Pos U) (j : Nat) : (U.getD j 0 != 0) = decide (0 < U.getD j 0) := by
  have := hp j
  by_cases h0 : U.getD j 0 = 0
  · rw [h0]
    rfl
  · rw [decide_eq_true (by omega)]
    simpa using h0
def lpF (U : List Int) (now : Int) (k : Nat) : Bool := decide (0 < U.getD k 0) && decide (U.getD k 0 ≤ now)
theorem St.ro {h : H} {g : Nat} {p : Option (Nat × Nat)} {U : List Int} (s : St h g p U) {i : Nat} (hi : ∀ j, foot g p j → j ≠ i) : St (h.ro i) g p U :=
  ⟨by rw [H.ro_ne _ (hi g (.inl rfl))]; exact s.box, SlIs.ro_ne s.row (fun j o e => hi j (.inr ⟨o, e⟩)), s.sep⟩
theorem fz {S : Nat → Prop} {h h' : H} {q : Option (Nat × Nat)} {n sz : Nat} {cs : List V} {g : Nat} {p : Option (Nat × Nat)} {U U' : List Int} (s : St h g p U) (nq : NewSl h h' q n sz cs) (s' : St h' g p U') (m : Ab.Mod S h h') :
    ∃ i, RoSl (h'.ro i) q n sz cs ∧ St (h'.ro i) g p U' ∧ Ab.Mod S h (h'.ro i) := by
  obtain ⟨i, h1, h2, h3⟩ := nq.freeze m
  exact ⟨i, h2, St.ro s' (fun j hj => by
    have := s.lt j hj
    omega), h3⟩
def clO (U : List Int) (ok : Bool) (u : Int) (E : List Int) : List Int := if ok then outV U u E else []
def clU (U : List Int) (ok : Bool) (u : Int) (E : List Int) : List Int := if ok then setV U u E else U
def ClR (h : H) (g : Nat) (p : Option (Nat × Nat)) (U : List Int) (ok : Bool) (u : Int) (E : List Int) (r : V) (h' : H) : Prop :=
  ∃ q, r = .tup [.sl q (clO U ok u E).length, i64 (if ok then 0 else 1)] ∧ RoSl h' q (clO U ok u E).length 1 (ints .i64 (clO U ok u E)) ∧ St h' g p (clU U ok u E) ∧ Ab.Mod (inSl p) h h'
theorem clQ_ro {h : H} {g : Nat} {p : Option (Nat × Nat)} {U : List Int} (s : St h g p U) {ok : Bool} {u : Int} {E : List Int} (r : V) (h' : H) (q : ClQ h g p U ok u E r h') : ∃ i, ClR h g p U ok u E r (h'.ro i) := by
  rcases q with ⟨rfl, rfl, a, b⟩ | ⟨rfl, q, rfl, a, b, c⟩
  · obtain ⟨i, h1, h2, h3⟩ := fz s (NewSl.nil h h' 1) a b
    exact ⟨i, none, rfl, h1, h2, h3⟩
  · obtain ⟨i, h1, h2, h3⟩ := fz s a b c
    exact ⟨i, q, rfl, h1, h2, h3⟩
theorem close46r {h : H} {g : Nat} {p q : Option (Nat × Nat)} {U E : List Int} (s : St h g p U) {m : Nat} (nm : SlIs h q m false 1 (ints .i64 E)) (hm : m ≤ 100000) (hU : U.length ≤ 512) (u : Int) :
    ACalls Tryz.prog 22 [.ptr (some (g, 0)), i64 u, .sl q m] h (ClR h g p U (okC U.length u E) u E) := (close46 s nm hm hU u).ro (clQ_ro s)
def LapseR (h : H) (g : Nat) (p : Option (Nat × Nat)) (U : List Int) (now : Int) (r : V) (h' : H) : Prop :=
  ∃ q, r = .sl q (lapseV U now).length ∧ RoSl h' q (lapseV U now).length 1 (ints .i64 (lapseV U now)) ∧ St h' g p (setV U 0 (lapseV U now)) ∧ Ab.Mod (inSl p) h h'
theorem lapseQ_ro {h : H} {g : Nat} {p : Option (Nat × Nat)} {U : List Int} (s : St h g p U) {now : Int} (r : V) (h' : H) (q : LapseQ h g p U now r h') : ∃ i, LapseR h g p U now r (h'.ro i) := by
  obtain ⟨q, rfl, a, b, c⟩ := q
  obtain ⟨i, h1, h2, h3⟩ := fz s a b c
  exact ⟨i, q, rfl, h1, h2, h3⟩
theorem lapse50r {h : H} {g : Nat} {p : Option (Nat × Nat)} {U : List Int} (s : St h g p U) (hU : U.length ≤ 512) (now : Int) : ACalls Tryz.prog 26 [.ptr (some (g, 0)), i64 now] h (LapseR h g p U now) := (lapse50 s hU now).ro (lapseQ_ro s)
def AllR (h : H) (U : List Int) (r : V) (h' : H) : Prop := ∃ q, r = .sl q (allV U).length ∧ RoSl h' q (allV U).length 2 ((allV U).flatMap shC) ∧ Ab.Mod none_ h h'
theorem allQ_ro {h : H} {U : List Int} (r : V) (h' : H) (q : AllQ h U r h') : ∃ i, AllR h U r (h'.ro i) := by
  obtain ⟨q, rfl, a, b⟩ := q
  obtain ⟨i, h1, h2, h3⟩ := a.freeze b
  exact ⟨i, q, rfl, h2, h3⟩
theorem all55r {h : H} {g : Nat} {p : Option (Nat × Nat)} {U : List Int} (s : St h g p U) (hU : U.length ≤ 512) : ACalls Tryz.prog 52 [.ptr (some (g, 0))] h (AllR h U) := (all55 s hU).ro allQ_ro
def MaskR (h : H) (U : List Int) (r : V) (h' : H) : Prop := ∃ q, r = .sl q U.length ∧ RoSl h' q U.length 1 (bools (maskV U)) ∧ Ab.Mod none_ h h'
theorem maskQ_ro {h : H} {U : List Int} (r : V) (h' : H) (q : MaskQ h U r h') : ∃ i, MaskR h U r (h'.ro i) := by
  obtain ⟨q, rfl, a, b⟩ := q
  obtain ⟨i, h1, h2, h3⟩ := a.freeze b
  exact ⟨i, q, rfl, h2, h3⟩
theorem mask52r {h : H} {g : Nat} {p : Option (Nat × Nat)} {U : List Int} (s : St h g p U) (hU : U.length ≤ 512) : ACalls Tryz.prog 60 [.ptr (some (g, 0))] h (MaskR h U) := (mask52 s hU).ro maskQ_ro
theorem new_yes {n : Int} {h h' : H} {r : V} (q : NewQ n h r h') (hn : inR n 0 512 = true) : ∃ g p, r = .ptr (some (g, 0)) ∧ St h' g p (List.replicate n.toNat 0) ∧ (∀ i, foot g p i → h.next ≤ i) ∧ Ab.Mod none_ h h' := by
  rcases q with ⟨e, _⟩ | ⟨_, q⟩
  · rw [hn] at e
    cases e
  · exact q
theorem new_no {n : Int} {h h' : H} {r : V} (q : NewQ n h r h') (hn : inR n 0 512 = false) : r = .ptr none ∧ Ab.Mod none_ h h' := by
  rcases q with ⟨_, q⟩ | ⟨e, _⟩
  · exact q
  · rw [hn] at e
    cases e
theorem ClR.val {h : H} {g : Nat} {p : Option (Nat × Nat)} {U : List Int} {ok : Bool} {u : Int} {E : List Int} {r : V} {h' : H} (c : ClR h g p U ok u E r h') (b : Bool) (out U' : List Int) (hb : ok = b) (ho : clO U b u E = out) (hU : clU U b u E = U') :
    ∃ q, r = .tup [.sl q out.length, i64 (if b then 0 else 1)] ∧ RoSl h' q out.length 1 (ints .i64 out) ∧ St h' g p U' ∧ Ab.Mod (inSl p) h h' := by
  subst hb ho hU
  exact c
theorem LapseR.val {h : H} {g : Nat} {p : Option (Nat × Nat)} {U : List Int} {now : Int} {r : V} {h' : H} (c : LapseR h g p U now r h') (out U' : List Int) (ho : lapseV U now = out) (hU : setV U 0 out = U') :
    ∃ q, r = .sl q out.length ∧ RoSl h' q out.length 1 (ints .i64 out) ∧ St h' g p U' ∧ Ab.Mod (inSl p) h h' := by
  subst ho hU
  exact c
def nuls : Nat → List Int := fun n => List.replicate n 0
end Go.Proofs.YteapijoibimfnaaGreat
