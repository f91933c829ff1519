/- Closing edges, and opening them: the program's. -/
import Derived.Test.YtpefdmidfllhoaaQ4
set_option linter.unusedVariables false
namespace Go.Proofs.Ytpefdmidfllhoaa
open Go Go.Ab
theorem cont82 {h : H} {b g : Nat} {o : Bool} {p q : Option (Nat × Nat)} {U E : List Int} (hb : h.obj b = some (.row o 1 [.ptr (some (g, 0))])) (s : St h g p U) {m : Nat} (nm : SlIs h q m false 1 (ints .i64 E)) (hm : m ≤ 1000000) :
    ACalls Try.prog 82 [.sl q m, .clo 83 [.ptr (some (b, 0))]] h (fun r h' => h' = h ∧ r = .bool (!inE U.length E)) := by
  refine call_ Try.func82 rfl rfl (by kernel_rfl) ?_
  conv => whnf
  refine (idx90 hb s nm hm).mono ?_
  rintro _ h' ⟨rfl, z, rfl, hz⟩
  conv => whnf
  exact ⟨rfl, by rw [← hz]⟩
theorem may71 {h : H} {g : Nat} {p q : Option (Nat × Nat)} {U E : List Int} (s : St h g p U) {m : Nat} (nm : SlIs h q m false 1 (ints .i64 E)) (hm : m ≤ 1000000) :
    ACalls Try.prog 71 [.ptr (some (g, 0)), .sl q m] h (fun r h' => r = .bool (inE U.length E) ∧ Ab.Mod none_ h h') := by
  refine call_ Try.func71 rfl rfl (by kernel_rfl) ?_
  conv => whnf
  have mm := Mod.push none_ h (.row true 1 [.ptr (some (g, 0))])
  have gb : (h.push (.row true 1 [.ptr (some (g, 0))])).obj h.next = some (.row true 1 [.ptr (some (g, 0))]) := H.obj_push_new _ _
  refine ⟨_, Cell.mk gb rfl, ?_⟩
  conv => whnf
  refine (cont82 gb (s.old mm (fun _ _ k => k)) (SlIs.old nm mm (fun _ _ k => k)) hm).mono ?_
  rintro _ h' ⟨e, rfl⟩
  subst e
  conv => whnf
  exact ⟨by rw [Bool.not_not], mm⟩
theorem may71n (h : H) (q : Option (Nat × Nat)) (m : Nat) : ACalls Try.prog 71 [.ptr none, .sl q m] h (fun r h' => r = .bool false ∧ Ab.Mod none_ h h') := by
  refine call_ Try.func71 rfl rfl (by kernel_rfl) ?_
  conv => whnf
  have mm := Mod.push none_ h (.row true 1 [.ptr none])
  have gb : (h.push (.row true 1 [.ptr none])).obj h.next = some (.row true 1 [.ptr none]) := H.obj_push_new _ _
  refine ⟨_, Cell.mk gb rfl, ?_⟩
  conv => whnf
  exact ⟨rfl, mm⟩
theorem clone84 {h : H} {p : Option (Nat × Nat)} {n : Nat} {cs : List V} (o : SlIs h p n false 1 cs) (hn : n ≤ 1000000) : ACalls Try.prog 84 [.sl p n] h (fun v h' => ∃ q, v = .sl q n ∧ NewSl h h' q n 1 cs ∧ Ab.Mod none_ h h') := by
  refine call_ Try.func84 rfl rfl (by kernel_rfl) ?_
  conv => whnf
  refine br_mk (fun hb => ?_) (fun hb => ?_)
  · conv => whnf
    cases p with
    | some x => simp at hb
    | none =>
      have hl := o.1
      rcases o.2 with ⟨h0, _⟩ | ⟨i, j, b, r, e, _⟩
      · subst h0
        rw [Nat.zero_mul] at hl
        rw [List.eq_nil_of_length_eq_zero hl]
        exact ⟨none, rfl, NewSl.nil _ _ _, ⟨Nat.le_refl _, fun _ _ _ => rfl⟩⟩
      · cases e
  conv => whnf
  refine ⟨[], _, ⟨rfl, .inr ⟨_, 0, true, [], rfl, by simp [H.push]; rfl, fun e => e, by simp, by simp⟩⟩, o.get (Mod.push none_ h _) (fun _ _ _ => .inl (fun k => k)), by rw [show (T.at_ 3).bytes = 8 from rfl]; omega, by omega, fun p' h' hs hm hf => ?_⟩
  conv => whnf
  rw [Nat.zero_add] at hs ⊢
  refine ⟨p', rfl, ⟨hs, fun i o e => ?_⟩, (Mod.push none_ h _).trans' hm (fun _ _ k => k) (fun i hi k => ?_)⟩
  · rcases hf i o e with k | k
    · rw [e] at k
      injection k with k
      injection k with k
      omega
    · exact Nat.le_trans (Nat.le_succ _) k
  · obtain ⟨o, k⟩ := k
    injection k with k
    injection k with k
    omega
/-- what set answers -/
def SetQ (h : H) (g : Nat) (p : Option (Nat × Nat)) (U : List Int) (u : Int) (E : List Int) (r : V) (h' : H) : Prop :=
  ∃ q, r = .sl q (outV U u E).length ∧ NewSl h h' q (outV U u E).length 1 (ints .i64 (outV U u E)) ∧ St h' g p (setV U u E) ∧ Ab.Mod (inSl p) h h'
theorem filter_snoc {α : Type} (P : α → Bool) (l : List α) (a : α) : (l ++ [a]).filter P = l.filter P ++ (if P a then [a] else []) := by
  rw [List.filter_append]
  congr 1
  by_cases h : P a <;> simp [h]
theorem take_snoc_ {l : List Int} {j : Nat} (h : j < l.length) : l.take (j + 1) = l.take j ++ [l.getD j 0] := by
  rw [List.take_succ_eq_append_getElem h, List.getD_eq_getElem?_getD, List.getElem?_eq_getElem h]
  rfl
theorem getD_in {l : List Int} {j : Nat} (h : j < l.length) : l.getD j 0 ∈ l := by
  rw [List.getD_eq_getElem?_getD, List.getElem?_eq_getElem h]
  exact List.getElem_mem h
theorem asc_notin {l : List Int} (hl : l.Pairwise (· < ·)) {j : Nat} (h : j < l.length) : l.getD j 0 ∉ l.take j := fun hm => by
  obtain ⟨k, hk, e⟩ := List.getElem_of_mem hm
  rw [List.length_take] at hk
  rw [List.getElem_take] at e
  have := (List.pairwise_iff_getElem.1 hl) k j (by omega) h (by omega)
  rw [List.getD_eq_getElem?_getD, List.getElem?_eq_getElem h] at e
  simp only [Option.getD_some] at e
  omega
theorem set72 {h : H} {g : Nat} {p q : Option (Nat × Nat)} {U E : List Int} (s : St h g p U) {m : Nat} (nm : SlIs h q m false 1 (ints .i64 E)) (hm : m ≤ 100000) (hU : U.length ≤ 512) (hE : inE U.length E = true) (u : Int) :
    ACalls Try.prog 72 [.ptr (some (g, 0)), i64 u, .sl q m] h (SetQ h g p U u E) := by
  refine call_ Try.func72 rfl rfl (by kernel_rfl) ?_
  conv => whnf
  refine (clone84 nm (by omega)).mono ?_
  rintro _ h1 ⟨q1, rfl, n1, m1⟩
  conv => whnf
  refine (sort79 n1.1 (by omega)).mono ?_
  rintro _ h2 ⟨rfl, s2, m2⟩
  conv => whnf
  refine (comp85 s2 (by omega)).mono ?_
  rintro _ h3 ⟨rfl, s3, m3⟩
  conv => whnf
  have e3 : Lib.compact (E.mergeSort leZ) = uniq E := rfl
  rw [e3] at s3 ⊢
  have hq1 : ∀ i, inSl q1 i → h.next ≤ i := fun i hi => n1.2 i hi.choose hi.choose_spec
  have mA : Ab.Mod none_ h h3 := (m1.trans' m2 (fun _ _ k => k) (fun i hi k => by have := hq1 i k; omega)).trans' m3 (fun _ _ k => k) (fun i hi k => by have := hq1 i k; omega)
  have sA := s.old mA (fun _ _ k => k)
  obtain ⟨ua, um⟩ := uniq_asc E
  have hin := inE_iff.1 hE
  have hlen : (uniq E).length ≤ m := by
    have := slo_len nm
    have h1 : (uniq E).length ≤ (E.mergeSort leZ).length := by
      rw [← e3]
      unfold Lib.compact Lib.compactUpTo
      rw [List.length_map]
      exact Nat.le_trans (List.length_filter_le _ _) (by simp)
    rw [List.length_mergeSort] at h1
    omega
  refine ⟨fun env hh => ∃ (j : Nat) (z : Int) (po : Option (Nat × Nat)), j ≤ (uniq E).length ∧ z = j ∧ NewSl h3 hh po (((uniq E).take j).filter (turnsB U u)).length 1 (ints .i64 (((uniq E).take j).filter (turnsB U u))) ∧ St hh g p (setV U u ((uniq E).take j)) ∧ Ab.Mod (inSl p) h3 hh ∧
      env = [(16, i64 z), (6, .sl po (((uniq E).take j).filter (turnsB U u)).length), (15, i64 (uniq E).length), (14, .sl q1 (uniq E).length), (0, .ptr (some (g, 0))), (1, i64 u)],
    fun env _ => match get env 16 with
      | .int _ z => ((uniq E).length - z).toNat
      | _ => 0, ⟨_, Forget.cons rfl (Forget.cons rfl (Forget.cons rfl (Forget.cons rfl (Forget.cons rfl (Forget.cons rfl (Forget.nil _)))))), 0, _, none, Nat.zero_le _, rfl, NewSl.nil _ _ _, by rw [List.take_zero, setV_nil]; exact sA, ⟨Nat.le_refl _, fun _ _ _ => rfl⟩, rfl⟩, ?_⟩
  rintro _ hh ⟨j, z, po, hj, rfl, no, st, mo, rfl⟩
  conv => whnf
  refine br_mk (fun hd => ?_) (fun hd => ?_)
  · conv => whnf
    have hd : j < (uniq E).length := by simpa using hd
    have hpq : ∀ i, inSl p i → i < h.next := fun i hi => s.lt i (.inr hi)
    have s4 : SlIs hh q1 (uniq E).length true 1 (ints .i64 (uniq E)) := s3.get mo (fun i o e => .inl (fun k => by
      have := hpq i k
      have := hq1 i ⟨o, e⟩
      omega))
    obtain ⟨i1, c1, f1, f2⟩ := slo_get s4 hd
    refine ⟨i1, c1, j, f1, rfl, hd, ?_⟩
    conv => whnf
    refine ⟨_, f2, ?_⟩
    conv => whnf
    refine ⟨_, Cell.mk st.box rfl, ?_⟩
    conv => whnf
    obtain ⟨g0, g1⟩ := hin _ ((um _).1 (getD_in hd))
    have hlt : ((uniq E).getD j 0).toNat < (setV U u ((uniq E).take j)).length := by rw [setV_length]; omega
    obtain ⟨i2, c2, k1, k2⟩ := st.cell hlt
    refine ⟨i2, c2, ((uniq E).getD j 0).toNat, k1, by omega, hlt, ?_⟩
    conv => whnf
    refine ⟨_, k2, ?_⟩
    conv => whnf
    rw [setV_get _ _ _ (by rw [setV_length] at hlt; exact hlt), if_neg (by rw [show (((uniq E).getD j 0).toNat : Int) = (uniq E).getD j 0 by omega]; exact asc_notin ua hd)]
    have hP : turnsB U u ((uniq E).getD j 0) = !(decide (U.getD ((uniq E).getD j 0).toNat 0 > 0) == decide (u > 0)) := rfl
    rw [← hP]
    refine br_mk (fun hb => ?_) (fun hb => ?_)
    · have hfil : ((uniq E).take (j + 1)).filter (turnsB U u) = ((uniq E).take j).filter (turnsB U u) ++ [(uniq E).getD j 0] := by
        rw [take_snoc_ hd, filter_snoc, if_pos hb]
      have hfl : (((uniq E).take j).filter (turnsB U u)).length ≤ j := by
        refine Nat.le_trans (List.length_filter_le _ _) ?_
        rw [List.length_take]
        omega
      conv => whnf
      have mP := Mod.push none_ hh (.row true 1 [i64 ((uniq E).getD j 0)])
      have gP : (hh.push (.row true 1 [i64 ((uniq E).getD j 0)])).obj hh.next = some (.row true 1 [i64 ((uniq E).getD j 0)]) := H.obj_push_new _ _
      have nP := NewSl.kept no mP
      refine ⟨_, _, nP.1, (SlIs.row (n := 1) gP rfl).weak, by rw [show (T.at_ 3).bytes = 8 from rfl]; omega, by omega, fun po2 h4 hs hm4 hf => ?_⟩
      have no2 := NewSl.app nP hs hf (Nat.le_trans mo.next mP.next)
      have mo1 : Ab.Mod (inSl p) h3 (hh.push (.row true 1 [i64 ((uniq E).getD j 0)])) := mo.trans' mP (fun _ _ k => k) (fun _ _ k => k.elim)
      have mo2 := NewSl.mod nP mo1 hm4
      have st2 := (st.old mP (fun _ _ k => k)).get hm4 (fun i hi k => by
        obtain ⟨o, k⟩ := k
        have h5 := nP.2 i o k
        have h6 := sA.lt i hi
        omega)
      have e6 : ints .i64 (((uniq E).take j).filter (turnsB U u)) ++ [i64 ((uniq E).getD j 0)] = ints .i64 (((uniq E).take (j + 1)).filter (turnsB U u)) := by rw [hfil, ints_append]; rfl
      have e7 : (((uniq E).take j).filter (turnsB U u)).length + 1 = (((uniq E).take (j + 1)).filter (turnsB U u)).length := by rw [hfil]; simp
      rw [e6, e7] at no2
      rw [e7]
      conv => whnf
      refine ⟨_, Cell.mk st2.box rfl, ?_⟩
      conv => whnf
      have hlt2 : ((uniq E).getD j 0).toNat < (setV U u ((uniq E).take j)).length := hlt
      obtain ⟨i3, c3, sz3, cs3, a1, a2, a3, a4, a5⟩ := st2.put hlt2 u
      refine ⟨i3, c3, ((uniq E).getD j 0).toNat, a1, by omega, hlt2, ?_⟩
      conv => whnf
      refine ⟨_, _, a2, a3, ?_⟩
      conv => whnf
      rw [setV_snoc U u _ g0 g1, ← take_snoc_ hd] at a4
      refine ⟨_, Forget.cons rfl (Forget.cons rfl (Forget.cons rfl (Forget.cons rfl (Forget.cons rfl (Forget.cons rfl (Forget.nil _)))))), ⟨j + 1, _, po2, hd, succ_i64 hd (by omega), NewSl.keep no2 a5 (fun i hi => Nat.lt_of_lt_of_le (hpq i hi) mA.next), a4, mo2.trans' a5 (fun _ _ k => k) (fun _ _ k => k), rfl⟩, ?_⟩
      exact mu_lt hd (by omega)
    · have hfil : ((uniq E).take (j + 1)).filter (turnsB U u) = ((uniq E).take j).filter (turnsB U u) := by
        rw [take_snoc_ hd, filter_snoc, if_neg (by rw [hb]; simp), List.append_nil]
      obtain ⟨po2, hpo2⟩ : ∃ x, x = po := ⟨_, rfl⟩
      have no2 := no
      rw [← hfil, ← hpo2] at no2
      have mo2 := mo
      have st2 := st
      rw [← hfil, ← hpo2]
      conv => whnf
      refine ⟨_, Cell.mk st2.box rfl, ?_⟩
      conv => whnf
      have hlt2 : ((uniq E).getD j 0).toNat < (setV U u ((uniq E).take j)).length := hlt
      obtain ⟨i3, c3, sz3, cs3, a1, a2, a3, a4, a5⟩ := st2.put hlt2 u
      refine ⟨i3, c3, ((uniq E).getD j 0).toNat, a1, by omega, hlt2, ?_⟩
      conv => whnf
      refine ⟨_, _, a2, a3, ?_⟩
      conv => whnf
      rw [setV_snoc U u _ g0 g1, ← take_snoc_ hd] at a4
      refine ⟨_, Forget.cons rfl (Forget.cons rfl (Forget.cons rfl (Forget.cons rfl (Forget.cons rfl (Forget.cons rfl (Forget.nil _)))))), ⟨j + 1, _, po2, hd, succ_i64 hd (by omega), NewSl.keep no2 a5 (fun i hi => Nat.lt_of_lt_of_le (hpq i hi) mA.next), a4, mo2.trans' a5 (fun _ _ k => k) (fun _ _ k => k), rfl⟩, ?_⟩
      exact mu_lt hd (by omega)
  · conv => whnf
    have hd : ¬ j < (uniq E).length := by simpa using hd
    obtain rfl : j = (uniq E).length := by omega
    rw [List.take_length, out_uniq hE] at no
    rw [List.take_length, set_uniq] at st
    rw [List.take_length, out_uniq hE]
    exact ⟨po, rfl, ⟨no.1, fun i o e => Nat.le_trans mA.next (no.2 i o e)⟩, st, mA.trans' mo (fun _ _ k => k.elim) (fun _ _ k => k)⟩
end Go.Proofs.Ytpefdmidfllhoaa
