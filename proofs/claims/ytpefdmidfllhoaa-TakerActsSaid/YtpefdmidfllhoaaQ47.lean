/- Takers: the document's, by what it holds; rows alike. -/
import Derived.Test.YtpefdmidfllhoaaQ43
import Derived.Test.YtpefdmidfllhoaaQ46
set_option linter.unusedVariables false
namespace Go.Proofs.Ytpefdmidfllhoaa
open Go Go.Ab
theorem ro3 {P : Go.Program} {f : Nat} {vs : List V} {h : H} {Q Q' : V → H → Prop} (c : ACalls P f vs h Q) (k : ∀ r h', Q r h' → ∃ i j l, Q' r (((h'.ro i).ro j).ro l)) : ACalls P f vs h Q' :=
  ((c.ro (Q' := fun r h' => ∃ j l, Q' r ((h'.ro j).ro l)) k).ro (Q' := fun r h' => ∃ l, Q' r (h'.ro l)) (fun _ _ q => q)).ro (fun _ _ q => q)
theorem RTk.ro {h : H} {g : Nat} {W N : Int} {S : Ent} (s : RTk h g W N S) {i : Nat} (hg : g ≠ i) : RTk (h.ro i) g W N S := by
  obtain ⟨⟨p, h1, h2⟩, h3⟩ := s
  exact ⟨⟨p, by rw [H.ro_ne _ hg, h1], h2.ro i⟩, fun x hx => (h3 x hx).ro i⟩
def RTkC (h : H) (g : Nat) (W N : Int) (C : Hd) : Prop := ∃ S, RTk h g W N S ∧ encM Prod.snd S = C
theorem RTkC.get {Z : Nat → Prop} {h h' : H} {g : Nat} {W N : Int} {C : Hd} (s : RTkC h g W N C) (m : Ab.Mod Z h h') (hg : ¬ Z g) : RTkC h' g W N C := by
  obtain ⟨S, h1, h2⟩ := s
  exact ⟨S, h1.get m hg, h2⟩
theorem RTkC.old {h h' : H} {g : Nat} {W N : Int} {C : Hd} (s : RTkC h g W N C) (m : Ab.Mod none_ h h') : RTkC h' g W N C := s.get m (fun k => k)
theorem RTkC.lt {h : H} {g : Nat} {W N : Int} {C : Hd} (s : RTkC h g W N C) : g < h.next := by
  obtain ⟨S, h1, _⟩ := s
  exact h1.lt
theorem RTkC.n {h : H} {g : Nat} {W N : Int} {C : Hd} (s : RTkC h g W N C) : Cell h g 1 (i64 N) := by
  obtain ⟨S, ⟨⟨p, h1, _⟩, _⟩, _⟩ := s
  exact Cell.mk h1 rfl
def RTakeC (h : H) (g : Nat) (W N : Int) (C : Hd) (seq : Int) (body : List Int) (r : V) (h' : H) : Prop :=
  ∃ q, r = .tup [.sl q (tkV W N C seq body).2.1.length, .bool (tkV W N C seq body).1] ∧ Rws h' q (tkV W N C seq body).2.1 ∧ RTkC h' g W (tkV W N C seq body).2.2.1 (tkV W N C seq body).2.2.2 ∧ Ab.Mod (one g) h h'
theorem ro_sub {h : H} {p : Option (Nat × Nat)} {X : Ent} (o : RoSl h p X.length 2 (X.flatMap eC)) {k : Nat} (hk : k ≤ X.length) : RoSl h (slp p (k * 2)) (X.drop k).length 2 ((X.drop k).flatMap eC) := by
  rw [List.length_drop]
  exact ro_drop eC_len o hk
theorem take30c {h : H} {g : Nat} {W N : Int} {C : Hd} (s : RTkC h g W N C) (ok : okW W = true) (o : OkH W N C) (hN0 : 0 ≤ N) (hN1 : N ≤ 1000000) {seq : Int} (hs : inI seq) {q : Option (Nat × Nat)} {m : Nat} {body : List Int} (nm : SlIs h q m false 1 (ints .u8 body)) (hm : m ≤ 100000) :
    ACalls Try.prog 30 [.ptr (some (g, 0)), i64 seq, .sl q m] h (RTakeC h g W N C seq body) := by
  obtain ⟨S, st, hC⟩ := s
  have hW : 1 ≤ W ∧ W ≤ 16 := by simpa [okW] using ok
  have hml := slo_len nm
  have hlt := st.lt
  have hlen : C.length = S.length := by rw [← hC, encM_length]
  have hasc : AscS S := by
    have := o.asc
    rw [← hC] at this
    exact (encM_asc Prod.snd).1 this
  have hl := o.len hW.1
  have hmay : mayT W N seq S = mayC W N seq C := by
    rw [mayT, mayC, ← hC, encM_get]
    cases sget S seq <;> rfl
  refine ro3 (take30 st hasc ok hN0 hN1 (by omega) hs nm hm) ?_
  rintro r h' (⟨e, rfl, eh⟩ | ⟨e, pb, pC, q, k, X, hX, hk, hch, rfl, hb, nA, nB, nq, m'⟩)
  · subst eh
    rw [hmay] at e
    have hv : tkV W N C seq body = (false, [], N, C) := by rw [tkV, if_neg (by rw [e]; simp)]
    unfold RTakeC
    rw [hv]
    exact ⟨h'.next, h'.next, h'.next, none, rfl, ⟨[], RoSl.nil _ _ _, (fun x hx => by cases hx), rfl⟩, ⟨S, ((st.ro (by omega)).ro (by omega)).ro (by omega), hC⟩, (((mod_refl _ _).ro_new (Nat.le_refl _)).ro_new (Nat.le_refl _)).ro_new (Nat.le_refl _)⟩
  · rw [hmay] at e
    have key : chn N (insS C seq body) = ((X.take k).map fun x => x.2.2, N + (k : Int), encM Prod.snd (X.drop k)) := by
      have e1 : insS C seq body = encM Prod.snd X := by rw [← hC, hX]; exact encM_ins Prod.snd S seq (pb, body)
      rw [e1, chn_map, hch, List.map_map]
      rfl
    have hv : tkV W N C seq body = (true, (X.take k).map (fun x => x.2.2), N + (k : Int), encM Prod.snd (X.drop k)) := by rw [tkV, if_pos e, key]
    obtain ⟨i, h1, h2, h3⟩ := NR.freeze (.inl nA) m'
    obtain ⟨j, k1, k2, k3⟩ := ((NR.ro (.inl nB) i : NR h (h'.ro i) pb m 1 (ints .u8 body))).freeze h3
    obtain ⟨l, l1, l2, l3⟩ := (((NR.ro (.inl nq) i : NR h (h'.ro i) q k 1 _).ro j)).freeze k3
    refine ⟨i, j, l, ?_⟩
    unfold RTakeC
    rw [hv]
    have hgl : ((X.take k).map fun x => x.2.2).length = k := by simp [hk]
    have hXok : ∀ x ∈ X, bOk (((h'.ro i).ro j).ro l) x.2 := by
      rw [hX]
      refine insS_ent (fun x hx => ?_) ?_ seq
      · exact ((((st.ent x hx).get m').ro i).ro j).ro l
      · show RoSl _ pb body.length 1 (ints .u8 body)
        rw [← hml]
        exact k2.ro l
    have hs := ro_sub ((h2.ro j).ro l) hk
    refine ⟨q, ?_, ⟨(X.take k).map Prod.snd, ?_, fun x hx => ?_, ?_⟩, ⟨X.drop k, ⟨⟨slp pC (k * 2), ?_, hs⟩, fun x hx => hXok x (List.mem_of_mem_drop hx)⟩, rfl⟩, l3⟩
    · show V.tup [.sl q k, .bool true] = V.tup [.sl q ((X.take k).map fun x => x.2.2).length, .bool true]
      rw [hgl]
    · show RoSl _ q ((X.take k).map fun x => x.2.2).length 1 _
      rw [hgl, List.flatMap_map]
      exact l2
    · obtain ⟨y, hy, rfl⟩ := List.mem_map.1 hx
      exact hXok y (List.mem_of_mem_take hy)
    · rw [List.map_map]
      rfl
    · rw [H.ro_ne _ (by omega), H.ro_ne _ (by omega), H.ro_ne _ (by omega), hb, List.length_drop]
end Go.Proofs.Ytpefdmidfllhoaa
