/- Lapsing: the program's set. -/
import Derived.Test.YtpefdmidfllhoaaQ6
set_option linter.unusedVariables false
namespace Go.Proofs.Ytpefdmidfllhoaa
open Go Go.Ab
def lpJ (now : Int) (l : List (Int × Int)) : List Int := (l.filter fun x => decide (x.2 ≤ now)).map (·.1)
theorem lpJ_snoc (now : Int) (l : List (Int × Int)) (x : Int × Int) : lpJ now (l ++ [x]) = lpJ now l ++ (if decide (x.2 ≤ now) then [x.1] else []) := by
  rw [lpJ, List.filter_append, List.map_append, lpJ]
  congr 1
  by_cases h : x.2 ≤ now <;> simp [h]
theorem lpJ_le (now : Int) (l : List (Int × Int)) : (lpJ now l).length ≤ l.length := by
  rw [lpJ, List.length_map]
  exact List.length_filter_le _ _
theorem allV_len (U : List Int) : (allV U).length ≤ U.length := by
  rw [← allJ_all]
  exact allJ_le U _
theorem allV_mem {U : List Int} {x : Int × Int} (h : x ∈ allV U) : 0 ≤ x.1 ∧ x.1 < U.length ∧ 0 < x.2 ∧ x.2 = U.getD x.1.toNat 0 := by
  unfold allV at h
  obtain ⟨k, h1, rfl⟩ := List.mem_map.1 h
  obtain ⟨h2, h3⟩ := List.mem_filter.1 h1
  have h2 := List.mem_range.1 h2
  have h3 : 0 < U.getD k 0 := by simpa using h3
  exact ⟨by simp, by simpa using h2, h3, by simp⟩
theorem lpJ_all (U : List Int) (now : Int) : lpJ now (allV U) = lapseV U now := by
  have key : ∀ n, lpJ now (allJ U n) = pl n (fun k => decide (0 < U.getD k 0) && decide (U.getD k 0 ≤ now)) := by
    intro n
    induction n with
    | zero => rfl
    | succ n ih =>
      rw [allJ_succ, pl_succ]
      by_cases h : 0 < U.getD n 0
      · rw [if_pos (decide_eq_true h), lpJ_snoc, ih, decide_eq_true h, Bool.true_and]
      · rw [if_neg (by rw [decide_eq_false h]; simp), List.append_nil, ih, decide_eq_false h, Bool.false_and, if_neg (by simp), List.append_nil]
  exact key U.length
def LapseQ (h : H) (g : Nat) (p : Option (Nat × Nat)) (U : List Int) (now : Int) (r : V) (h' : H) : Prop :=
  ∃ q, r = .sl q (lapseV U now).length ∧ NewSl h h' q (lapseV U now).length 1 (ints .i64 (lapseV U now)) ∧ St h' g p (setV U 0 (lapseV U now)) ∧ Ab.Mod (inSl p) h h'
theorem getElem_in {α : Type} {l : List α} {j : Nat} (h : j < l.length) : l[j] ∈ l := List.getElem_mem h
theorem app1 {S : Nat → Prop} {h0 hh : H} {po : Option (Nat × Nat)} {n sz : Nat} {xs : List V} (no : NewSl h0 hh po n sz xs) (mo : Ab.Mod S h0 hh) (c : List V) (hc : c.length = sz) :
    SlIs (hh.push (.row true sz c)) po n true sz xs ∧ SlIs (hh.push (.row true sz c)) (some (hh.next, 0)) 1 false sz c ∧
    ∀ p' h', SlIs h' p' (n + 1) true sz (xs ++ c) → Ab.Mod (inSl po) (hh.push (.row true sz c)) h' → isFresh (hh.push (.row true sz c)) po p' → NewSl h0 h' p' (n + 1) sz (xs ++ c) ∧ Ab.Mod S h0 h' ∧ Ab.Mod (inSl po) hh h' := by
  have mP := Mod.push none_ hh (.row true sz c)
  have nP := NewSl.kept no mP
  refine ⟨nP.1, (SlIs.row (n := 1) (H.obj_push_new _ _) (by rw [hc, Nat.one_mul])).weak, fun p' h' hs hm hf => ⟨NewSl.app nP hs hf (Nat.le_trans mo.next mP.next), NewSl.mod nP (mo.trans' mP (fun _ _ k => k) (fun _ _ k => k.elim)) hm, mP.trans' hm (fun _ _ k => k.elim) (fun _ _ k => k)⟩⟩
theorem St.apart {h0 hh h' : H} {g : Nat} {p po : Option (Nat × Nat)} {U : List Int} (st : St hh g p U) (m : Ab.Mod (inSl po) hh h') (h1 : ∀ i, foot g p i → i < h0.next) (h2 : ∀ i o, po = some (i, o) → h0.next ≤ i) : St h' g p U :=
  st.get m (fun i hi k => by
    obtain ⟨o, k⟩ := k
    have := h1 i hi
    have := h2 i o k
    omega)
theorem lapse50 {h : H} {g : Nat} {p : Option (Nat × Nat)} {U : List Int} (s : St h g p U) (hU : U.length ≤ 512) (now : Int) : ACalls Try.prog 50 [.ptr (some (g, 0)), i64 now] h (LapseQ h g p U now) := by
  refine call_ Try.func50 rfl rfl (by kernel_rfl) ?_
  conv => whnf
  refine (all55 s hU).mono ?_
  rintro _ h1 ⟨q1, rfl, n1, m1⟩
  conv => whnf
  have hl := allV_len U
  have s1 := s.old m1 (fun _ _ k => k)
  have hpq : ∀ i, inSl p i → i < h.next := fun i hi => s.lt i (.inr hi)
  refine ⟨fun env hh => ∃ (j : Nat) (z : Int) (po : Option (Nat × Nat)), j ≤ (allV U).length ∧ z = j ∧ NewSl h1 hh po (lpJ now ((allV U).take j)).length 1 (ints .i64 (lpJ now ((allV U).take j))) ∧ St hh g p (setV U 0 (lpJ now ((allV U).take j))) ∧ Ab.Mod (inSl p) h1 hh ∧
      env = [(10, i64 z), (4, .sl po (lpJ now ((allV U).take j)).length), (9, i64 (allV U).length), (8, .sl q1 (allV U).length), (0, .ptr (some (g, 0))), (1, i64 now)],
    fun env _ => match get env 10 with
      | .int _ z => ((allV U).length - z).toNat
      | _ => 0, ⟨_, Forget.cons rfl (Forget.cons rfl (Forget.cons rfl (Forget.cons rfl (Forget.cons rfl (Forget.cons rfl (Forget.nil _)))))), 0, _, none, Nat.zero_le _, rfl, NewSl.nil _ _ _, by rw [List.take_zero, show lpJ now [] = [] from rfl, setV_nil]; exact s1, ⟨Nat.le_refl _, fun _ _ _ => rfl⟩, rfl⟩, ?_⟩
  rintro _ hh ⟨j, z, po, hj, rfl, no, st, mo, rfl⟩
  conv => whnf
  refine br_mk (fun hd => ?_) (fun hd => ?_)
  · conv => whnf
    have hd : j < (allV U).length := by simpa using hd
    have s4 : SlIs hh q1 (allV U).length true 2 ((allV U).flatMap shC) := n1.1.get mo (fun i o e => .inl (fun k => by
      have := hpq i k
      have := n1.2 i o e
      omega))
    obtain ⟨i1, c1, f1, f2, f3⟩ := sls_get shC_len s4 rfl hd
    refine ⟨i1, c1, j, f1, rfl, hd, ?_⟩
    conv => whnf
    refine ⟨_, f2, ?_⟩
    conv => whnf
    obtain ⟨gm, gn, ml⟩ := lay_row (h := hh) (sz := 2) [i64 0, i64 0] (shC (allV U)[j])
    obtain ⟨x0, x1, x2, x3⟩ := allV_mem (getElem_in hd)
    have tk : (allV U).take (j + 1) = (allV U).take j ++ [(allV U)[j]] := List.take_succ_eq_append_getElem hd
    refine ⟨_, _, gm, Nat.le_of_ble_eq_true rfl, ?_⟩
    conv => whnf
    refine ⟨_, Cell.mk gn rfl, ?_⟩
    conv => whnf
    refine br_mk (fun hb => ?_) (fun hb => ?_)
    · have e0 : lpJ now ((allV U).take (j + 1)) = lpJ now ((allV U).take j) ++ [(allV U)[j].1] := by rw [tk, lpJ_snoc, if_pos hb]
      have hjl := lpJ_le now ((allV U).take j)
      rw [List.length_take] at hjl
      conv => whnf
      refine ⟨[0, 1, 2, 3, 4, 5, 6, 7], [0, 1, 3, 7, 0, 16, 63, 127], by kernel_rfl, ?_⟩
      conv => whnf
      have stN := st.old ml (fun _ _ k => k)
      refine ⟨_, Cell.mk stN.box rfl, ?_⟩
      conv => whnf
      refine ⟨_, Cell.mk gn rfl, ?_⟩
      conv => whnf
      have hlt : (allV U)[j].1.toNat < (setV U 0 (lpJ now ((allV U).take j))).length := by rw [setV_length]; omega
      obtain ⟨i3, c3, sz3, cs3, a1, a2, a3, a4, a5⟩ := stN.put hlt 0
      refine ⟨i3, c3, (allV U)[j].1.toNat, a1, by omega, hlt, ?_⟩
      conv => whnf
      refine ⟨_, _, a2, a3, ?_⟩
      conv => whnf
      rw [setV_snoc U 0 _ x0 x1, ← e0] at a4
      have noN := NewSl.kept no ml
      have noS := NewSl.keep noN a5 (fun i hi => Nat.lt_of_lt_of_le (hpq i hi) m1.next)
      have moS := (mo.trans' ml (fun _ _ k => k) (fun _ _ k => k.elim)).trans' a5 (fun _ _ k => k) (fun _ _ k => k)
      have gS := a5.get gn (.inl (fun k => by
        have := hpq _ k
        have := m1.next
        have := mo.next
        omega))
      refine ⟨_, Cell.mk gS rfl, ?_⟩
      conv => whnf
      obtain ⟨q1', q2', q3'⟩ := app1 noS moS [i64 (allV U)[j].1] rfl
      refine ⟨_, _, q1', q2', by rw [show (T.at_ 3).bytes = 8 from rfl]; omega, by omega, fun po2 h6 hs hm6 hf => ?_⟩
      obtain ⟨no2, mo2, m6⟩ := q3' po2 h6 hs hm6 hf
      have st2 := St.apart (h0 := h1) a4 m6 (fun i hi => s1.lt i hi) noS.2
      conv => whnf
      have e6 : ints .i64 (lpJ now ((allV U).take j)) ++ [i64 (allV U)[j].1] = ints .i64 (lpJ now ((allV U).take (j + 1))) := by rw [e0, ints_append]; rfl
      have e7 : (lpJ now ((allV U).take j)).length + 1 = (lpJ now ((allV U).take (j + 1))).length := by rw [e0]; simp
      rw [e6, e7] at no2
      rw [e7]
      refine ⟨_, Forget.cons rfl (Forget.cons rfl (Forget.cons rfl (Forget.cons rfl (Forget.cons rfl (Forget.cons rfl (Forget.nil _)))))), ⟨j + 1, _, po2, hd, succ_i64 hd (by omega), no2, st2, mo2, rfl⟩, ?_⟩
      exact mu_lt hd (by omega)
    · have e0 : lpJ now ((allV U).take (j + 1)) = lpJ now ((allV U).take j) := by rw [tk, lpJ_snoc, if_neg (by rw [show decide ((allV U)[j].2 ≤ now) = false from hb]; simp), List.append_nil]
      conv => whnf
      have no2 := NewSl.kept no ml
      have mo2 := mo.trans' ml (fun _ _ k => k) (fun _ _ k => k.elim)
      have st2 := st.old ml (fun _ _ k => k)
      obtain ⟨po2, hpo2⟩ : ∃ x, x = po := ⟨_, rfl⟩
      rw [← e0] at no2 st2 ⊢
      rw [← hpo2] at no2 ⊢
      refine ⟨_, Forget.cons rfl (Forget.cons rfl (Forget.cons rfl (Forget.cons rfl (Forget.cons rfl (Forget.cons rfl (Forget.nil _)))))), ⟨j + 1, _, po2, hd, succ_i64 hd (by omega), no2, st2, mo2, rfl⟩, ?_⟩
      exact mu_lt hd (by omega)
  · conv => whnf
    have hd : ¬ j < (allV U).length := by simpa using hd
    obtain rfl : j = (allV U).length := by omega
    rw [List.take_length, lpJ_all] at no st
    rw [List.take_length, lpJ_all]
    exact ⟨po, rfl, ⟨no.1, fun i o e => Nat.le_trans m1.next (no.2 i o e)⟩, st, m1.trans' mo (fun _ _ k => k.elim) (fun _ _ k => k)⟩
end Go.Proofs.Ytpefdmidfllhoaa
