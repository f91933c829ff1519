/- MF: several texts in one. -/
import Derived.Test.YteapijoibimfnaaGreatME
import Derived.Test.YteapijoibimfnaaGreatP2
import Derived.Test.YteapijoibimfnaaGreatMD
set_option linter.unusedVariables false
set_option linter.unusedSimpArgs false
/-! The document's graph: which turns may be; what comes behind an edge. -/
namespace Go.Proofs.YteapijoibimfnaaGreat
open Go Go.Ab
theorem within68 (h : H) (n lo hi : Int) : ACalls Tryz.prog 68 [i64 n, i64 lo, i64 hi] h (fun r h' => h' = h ∧ r = .bool (inB n lo hi)) := by
  refine call_ Tryz.func68 rfl rfl (by kernel_rfl) ?_
  conv => whnf
  refine br_mk (fun hb => ?_) (fun hb => ?_)
  · conv => whnf
    refine ⟨rfl, ?_⟩
    have hb : decide (lo ≤ n) = true := hb
    rw [inB, hb]
    rfl
  · conv => whnf
    refine ⟨rfl, ?_⟩
    have hb : decide (lo ≤ n) = false := hb
    rw [inB, hb]
    rfl
theorem inB_len {i : Int} {n : Nat} (hn : n ≤ 100000) : inB i 0 (IntKind.i64.wrap ((n : Int) - 1)) = (decide (0 ≤ i) && decide (i < n)) := by
  rw [wrap_i64 (by omega) (by omega), inB]
  congr 1
  exact decide_eq_decide.2 ⟨fun k => by omega, fun k => by omega⟩
theorem refEdge49 {h : H} {g : Gra} (ok : g.ok h) (i : Int) : ACalls Tryz.prog 49 [.agg g.cells, i64 i] h (fun r h' => r = .bool (edIn g i) ∧ Ab.Mod none_ h h') := by
  have le := ok.le
  refine call_ Tryz.func49 rfl rfl (by kernel_rfl) ?_
  conv => whnf
  obtain ⟨m0, g0⟩ := pre_row (Mod.refl none_ h) (.row true 3 g.cells)
  refine ⟨_, Cell.mk g0 rfl, ?_⟩
  conv => whnf
  refine (within68 _ i 0 _).mono ?_
  rintro _ h1 ⟨eh, rfl⟩
  subst h1
  conv => whnf
  exact ⟨congrArg V.bool (inB_len le), m0⟩
theorem refNode50 {h : H} {g : Gra} (ok : g.ok h) (i : Int) : ACalls Tryz.prog 50 [.agg g.cells, i64 i] h (fun r h' => r = .bool (ndIn g i) ∧ Ab.Mod none_ h h') := by
  have ln := ok.ln
  refine call_ Tryz.func50 rfl rfl (by kernel_rfl) ?_
  conv => whnf
  obtain ⟨m0, g0⟩ := pre_row (Mod.refl none_ h) (.row true 3 g.cells)
  refine ⟨_, Cell.mk g0 rfl, ?_⟩
  conv => whnf
  refine (within68 _ i 0 _).mono ?_
  rintro _ h1 ⟨eh, rfl⟩
  subst h1
  conv => whnf
  exact ⟨congrArg V.bool (inB_len ln), m0⟩
def BnI (g : Gra) (x : Nat) (a b : Int) (h : H) (env : Env) (hh : H) : Prop := hh = h ∧ ∃ (j : Nat) (z : Int), j ≤ g.bs.length ∧ z = j ∧ (∀ i (hi : i < g.bs.length), i < j → g.bs[i] ≠ (a, b)) ∧
  env = [(7, i64 z), (3, .ptr (some (x, 0))), (2, i64 b), (1, i64 a)]
theorem refBan117 {h : H} {g : Gra} (ok : g.ok h) (a b : Int) : ACalls Tryz.prog 117 [.agg g.cells, i64 a, i64 b] h (fun r h' => r = .bool (decide ((a, b) ∈ g.bs)) ∧ Ab.Mod none_ h h') := by
  have lb := ok.lb
  refine call_ Tryz.func117 rfl rfl (by kernel_rfl) ?_
  conv => whnf
  obtain ⟨m0, g0⟩ := pre_row (Mod.refl none_ h) (.row true 3 g.cells)
  have ok0 := ok.old m0 (fun _ _ k => k)
  refine ⟨BnI g h.next a b (h.push (.row true 3 g.cells)), fun env _ => TnMu 7 g.bs.length env, ⟨_, Forget.cons rfl (Forget.cons rfl (Forget.cons rfl (Forget.cons rfl (Forget.nil _)))), rfl, 0, 0, Nat.zero_le _, rfl, (fun i _ hi => absurd hi (Nat.not_lt_zero i)), rfl⟩, ?_⟩
  rintro _ hh ⟨rfl, j, z, hj, rfl, hno, rfl⟩
  conv => whnf
  refine ⟨_, Cell.mk g0 rfl, ?_⟩
  conv => whnf
  refine br_mk (fun hd => ?_) (fun hd => ?_)
  · conv => whnf
    simp at hd
    refine ⟨_, Cell.mk g0 rfl, ?_⟩
    conv => whnf
    obtain ⟨i1, c1, e1, k1, k2⟩ := sls_get pC_len ok0.b rfl hd
    refine ⟨i1, c1, j, e1, rfl, hd, ?_⟩
    conv => whnf
    refine ⟨_, k2 0 (i64 g.bs[j].1) rfl, ?_⟩
    conv => whnf
    refine br_mk (fun hx => ?_) (fun hx => ?_)
    · conv => whnf
      simp at hx
      refine ⟨_, Cell.mk g0 rfl, ?_⟩
      conv => whnf
      refine ⟨i1, c1, j, e1, rfl, hd, ?_⟩
      conv => whnf
      refine ⟨_, k2 1 (i64 g.bs[j].2) rfl, ?_⟩
      conv => whnf
      refine br_mk (fun hy => ?_) (fun hy => ?_)
      · conv => whnf
        simp at hy
        exact ⟨congrArg V.bool (decide_eq_true (by rw [← hx, ← hy]; exact List.getElem_mem hd)).symm, m0⟩
      · conv => whnf
        simp at hy
        exact ⟨_, Forget.cons rfl (Forget.cons rfl (Forget.cons rfl (Forget.cons rfl (Forget.nil _)))), ⟨rfl, j + 1, _, hd, succ_i64 hd (by omega), (fun i hi hij => by
          by_cases q : i = j
          · subst q
            intro e
            rw [e] at hy
            exact hy rfl
          · exact hno i hi (by omega)), rfl⟩, mu_lt hd (by omega)⟩
    · conv => whnf
      simp at hx
      exact ⟨_, Forget.cons rfl (Forget.cons rfl (Forget.cons rfl (Forget.cons rfl (Forget.nil _)))), ⟨rfl, j + 1, _, hd, succ_i64 hd (by omega), (fun i hi hij => by
        by_cases q : i = j
        · subst q
          intro e
          rw [e] at hx
          exact hx rfl
        · exact hno i hi (by omega)), rfl⟩, mu_lt hd (by omega)⟩
  · conv => whnf
    simp at hd
    refine ⟨congrArg V.bool (decide_eq_false fun k => ?_).symm, m0⟩
    obtain ⟨i, hi, e⟩ := List.getElem_of_mem k
    exact absurd e (hno i hi (by omega))
theorem edV_natA {g : Gra} {e : Nat} (he : e < g.es.length) : edV g (e : Int) = g.es[e] := edV_ok (g := g) (i := (e : Int)) (by omega) (by show e < _; exact he)
theorem refTurn105 {h : H} {g : Gra} (ok : g.ok h) {a b : Nat} (ha : a < g.es.length) (hb : b < g.es.length) : ACalls Tryz.prog 105 [.agg g.cells, i64 a, i64 b] h (fun r h' => r = .bool (mayT g a b) ∧ Ab.Mod none_ h h') := by
  have lb := ok.lb
  have ea : edIn g (a : Int) = true := edIn_ok (by omega) (by omega)
  have eb : edIn g (b : Int) = true := edIn_ok (by omega) (by omega)
  refine call_ Tryz.func105 rfl rfl (by kernel_rfl) ?_
  conv => whnf
  obtain ⟨m0, g0⟩ := pre_row (Mod.refl none_ h) (.row true 3 g.cells)
  have ok0 := ok.old m0 (fun _ _ k => k)
  refine ⟨[0, 1, 2, 3, 4, 5, 6, 7, 8, 9, 10, 11, 12, 13, 14, 15, 16, 17, 18, 19, 20, 21, 22, 23, 24, 25, 26, 27, 28, 29, 30], [0, 0, 3, 7, 15, 15, 63, 127, 255, 511, 1023, 511, 4095, 8191, 16383, 511, 33279, 511, 229887, 492031, 1016319, 2097151, 4194303, 8388607, 16777215, 16777215, 16777215, 134217727, 268435455, 536870911, 1073741823], by kernel_rfl, ?_⟩
  conv => whnf
  refine ⟨_, Cells.mk g0 (Nat.le_of_ble_eq_true rfl) rfl, ?_⟩
  conv => whnf
  refine (refEdge49 ok0 a).mono ?_
  rintro _ h1 ⟨rfl, m1⟩
  rw [ea]
  conv => whnf
  have ok1 := ok0.old m1 (fun _ _ k => k)
  have g1 := m1.get g0 (.inl fun k => k)
  refine ⟨_, Cells.mk g1 (Nat.le_of_ble_eq_true rfl) rfl, ?_⟩
  conv => whnf
  refine (refEdge49 ok1 b).mono ?_
  rintro _ h2 ⟨rfl, m2⟩
  rw [eb]
  conv => whnf
  have ok2 := ok1.old m2 (fun _ _ k => k)
  have g2 := m2.get g1 (.inl fun k => k)
  refine ⟨_, Cell.mk g2 rfl, ?_⟩
  conv => whnf
  obtain ⟨i1, c1, e1, k1, k2⟩ := sls_get eC_len ok2.e rfl ha
  refine ⟨i1, c1, a, e1, rfl, ha, ?_⟩
  conv => whnf
  refine ⟨_, k2 1 (i64 g.es[a].2.1) rfl, ?_⟩
  conv => whnf
  refine ⟨_, Cell.mk g2 rfl, ?_⟩
  conv => whnf
  obtain ⟨i3, c3, e3, k3, k4⟩ := sls_get eC_len ok2.e rfl hb
  refine ⟨i3, c3, b, e3, rfl, hb, ?_⟩
  conv => whnf
  refine ⟨_, k4 0 (i64 g.es[b].1) rfl, ?_⟩
  conv => whnf
  have hm : mayT g a b = (decide (g.es[a].2.1 = g.es[b].1) && !decide (((a : Int), (b : Int)) ∈ g.bs)) := by
    rw [mayT, ea, eb, edV_natA ha, edV_natA hb]
    rfl
  have mm := mod_none m0 (mod_none m1 m2)
  refine br_mk (fun hx => ?_) (fun hx => ?_)
  · conv => whnf
    have hx : decide (g.es[a].2.1 = g.es[b].1) = true := hx
    refine ⟨_, Cells.mk g2 (Nat.le_of_ble_eq_true rfl) rfl, ?_⟩
    conv => whnf
    refine (refBan117 ok2 a b).mono ?_
    rintro _ h3 ⟨rfl, m3⟩
    conv => whnf
    exact ⟨by rw [hm, hx]; rfl, mod_none mm m3⟩
  · conv => whnf
    have hx : decide (g.es[a].2.1 = g.es[b].1) = false := hx
    exact ⟨by rw [hm, hx]; rfl, mm⟩
def nextR (g : Gra) (e : Nat) : List Nat := (List.range g.es.length).filter fun b => mayT g (e : Int) (b : Int)
theorem nextR_mem {g : Gra} {e b : Nat} : b ∈ nextR g e ↔ b < g.es.length ∧ mayT g (e : Int) (b : Int) = true := by simp [nextR]
theorem nextR_next {g : Gra} (hm : mayG g = true) {a : Nat} (ha : a < g.es.length) {b : Nat} : b ∈ nextR g a ↔ b ∈ nextN g a := by
  rw [nextR_mem, nextN, List.mem_filter, outN, rowOf_mem]
  constructor
  · rintro ⟨hb, h⟩
    have e1 := mayG_edge hm ha
    have e2 := mayG_edge hm hb
    rw [mayT, edV_natA ha, edV_natA hb] at h
    simp only [Bool.and_eq_true, decide_eq_true_eq] at h
    refine ⟨⟨hb, ?_⟩, ?_⟩
    · rw [frK, toK, es_get g ha, es_get g hb, h.2.2.1]
    · rw [banQ]
      exact h.2.2.2
  · rintro ⟨⟨hb, h1⟩, h2⟩
    have e1 := mayG_edge hm ha
    have e2 := mayG_edge hm hb
    refine ⟨hb, ?_⟩
    rw [mayT, edV_natA ha, edV_natA hb, edIn_ok (by omega) (by omega), edIn_ok (by omega) (by omega)]
    rw [frK, toK, es_get g ha, es_get g hb] at h1
    rw [banQ] at h2
    simp only [Bool.and_eq_true, decide_eq_true_eq, true_and]
    exact ⟨by omega, h2⟩
def nxRJ (g : Gra) (e j : Nat) : List Nat := (List.range j).filter fun b => mayT g (e : Int) (b : Int)
theorem nxRJ_succ (g : Gra) (e j : Nat) : nxRJ g e (j + 1) = nxRJ g e j ++ (if mayT g (e : Int) (j : Int) = true then [j] else []) := by
  rw [nxRJ, List.range_succ, List.filter_append, nxRJ]
  congr 1
  by_cases q : mayT g (e : Int) (j : Int) = true
  · simp [q]
  · simp [q]
theorem nxRJ_len (g : Gra) (e j : Nat) : (nxRJ g e j).length ≤ j := by
  have := List.length_filter_le (fun b : Nat => mayT g (e : Int) (b : Int)) (List.range j)
  rw [List.length_range] at this
  exact this
def NxI (g : Gra) (x e : Nat) (h : H) (env : Env) (hh : H) : Prop := ∃ (j : Nat) (z : Int) (po : Option (Nat × Nat)), j ≤ g.es.length ∧ z = j ∧ NewSl h hh po (nxRJ g e j).length 1 (ints .i64 (natL (nxRJ g e j))) ∧ Ab.Mod none_ h hh ∧ hh.obj x = some (.row true 3 g.cells) ∧
  env = [(6, i64 z), (5, .sl po (nxRJ g e j).length), (2, .ptr (some (x, 0))), (1, i64 e)]
theorem refNext80 {h : H} {g : Gra} (ok : g.ok h) {e : Nat} (he : e < g.es.length) : ACalls Tryz.prog 80 [.agg g.cells, i64 e] h (fun r h' => ∃ q, r = .sl q (nextR g e).length ∧ NewSl h h' q (nextR g e).length 1 (ints .i64 (natL (nextR g e))) ∧ Ab.Mod none_ h h') := by
  have le := ok.le
  refine call_ Tryz.func80 rfl rfl (by kernel_rfl) ?_
  conv => whnf
  obtain ⟨m0, g0⟩ := pre_row (Mod.refl none_ h) (.row true 3 g.cells)
  refine ⟨NxI g h.next e (h.push (.row true 3 g.cells)), fun env _ => TnMu 6 g.es.length env, ⟨_, Forget.cons rfl (Forget.cons rfl (Forget.cons rfl (Forget.cons rfl (Forget.nil _)))), 0, 0, none, Nat.zero_le _, rfl, NewSl.nil _ _ _, Mod.refl _ _, g0, rfl⟩, ?_⟩
  rintro _ hh ⟨j, z, po, hj, rfl, no, m, gb, rfl⟩
  have ok1 := ok.old (mod_none m0 m) (fun _ _ k => k)
  conv => whnf
  refine ⟨_, Cell.mk gb rfl, ?_⟩
  conv => whnf
  refine br_mk (fun hd => ?_) (fun hd => ?_)
  · conv => whnf
    simp at hd
    refine ⟨_, Cells.mk gb (Nat.le_of_ble_eq_true rfl) rfl, ?_⟩
    conv => whnf
    refine (refTurn105 ok1 he hd).mono ?_
    rintro _ h2 ⟨rfl, m2⟩
    have gb2 := m2.get gb (.inl fun k => k)
    conv => whnf
    refine br_mk (fun hx => ?_) (fun hx => ?_)
    · conv => whnf
      have hx : mayT g (e : Int) (j : Int) = true := hx
      have hl := nxRJ_len g e j
      obtain ⟨mP, gP⟩ := pre_row m2 (.row true 1 [i64 j])
      have m3 := mod_none m2 mP
      have nP := NewSl.kept no m3
      refine ⟨_, _, nP.1, (SlIs.row (n := 1) gP rfl).weak, by rw [show (T.at_ 3).bytes = 8 from rfl]; omega, by omega, fun po2 h4 hs hm4 hf => ?_⟩
      have no2 := NewSl.app nP hs hf (Nat.le_trans m.next m3.next)
      have mo2 := NewSl.mod nP (mod_none m m3) hm4
      have e6 : ints .i64 (natL (nxRJ g e j)) ++ [i64 j] = ints .i64 (natL (nxRJ g e (j + 1))) := by rw [nxRJ_succ, if_pos hx, natL_app, ints_append]; rfl
      have e7 : (nxRJ g e j).length + 1 = (nxRJ g e (j + 1)).length := by rw [nxRJ_succ, if_pos hx]; simp
      rw [e6, e7] at no2
      conv => whnf
      rw [e7]
      refine ⟨_, Forget.cons rfl (Forget.cons rfl (Forget.cons rfl (Forget.cons rfl (Forget.nil _)))), ⟨j + 1, _, po2, hd, succ_i64 hd (by omega), no2, mo2, hm4.get (mP.get gb2 (.inl fun k => k)) (.inl fun ⟨o, k⟩ => ?_), rfl⟩, ?_⟩
      · have h5 := nP.2 _ o k
        have h6 : h.next + 1 ≤ h.next := h5
        omega
      · exact mu_lt hd (by omega)
    · conv => whnf
      have hx : mayT g (e : Int) (j : Int) = false := hx
      have e5 : nxRJ g e (j + 1) = nxRJ g e j := by rw [nxRJ_succ, if_neg (by rw [hx]; decide), List.append_nil]
      refine ⟨_, Forget.cons rfl (Forget.cons rfl (Forget.cons rfl (Forget.cons rfl (Forget.nil _)))), ⟨j + 1, _, po, hd, succ_i64 hd (by omega), by rw [e5]; exact NewSl.kept no m2, mod_none m m2, gb2, by rw [e5]; rfl⟩, ?_⟩
      exact mu_lt hd (by omega)
  · conv => whnf
    simp at hd
    obtain rfl : j = g.es.length := by omega
    exact ⟨po, rfl, ⟨no.1, fun i o e => Nat.le_trans (Nat.le_succ _) (no.2 i o e)⟩, mod_none m0 m⟩
end Go.Proofs.YteapijoibimfnaaGreat
/-! The document's arcs: the walk. -/
namespace Go.Proofs.YteapijoibimfnaaGreat
open Go Go.Ab
def aC (g : Gra) (x : Nat × Nat) : List V := [i64 x.1, i64 x.2, i64 (edV g (x.2 : Int)).2.2, i64 (-1)]
theorem aC_len (g : Gra) (x : Nat × Nat) : (aC g x).length = 4 := rfl
def arcL (g : Gra) (a : Nat) : List (Nat × Nat) := (List.range a).flatMap fun a => (nextR g a).map fun b => (a, b)
theorem arcL_succ (g : Gra) (a : Nat) : arcL g (a + 1) = arcL g a ++ (nextR g a).map fun b => (a, b) := by
  rw [arcL, List.range_succ, List.flatMap_append, arcL]
  simp
theorem nextR_len (g : Gra) (e : Nat) : (nextR g e).length ≤ g.es.length := nxRJ_len g e g.es.length
theorem arcL_len (g : Gra) : ∀ a, (arcL g a).length ≤ a * g.es.length
  | 0 => Nat.zero_le _
  | a + 1 => by
    rw [arcL_succ, List.length_append, List.length_map, Nat.succ_mul]
    have := arcL_len g a
    have := nextR_len g a
    omega
theorem arcL_mem {g : Gra} {n a b : Nat} : (a, b) ∈ arcL g n ↔ a < n ∧ b ∈ nextR g a := by
  simp [arcL]
def ArI (g : Gra) (x : Nat) (h : H) (env : Env) (hh : H) : Prop := ∃ (a : Nat) (z : Int) (po : Option (Nat × Nat)), a ≤ g.es.length ∧ z = a ∧ NewSl h hh po (arcL g a).length 4 ((arcL g a).flatMap (aC g)) ∧ Ab.Mod none_ h hh ∧ hh.obj x = some (.row true 3 g.cells) ∧
  env = [(4, i64 z), (3, .sl po (arcL g a).length), (1, .ptr (some (x, 0)))]
def ArJ (g : Gra) (x a : Nat) (qn : Option (Nat × Nat)) (h : H) (env : Env) (hh : H) : Prop := ∃ (j : Nat) (z : Int) (po : Option (Nat × Nat)) (l : List (Nat × Nat)), j ≤ (nextR g a).length ∧ z = j ∧ l = arcL g a ++ ((nextR g a).take j).map (fun b => (a, b)) ∧ NewSl h hh po l.length 4 (l.flatMap (aC g)) ∧ Ab.Mod none_ h hh ∧ hh.obj x = some (.row true 3 g.cells) ∧
  SlIs hh qn (nextR g a).length true 1 (ints .i64 (natL (nextR g a))) ∧ (∀ i, inSl qn i → ¬ inSl po i) ∧
  env = [(6, i64 z), (5, .sl qn (nextR g a).length), (4, i64 a), (3, .sl po l.length), (1, .ptr (some (x, 0)))]
set_option maxHeartbeats 2000000 in
theorem refArcs69 {h : H} {g : Gra} (ok : g.ok h) (hN : g.es.length ≤ 512) : ACalls Tryz.prog 69 [.agg g.cells] h (fun r h' => ∃ q, r = .sl q (arcL g g.es.length).length ∧ NewSl h h' q (arcL g g.es.length).length 4 ((arcL g g.es.length).flatMap (aC g)) ∧ Ab.Mod none_ h h') := by
  refine call_ Tryz.func69 rfl rfl (by kernel_rfl) ?_
  conv => whnf
  obtain ⟨m0, g0⟩ := pre_row (Mod.refl none_ h) (.row true 3 g.cells)
  refine ⟨ArI g h.next (h.push (.row true 3 g.cells)), fun env _ => TnMu 4 g.es.length env, ⟨_, Forget.cons rfl (Forget.cons rfl (Forget.cons rfl (Forget.nil _))), 0, 0, none, Nat.zero_le _, rfl, NewSl.nil _ _ _, Mod.refl _ _, g0, rfl⟩, ?_⟩
  rintro _ hh ⟨a, z, po, ha, rfl, no, m, gb, rfl⟩
  have ok1 := ok.old (mod_none m0 m) (fun _ _ k => k)
  conv => whnf
  refine ⟨_, Cell.mk gb rfl, ?_⟩
  conv => whnf
  refine br_mk (fun hd => ?_) (fun hd => ?_)
  · conv => whnf
    simp at hd
    refine ⟨_, Cells.mk gb (Nat.le_of_ble_eq_true rfl) rfl, ?_⟩
    conv => whnf
    refine (refNext80 ok1 hd).mono ?_
    rintro _ h2 ⟨qn, rfl, w2, m2⟩
    have gb2 := m2.get gb (.inl fun k => k)
    conv => whnf
    refine ⟨ArJ g h.next a qn (h.push (.row true 3 g.cells)), fun env _ => TnMu 6 (nextR g a).length env, ⟨_, Forget.cons rfl (Forget.cons rfl (Forget.cons rfl (Forget.cons rfl (Forget.cons rfl (Forget.nil _))))), 0, 0, po, arcL g a, Nat.zero_le _, rfl, by simp, NewSl.kept no m2, mod_none m m2, gb2, w2.1, (fun i ⟨o, e⟩ k => by
      have h5 := w2.2 i o e
      have h6 := SlIs.own_lt no.1 k
      omega), rfl⟩, ?_⟩
    clear no m gb w2 m2 gb2 ok1
    rintro _ h3 ⟨j, z, po, l, hj, rfl, hl, no, m, gb, wn, hq, rfl⟩
    have ok3 := ok.old (mod_none m0 m) (fun _ _ k => k)
    have hll : l.length ≤ 262144 + 512 := by
      rw [hl, List.length_append, List.length_map, List.length_take]
      have h1 := arcL_len g a
      have h2 : a * g.es.length ≤ 512 * 512 := Nat.mul_le_mul (by omega) hN
      have h3 := nextR_len g a
      omega
    conv => whnf
    refine br_mk (fun hd2 => ?_) (fun hd2 => ?_)
    · conv => whnf
      simp at hd2
      have hnl := nextR_len g a
      have hbm : (nextR g a)[j] < g.es.length := (nextR_mem.1 (List.getElem_mem hd2)).1
      refine ⟨[0, 1, 2, 3, 4, 5, 6, 7, 8, 9, 10, 11, 12, 13, 14, 15, 16, 17, 18], [0, 0, 0, 0, 12, 28, 0, 64, 0, 0, 768, 1792, 4032, 8128, 16320, 32766, 65534, 131071, 262143], by kernel_rfl, ?_⟩
      conv => whnf
      obtain ⟨i1, c1, e1, k1⟩ := slo_get wn.weak hd2
      rw [natL_get hd2] at k1
      refine ⟨i1, c1, j, e1, rfl, hd2, ?_⟩
      conv => whnf
      refine ⟨_, k1, ?_⟩
      conv => whnf
      refine ⟨_, Cell.mk gb rfl, ?_⟩
      conv => whnf
      refine ⟨i1, c1, j, e1, rfl, hd2, ?_⟩
      conv => whnf
      refine ⟨_, k1, ?_⟩
      conv => whnf
      obtain ⟨i3, c3, e3, k3, k4⟩ := sls_get eC_len ok3.e rfl hbm
      refine ⟨i3, c3, (nextR g a)[j], e3, rfl, hbm, ?_⟩
      conv => whnf
      refine ⟨_, k4 2 (i64 g.es[(nextR g a)[j]].2.2) rfl, ?_⟩
      conv => whnf
      obtain ⟨mP, gP⟩ := pre_row m (.row true 4 [i64 a, i64 (nextR g a)[j], i64 g.es[(nextR g a)[j]].2.2, i64 (-1)])
      have nP := NewSl.kept no mP
      refine ⟨_, _, nP.1, (SlIs.row (n := 1) gP rfl).weak, by show _ * 32 ≤ _; omega, by omega, fun po2 h4 hs hm4 hf => ?_⟩
      have no2 := NewSl.app nP hs hf (Nat.le_trans m.next mP.next)
      have mo2 := NewSl.mod nP (mod_none m mP) hm4
      have e6 : l.flatMap (aC g) ++ [i64 a, i64 (nextR g a)[j], i64 g.es[(nextR g a)[j]].2.2, i64 (-1)] = (l ++ [(a, (nextR g a)[j])]).flatMap (aC g) := by
        rw [List.flatMap_append]
        congr 1
        show _ = aC g (a, (nextR g a)[j]) ++ []
        rw [List.append_nil, aC, edV_natA hbm]
      have e7 : l.length + 1 = (l ++ [(a, (nextR g a)[j])]).length := by simp
      rw [e6, e7] at no2
      conv => whnf
      rw [e7]
      refine ⟨_, Forget.cons rfl (Forget.cons rfl (Forget.cons rfl (Forget.cons rfl (Forget.cons rfl (Forget.nil _))))), ⟨j + 1, _, po2, l ++ [(a, (nextR g a)[j])], hd2, succ_i64 hd2 (by omega), ?_, no2, mo2, hm4.get (mP.get gb (.inl fun k => k)) (.inl fun ⟨o, k⟩ => ?_), (SlIs.old wn mP (fun _ _ k => k)).get hm4 (fun i o e => .inl (hq i ⟨o, e⟩)), (fun i hi ⟨o, e⟩ => (hf i o e).elim (fun k => hq i hi ⟨o, by rw [← k]; exact e⟩) fun k => ?_), rfl⟩, ?_⟩
      · rw [hl, List.take_add_one, List.getElem?_eq_getElem hd2, List.map_append, List.append_assoc]
        rfl
      · have h5 := nP.2 _ o k
        have h6 : h.next + 1 ≤ h.next := h5
        omega
      · exact absurd (SlIs.own_lt wn hi) (Nat.not_lt.2 (Nat.le_trans mP.next k))
      · exact mu_lt hd2 (by have := nextR_len g a; omega)
    · conv => whnf
      simp at hd2
      obtain rfl : j = (nextR g a).length := by omega
      rw [List.take_length, ← arcL_succ] at hl
      subst hl
      refine ⟨_, Forget.cons rfl (Forget.cons rfl (Forget.cons rfl (Forget.nil _))), ⟨a + 1, _, po, hd, succ_i64 hd (by omega), no, m, gb, rfl⟩, ?_⟩
      exact mu_lt hd (by omega)
  · conv => whnf
    simp at hd
    obtain rfl : a = g.es.length := by omega
    exact ⟨po, rfl, ⟨no.1, fun i o e => Nat.le_trans (Nat.le_succ _) (no.2 i o e)⟩, mod_none m0 m⟩
theorem refShut70 {h : H} {q : Option (Nat × Nat)} {c : List Bool} (s : SlIs h q c.length false 1 (bools c)) (e : Nat) : ACalls Tryz.prog 70 [.sl q c.length, i64 e] h (fun r h' => h' = h ∧ r = .bool (shutB c e)) := by
  refine call_ Tryz.func70 rfl rfl (by kernel_rfl) ?_
  conv => whnf
  refine br_mk (fun ha => ?_) (fun ha => ?_)
  · conv => whnf
    have ha : e < c.length := by simpa using ha
    obtain ⟨i, o, e1, k1⟩ := slb_get s rfl ha
    refine ⟨i, o, e, e1, rfl, ha, ?_⟩
    conv => whnf
    refine ⟨_, k1, ?_⟩
    conv => whnf
    exact ⟨rfl, rfl⟩
  · conv => whnf
    have ha : ¬ e < c.length := by simpa using ha
    exact ⟨rfl, by rw [shutB, List.getD_eq_getElem?_getD, List.getElem?_eq_none (by omega)]; rfl⟩
end Go.Proofs.YteapijoibimfnaaGreat
/-! The document's distances: the walk. -/
namespace Go.Proofs.YteapijoibimfnaaGreat
open Go Go.Ab
def cellD : V → Nat
  | .int _ z => bigD z
  | _ => 0
def sumC : List V → Nat
  | [] => 0
  | v :: l => cellD v + sumC l
theorem sumC_ints : ∀ d : List Int, sumC (ints .i64 d) = sumD d
  | [] => rfl
  | x :: d => by
    show bigD x + sumC (ints .i64 d) = bigD x + sumD d
    rw [sumC_ints d]
def sumS (q : Option (Nat × Nat)) (n : Nat) (h : H) : Nat := match q with
  | some (i, o) => (match h.obj i with
    | some (.row _ _ cs) => sumC ((cs.drop o).take n)
    | _ => 0)
  | none => 0
theorem sumS_eq {h : H} {q : Option (Nat × Nat)} {n : Nat} {own : Bool} {d : List Int} (s : SlIs h q n own 1 (ints .i64 d)) : sumS q n h = sumD d := by
  obtain ⟨hl, hr⟩ := s
  rcases hr with ⟨rfl, hp⟩ | ⟨i, o, o', r, rfl, hi, _, _, hc⟩
  · have hd : d = [] := by
      rw [ints_length] at hl
      exact List.eq_nil_of_length_eq_zero (by omega)
    subst hd
    unfold sumS
    split
    · split
      · simp [sumC, sumD]
      · rfl
    · rfl
  · unfold sumS
    simp only [hi]
    rw [Nat.mul_one] at hc
    rw [hc, sumC_ints]
def muB (q : Option (Nat × Nat)) (n : Nat) (env : Env) (h : H) : Nat := 2 * sumS q n h + (match get env 10 with
  | .bool true => 1
  | _ => 0)
theorem put_new {h hh : H} {q : Option (Nat × Nat)} {N : Nat} {d : List Int} (s : SlIs hh q N true 1 (ints .i64 d)) (hq : ∀ i, inSl q i → h.next + 1 ≤ i) (m : Ab.Mod none_ h hh) {e : Nat} (he : e < N) (v : Int) :
    ∃ i c sz cs, q = some (i, c) ∧ hh.obj i = some (.row true sz cs) ∧ c + e * 1 + 1 ≤ cs.length ∧ SlIs (hh.set i (.row true sz (splice cs (c + e * 1) [V.int .i64 v]))) q N true 1 (ints .i64 (d.set e v)) ∧ Ab.Mod none_ h (hh.set i (.row true sz (splice cs (c + e * 1) [V.int .i64 v]))) ∧ Ab.Mod (one i) hh (hh.set i (.row true sz (splice cs (c + e * 1) [V.int .i64 v]))) ∧ h.next + 1 ≤ i := by
  obtain ⟨i, c, sz, cs, e1, e2, e3, e4⟩ := own_put s he v
  have hi := hq i ⟨c, e1⟩
  exact ⟨i, c, sz, cs, e1, e2, e3, e4, new_set m (by omega) e2, Mod.set (S := one i) rfl e2 rfl, hi⟩
def T1I (g : Gra) (k : Nat) (h : H) (qd qc : Option (Nat × Nat)) (cl : Nat) (env : Env) (hh : H) : Prop := ∃ (j : Nat) (z : Int) (d : List Int), j ≤ g.es.length ∧ z = j ∧ d.length = g.es.length ∧ (∀ e, e < j → d.getD e 0 = if (toK g e == k) = true then 0 else -1) ∧ SlIs hh qd g.es.length true 1 (ints .i64 d) ∧ Ab.Mod none_ h hh ∧ hh.obj h.next = some (.row true 3 g.cells) ∧
  env = [(8, i64 z), (7, .sl qd g.es.length), (3, .ptr (some (h.next, 0))), (2, .sl qc cl), (1, i64 k)]
def Rlx (G : Rd) (d : List Int) (x : Nat × Nat) : Prop := G.cl x.2 = false → 0 ≤ d.getD x.2 0 → 0 ≤ d.getD x.1 0
def T2I (g : Gra) (k : Nat) (h : H) (qd qa qc : Option (Nat × Nat)) (c : List Bool) (env : Env) (hh : H) : Prop := ∃ (d : List Int) (ag : Bool), BF (rdOf g k c) d ∧ (ag = true ∨ ∀ x ∈ arcL g g.es.length, Rlx (rdOf g k c) d x) ∧ SlIs hh qd g.es.length true 1 (ints .i64 d) ∧ SlIs hh qa (arcL g g.es.length).length true 4 ((arcL g g.es.length).flatMap (aC g)) ∧ Ab.Mod none_ h hh ∧
  env = [(10, .bool ag), (9, .sl qa (arcL g g.es.length).length), (7, .sl qd g.es.length), (2, .sl qc c.length)]
def T3I (g : Gra) (k : Nat) (h : H) (qd qa qc : Option (Nat × Nat)) (c : List Bool) (d0 : List Int) (env : Env) (hh : H) : Prop := ∃ (j : Nat) (z : Int) (d : List Int) (ag : Bool), j ≤ (arcL g g.es.length).length ∧ z = j ∧ BF (rdOf g k c) d ∧ ((ag = false ∧ d = d0 ∧ ∀ i (hi : i < (arcL g g.es.length).length), i < j → Rlx (rdOf g k c) d (arcL g g.es.length)[i]) ∨ (ag = true ∧ sumD d < sumD d0)) ∧ SlIs hh qd g.es.length true 1 (ints .i64 d) ∧ SlIs hh qa (arcL g g.es.length).length true 4 ((arcL g g.es.length).flatMap (aC g)) ∧ Ab.Mod none_ h hh ∧
  env = [(11, i64 z), (10, .bool ag), (9, .sl qa (arcL g g.es.length).length), (7, .sl qd g.es.length), (2, .sl qc c.length)]
set_option maxHeartbeats 4000000 in
theorem refTo51 {h : H} {g : Gra} (ok : g.ok h) (hm : mayG g = true) {k : Nat} (hk : k < g.ns.length) {qc : Option (Nat × Nat)} {c : List Bool} (sc : SlIs h qc c.length false 1 (bools c)) :
    ACalls Tryz.prog 51 [.agg g.cells, i64 k, .sl qc c.length] h (fun r h' => ∃ q d, r = .sl q g.es.length ∧ NewSl h h' q g.es.length 1 (ints .i64 d) ∧ FarOk (rdOf g k c) d ∧ Ab.Mod none_ h h') := by
  have hz := mayG_size hm
  have okr := rdOf_ok hm k c
  have hna : (arcL g g.es.length).length ≤ 262144 := by
    have h1 := arcL_len g g.es.length
    have h2 : g.es.length * g.es.length ≤ 512 * 512 := Nat.mul_le_mul hz.2.2.1 hz.2.2.1
    omega
  refine call_ Tryz.func51 rfl rfl (by kernel_rfl) ?_
  conv => whnf
  obtain ⟨m0, g0⟩ := pre_row (Mod.refl none_ h) (.row true 3 g.cells)
  refine ⟨_, Cells.mk g0 (Nat.le_of_ble_eq_true rfl) rfl, ?_⟩
  conv => whnf
  refine (refNode50 (ok.old m0 (fun _ _ k => k)) k).mono ?_
  rintro _ h1 ⟨rfl, m1⟩
  have g1 := m1.get g0 (.inl fun k => k)
  rw [ndIn_ok (g := g) (i := (k : Int)) (by omega) (by omega)]
  conv => whnf
  refine ⟨_, Cell.mk g1 rfl, ?_⟩
  conv => whnf
  refine ⟨g.es.length, rfl, rfl, by omega, by rw [show (T.at_ 3).bytes = 8 from rfl]; omega, ?_⟩
  conv => whnf
  obtain ⟨m2, g2⟩ := pre_row m1 (.row true 1 (zerosV g.es.length [V.int .i64 0]))
  have mA := mod_none m0 (mod_none m1 m2)
  obtain ⟨qd, hqd⟩ : ∃ q, q = some (h1.next, 0) := ⟨_, rfl⟩
  have sd : SlIs (h1.push (.row true 1 (zerosV g.es.length [V.int .i64 0]))) qd g.es.length true 1 (ints .i64 (List.replicate g.es.length 0)) := by
    rw [hqd, ← zeros_ints]
    exact SlIs.row g2 (by rw [zeros_ints, ints_length, List.length_replicate, Nat.mul_one])
  have hq : ∀ i, inSl qd i → h.next + 1 ≤ i := fun i ⟨o, e⟩ => by
    rw [hqd] at e
    injection e with e
    injection e with e1 e2
    rw [← e1]
    exact m1.next
  refine ⟨T1I g k h qd qc c.length, fun env _ => TnMu 8 g.es.length env, ⟨_, Forget.cons rfl (Forget.cons rfl (Forget.cons rfl (Forget.cons rfl (Forget.cons rfl (Forget.nil _))))), 0, 0, _, Nat.zero_le _, rfl, List.length_replicate, (fun i hi => absurd hi (Nat.not_lt_zero i)), sd, mA, m2.get g1 (.inl fun k => k), by rw [hqd]; rfl⟩, ?_⟩
  clear hqd sd g2 m2 g1 mA m1 g0
  rintro _ hh ⟨j, z, d, hj, rfl, hdl, hini, sd, m, gb, rfl⟩
  conv => whnf
  refine br_mk (fun hd => ?_) (fun hd => ?_)
  · conv => whnf
    simp at hd
    obtain ⟨i1, c1, sz, cs, e1, e2, e3, sd1, m3, mo, hi1⟩ := put_new sd hq m hd (-1)
    refine ⟨i1, c1, j, e1, rfl, hd, ?_⟩
    conv => whnf
    refine ⟨_, _, e2, e3, ?_⟩
    conv => whnf
    have gb3 := mo.get gb (.inl fun z => by have z : h.next = i1 := z; omega)
    refine ⟨_, Cell.mk gb3 rfl, ?_⟩
    conv => whnf
    obtain ⟨i3, c3, e4, k3, k4⟩ := sls_get eC_len (ok.old m3 (fun _ _ k => k)).e rfl hd
    refine ⟨i3, c3, j, e4, rfl, hd, ?_⟩
    conv => whnf
    refine ⟨_, k4 1 (i64 g.es[j].2.1) rfl, ?_⟩
    conv => whnf
    have hto : g.es[j].2.1 = (toK g j : Int) := by
      have := mayG_edge hm hd
      rw [toK, es_get g hd]
      omega
    have hg1 : (d.set j (-1)).getD j 0 = -1 := by rw [getD_set' (by omega), if_pos rfl]
    refine br_mk (fun hx => ?_) (fun hx => ?_)
    · conv => whnf
      have hx : toK g j = k := by
        simp [hto] at hx
        omega
      obtain ⟨i5, c5, sz5, cs5, f1, f2, f3, sd5, m5, mo5, hi5⟩ := put_new sd1 hq m3 hd 0
      refine ⟨i5, c5, j, f1, rfl, hd, ?_⟩
      conv => whnf
      refine ⟨_, _, f2, f3, ?_⟩
      conv => whnf
      refine ⟨_, Forget.cons rfl (Forget.cons rfl (Forget.cons rfl (Forget.cons rfl (Forget.cons rfl (Forget.nil _))))), ⟨j + 1, _, (d.set j (-1)).set j 0, hd, succ_i64 hd (by omega), by rw [List.length_set, List.length_set]; exact hdl, (fun e he => ?_), sd5, m5, mo5.get gb3 (.inl fun z => by have z : h.next = i5 := z; omega), rfl⟩, mu_lt hd (by omega)⟩
      rw [getD_set' (by rw [List.length_set]; omega)]
      by_cases q : j = e
      · subst q
        rw [if_pos rfl, if_pos (beq_iff_eq.2 hx)]
      · rw [if_neg q, getD_set' (by omega), if_neg q]
        exact hini e (by omega)
    · conv => whnf
      have hx : ¬ toK g j = k := by
        simp [hto] at hx
        omega
      refine ⟨_, Forget.cons rfl (Forget.cons rfl (Forget.cons rfl (Forget.cons rfl (Forget.cons rfl (Forget.nil _))))), ⟨j + 1, _, d.set j (-1), hd, succ_i64 hd (by omega), by rw [List.length_set]; exact hdl, (fun e he => ?_), sd1, m3, gb3, rfl⟩, mu_lt hd (by omega)⟩
      rw [getD_set' (by omega)]
      by_cases q : j = e
      · subst q
        rw [if_pos rfl, if_neg (by rw [beq_iff_eq]; exact hx)]
      · rw [if_neg q]
        exact hini e (by omega)
  conv => whnf
  simp at hd
  obtain rfl : j = g.es.length := by omega
  refine ⟨_, Cells.mk gb (Nat.le_of_ble_eq_true rfl) rfl, ?_⟩
  conv => whnf
  refine (refArcs69 (ok.old m (fun _ _ k => k)) hz.2.2.1).mono ?_
  rintro _ h4 ⟨qa, rfl, wa, m4⟩
  conv => whnf
  have D0 : BF (rdOf g k c) d := BF.begin hdl hini
  have hqa : ∀ i, inSl qa i → ¬ inSl qd i := fun i ⟨o, e⟩ k => by
    have h5 := wa.2 i o e
    have h6 := SlIs.own_lt sd k
    omega
  refine ⟨T2I g k h qd qa qc c, fun env hh => muB qd g.es.length env hh, ⟨_, Forget.cons rfl (Forget.cons rfl (Forget.cons rfl (Forget.cons rfl (Forget.nil _)))), d, true, D0, .inl rfl, SlIs.old sd m4 (fun _ _ k => k), wa.1, mod_none m m4, rfl⟩, ?_⟩
  clear D0 wa m4 sd m gb hini hdl hd hj
  rintro _ h5 ⟨d0, ag, D, hag, sd, sa, m, rfl⟩
  conv => whnf
  refine br_mk (fun ha => ?_) (fun ha => ?_)
  · conv => whnf
    have ha : ag = true := ha
    have hmu : muB qd g.es.length [(10, .bool ag), (9, .sl qa (arcL g g.es.length).length), (7, .sl qd g.es.length), (2, .sl qc c.length)] h5 = 2 * sumD d0 + 1 := by
      rw [muB, sumS_eq sd, ha]
      rfl
    refine ⟨T3I g k h qd qa qc c d0, fun env _ => TnMu 11 (arcL g g.es.length).length env, ⟨_, Forget.cons rfl (Forget.cons rfl (Forget.cons rfl (Forget.cons rfl (Forget.cons rfl (Forget.nil _))))), 0, 0, d0, false, Nat.zero_le _, rfl, D, .inl ⟨rfl, rfl, fun i _ hi => absurd hi (Nat.not_lt_zero i)⟩, sd, sa, m, rfl⟩, ?_⟩
    clear sd sa m D hag
    rintro _ hh ⟨j, z, d, ag2, hj, rfl, D, hag, sd, sa, m, rfl⟩
    conv => whnf
    refine br_mk (fun hd => ?_) (fun hd => ?_)
    · conv => whnf
      simp at hd
      have hs2 := succ_i64 (j := j) (n := (arcL g g.es.length).length) hd (by omega)
      have hmu3 : (((arcL g g.es.length).length : Int) - IntKind.i64.wrap ((j : Int) + 1)).toNat < (((arcL g g.es.length).length : Int) - (j : Int)).toNat := mu_lt hd (by omega)
      obtain ⟨i1, c1, e1, k1, -⟩ := sls_get (aC_len g) sa.weak rfl hd
      refine ⟨i1, c1, j, e1, rfl, hd, ?_⟩
      conv => whnf
      refine ⟨_, k1, ?_⟩
      conv => whnf
      obtain ⟨⟨a, b⟩, hab⟩ : ∃ x, x = (arcL g g.es.length)[j] := ⟨_, rfl⟩
      rw [← hab]
      have hmem : (a, b) ∈ arcL g g.es.length := by
        rw [hab]
        exact List.getElem_mem hd
      obtain ⟨hal, hbn⟩ := arcL_mem.1 hmem
      have hbl := (nextR_mem.1 hbn).1
      have htn : (rdOf g k c).tn a b = true := decide_eq_true ((nextR_next hm hal).1 hbn)
      obtain ⟨gz, gA, mx⟩ := lay_row (h := hh) (sz := 4) [i64 0, i64 0, i64 0, i64 0] (aC g (a, b))
      refine ⟨_, _, gz, Nat.le_of_ble_eq_true rfl, ?_⟩
      conv => whnf
      have mm := mod_none m mx
      have sd1 := SlIs.old sd mx (fun _ _ k => k)
      have sa1 := SlIs.old sa mx (fun _ _ k => k)
      have hdl : d.length = g.es.length := D.len
      have nxt : ∀ {env'}, env' = [(11, i64 (IntKind.i64.wrap ((j : Int) + 1))), (10, .bool ag2), (9, .sl qa (arcL g g.es.length).length), (7, .sl qd g.es.length), (2, .sl qc c.length)] → Rlx (rdOf g k c) d (a, b) → T3I g k h qd qa qc c d0 env' _ := fun he hr => ⟨j + 1, _, d, ag2, hd, hs2, D, hag.imp (fun ⟨x1, x2, x3⟩ => ⟨x1, x2, fun i hi hij => by
        by_cases q : i = j
        · subst q
          rw [← hab]
          exact hr
        · exact x3 i hi (by omega)⟩) id, sd1, sa1, mm, he⟩
      refine ⟨_, Cell.mk gA rfl, ?_⟩
      conv => whnf
      refine (refShut70 (SlIs.old sc mm (fun _ _ k => k)) b).mono ?_
      rintro _ h6 ⟨eh, rfl⟩
      subst h6
      conv => whnf
      refine br_mk (fun hc => ?_) (fun hc => ?_)
      · conv => whnf
        have hc : shutB c b = true := hc
        exact ⟨_, Forget.cons rfl (Forget.cons rfl (Forget.cons rfl (Forget.cons rfl (Forget.cons rfl (Forget.nil _))))), nxt rfl (fun k => by
          have k : shutB c b = false := k
          rw [hc] at k
          cases k), hmu3⟩
      conv => whnf
      have hc : shutB c b = false := hc
      obtain ⟨ib, cb, eb, kb⟩ := slo_get sd1.weak hbl
      obtain ⟨ia, ca, ea, ka⟩ := slo_get sd1.weak hal
      refine ⟨_, Cell.mk gA rfl, ?_⟩
      conv => whnf
      refine ⟨ib, cb, b, eb, rfl, hbl, ?_⟩
      conv => whnf
      refine ⟨_, kb, ?_⟩
      conv => whnf
      refine br_mk (fun h0 => ?_) (fun h0 => ?_)
      · conv => whnf
        have h0 : d.getD b 0 < 0 := by simpa using h0
        exact ⟨_, Forget.cons rfl (Forget.cons rfl (Forget.cons rfl (Forget.cons rfl (Forget.cons rfl (Forget.nil _))))), nxt rfl (fun _ k => by
          have k : 0 ≤ d.getD b 0 := k
          omega), hmu3⟩
      conv => whnf
      have h0 : 0 ≤ d.getD b 0 := by simpa using h0
      refine ⟨[0, 1, 2, 3, 4, 5, 6, 7, 8], [0, 0, 2, 7, 15, 0, 32, 127, 255], by kernel_rfl, ?_⟩
      conv => whnf
      refine ⟨_, Cell.mk gA rfl, ?_⟩
      conv => whnf
      refine ⟨ib, cb, b, eb, rfl, hbl, ?_⟩
      conv => whnf
      refine ⟨_, kb, ?_⟩
      conv => whnf
      refine ⟨_, Cell.mk gA rfl, ?_⟩
      conv => whnf
      have wb1 : 1 ≤ (edV g (b : Int)).2.2 := okr.w1 b hbl
      have wb2 : (edV g (b : Int)).2.2 ≤ 65535 := okr.w2 b hbl
      have hbd : d.getD b 0 ≤ 65535 * ((g.es.length - negs d : Nat) : Int) := D.bnd b hbl
      rw [wrap_i64 (x := d.getD b 0 + (edV g (b : Int)).2.2) (by omega) (by omega)]
      refine ⟨_, Cell.mk gA rfl, ?_⟩
      conv => whnf
      refine ⟨ia, ca, a, ea, rfl, hal, ?_⟩
      conv => whnf
      refine ⟨_, ka, ?_⟩
      conv => whnf
      refine br_mk (fun h1 => ?_) (fun h1 => ?_)
      · conv => whnf
        have hlow : d.getD a 0 < 0 ∨ d.getD b 0 + (edV g (b : Int)).2.2 < d.getD a 0 := .inl (by simpa using h1)
        refine ⟨_, Cell.mk gA rfl, ?_⟩
        conv => whnf
        obtain ⟨i5, c5, sz5, cs5, f1, f2, f3, sd5, m5, mo5, hi5⟩ := put_new sd1 hq mm hal (d.getD b 0 + (edV g (b : Int)).2.2)
        refine ⟨i5, c5, a, f1, rfl, hal, ?_⟩
        conv => whnf
        refine ⟨_, _, f2, f3, ?_⟩
        conv => whnf
        obtain ⟨D5, hs5⟩ := D.upd okr hal hbl htn hc h0 hlow
        refine ⟨_, Forget.cons rfl (Forget.cons rfl (Forget.cons rfl (Forget.cons rfl (Forget.cons rfl (Forget.nil _))))), ⟨j + 1, _, _, true, hd, hs2, D5, .inr ⟨rfl, ?_⟩, sd5, sa1.get mo5 (fun i o e => .inl fun z => ?_), m5, rfl⟩, hmu3⟩
        · rcases hag with ⟨_, x2, _⟩ | ⟨_, x2⟩
          · rw [← x2]
            exact hs5
          · exact Nat.lt_trans hs5 x2
        · have z : i = i5 := z
          exact hqa i ⟨o, e⟩ ⟨c5, by rw [z]; exact f1⟩
      conv => whnf
      refine ⟨_, Cell.mk gA rfl, ?_⟩
      conv => whnf
      refine ⟨ia, ca, a, ea, rfl, hal, ?_⟩
      conv => whnf
      refine ⟨_, ka, ?_⟩
      conv => whnf
      refine br_mk (fun h2 => ?_) (fun h2 => ?_)
      · conv => whnf
        have hlow : d.getD a 0 < 0 ∨ d.getD b 0 + (edV g (b : Int)).2.2 < d.getD a 0 := .inr (by simpa using h2)
        refine ⟨_, Cell.mk gA rfl, ?_⟩
        conv => whnf
        obtain ⟨i5, c5, sz5, cs5, f1, f2, f3, sd5, m5, mo5, hi5⟩ := put_new sd1 hq mm hal (d.getD b 0 + (edV g (b : Int)).2.2)
        refine ⟨i5, c5, a, f1, rfl, hal, ?_⟩
        conv => whnf
        refine ⟨_, _, f2, f3, ?_⟩
        conv => whnf
        obtain ⟨D5, hs5⟩ := D.upd okr hal hbl htn hc h0 hlow
        refine ⟨_, Forget.cons rfl (Forget.cons rfl (Forget.cons rfl (Forget.cons rfl (Forget.cons rfl (Forget.nil _))))), ⟨j + 1, _, _, true, hd, hs2, D5, .inr ⟨rfl, ?_⟩, sd5, sa1.get mo5 (fun i o e => .inl fun z => ?_), m5, rfl⟩, hmu3⟩
        · rcases hag with ⟨_, x2, _⟩ | ⟨_, x2⟩
          · rw [← x2]
            exact hs5
          · exact Nat.lt_trans hs5 x2
        · have z : i = i5 := z
          exact hqa i ⟨o, e⟩ ⟨c5, by rw [z]; exact f1⟩
      conv => whnf
      have h1 : 0 ≤ d.getD a 0 := by simpa using h1
      exact ⟨_, Forget.cons rfl (Forget.cons rfl (Forget.cons rfl (Forget.cons rfl (Forget.cons rfl (Forget.nil _))))), nxt rfl (fun _ _ => h1), hmu3⟩
    · conv => whnf
      simp at hd
      obtain rfl : j = (arcL g g.es.length).length := by omega
      refine ⟨_, Forget.cons rfl (Forget.cons rfl (Forget.cons rfl (Forget.cons rfl (Forget.nil _)))), ⟨d, ag2, D, hag.elim (fun ⟨x1, x2, x3⟩ => .inr fun x hx => ?_) (fun k => .inl k.1), sd, sa, m, rfl⟩, ?_⟩
      · obtain ⟨i, hi, rfl⟩ := List.getElem_of_mem hx
        exact x3 i hi hi
      · show muB qd g.es.length _ hh < muB qd g.es.length _ h5
        rw [hmu]
        rcases hag with ⟨x1, x2, x3⟩ | ⟨x1, x2⟩
        · subst x1
          subst x2
          show 2 * sumS qd g.es.length hh + 0 < _
          rw [sumS_eq sd]
          omega
        · subst x1
          show 2 * sumS qd g.es.length hh + 1 < _
          rw [sumS_eq sd]
          omega
  · conv => whnf
    have ha : ag = false := ha
    have hr := hag.resolve_left (by rw [ha]; decide)
    exact ⟨qd, d0, rfl, ⟨sd, fun i o e => Nat.le_trans (Nat.le_succ _) (hq i ⟨o, e⟩)⟩, D.end fun a b ha hb ht hc h0 => hr (a, b) (arcL_mem.2 ⟨ha, (nextR_next hm ha).2 (of_decide_eq_true ht)⟩) hc h0, m⟩
end Go.Proofs.YteapijoibimfnaaGreat
/-! The document's distance between two places. -/
namespace Go.Proofs.YteapijoibimfnaaGreat
open Go Go.Ab
def FarR (g : Gra) (a k : Nat) (c : List Bool) (h : H) (r : V) (h' : H) : Prop := ∃ z : Int, r = i64 z ∧ (0 ≤ z ↔ Rch (rdOf g k c) a) ∧ (z = 0 ↔ toK g a = k) ∧ Ab.Mod none_ h h'
theorem refBetween25 {h : H} {g : Gra} (ok : g.ok h) (hm : mayG g = true) {a k : Nat} (ha : a < g.es.length) (hk : k < g.ns.length) {qc : Option (Nat × Nat)} {c : List Bool} (sc : SlIs h qc c.length false 1 (bools c)) :
    ACalls Tryz.prog 25 [.agg g.cells, i64 a, i64 k, .sl qc c.length] h (FarR g a k c h) := by
  refine call_ Tryz.func25 rfl rfl (by kernel_rfl) ?_
  conv => whnf
  obtain ⟨m0, g0⟩ := pre_row (Mod.refl none_ h) (.row true 3 g.cells)
  have ok0 := ok.old m0 (fun _ _ k => k)
  refine ⟨_, Cells.mk g0 (Nat.le_of_ble_eq_true rfl) rfl, ?_⟩
  conv => whnf
  refine (refEdge49 ok0 a).mono ?_
  rintro _ h1 ⟨rfl, m1⟩
  rw [edIn_ok (g := g) (i := (a : Int)) (by omega) (by omega)]
  have ok1 := ok0.old m1 (fun _ _ k => k)
  have g1 := m1.get g0 (.inl fun k => k)
  conv => whnf
  refine ⟨_, Cells.mk g1 (Nat.le_of_ble_eq_true rfl) rfl, ?_⟩
  conv => whnf
  refine (refNode50 ok1 k).mono ?_
  rintro _ h2 ⟨rfl, m2⟩
  rw [ndIn_ok (g := g) (i := (k : Int)) (by omega) (by omega)]
  have ok2 := ok1.old m2 (fun _ _ k => k)
  have g2 := m2.get g1 (.inl fun k => k)
  conv => whnf
  refine ⟨_, Cells.mk g2 (Nat.le_of_ble_eq_true rfl) rfl, ?_⟩
  conv => whnf
  have m3 := mod_none m0 (mod_none m1 m2)
  refine (refTo51 ok2 hm hk (SlIs.old sc m3 (fun _ _ k => k))).mono ?_
  rintro _ h4 ⟨q, d, rfl, w, fo, m4⟩
  conv => whnf
  obtain ⟨i1, c1, e1, k1⟩ := slo_get w.1.weak ha
  refine ⟨i1, c1, a, e1, rfl, ha, ?_⟩
  conv => whnf
  refine ⟨_, k1, ?_⟩
  conv => whnf
  exact ⟨_, rfl, fo.rch a ha, (fo.zero a ha).trans beq_iff_eq, mod_none m3 m4⟩
theorem refFar11 {h : H} {g : Gra} (ok : g.ok h) (hm : mayG g = true) {a k : Nat} (ha : a < g.es.length) (hk : k < g.ns.length) {qc : Option (Nat × Nat)} {c : List Bool} (sc : SlIs h qc c.length false 1 (bools c)) :
    ACalls Tryz.prog 11 [.agg g.cells, i64 a, i64 k, .sl qc c.length] h (FarR g a k c h) := by
  refine call_ Tryz.func11 rfl rfl (by kernel_rfl) ?_
  conv => whnf
  obtain ⟨m0, g0⟩ := pre_row (Mod.refl none_ h) (.row true 3 g.cells)
  refine ⟨_, Cells.mk g0 (Nat.le_of_ble_eq_true rfl) rfl, ?_⟩
  conv => whnf
  refine (refBetween25 (ok.old m0 (fun _ _ k => k)) hm ha hk (SlIs.old sc m0 (fun _ _ k => k))).mono ?_
  rintro _ h1 ⟨z, rfl, a1, a2, m1⟩
  conv => whnf
  exact ⟨z, rfl, a1, a2, mod_none m0 m1⟩
end Go.Proofs.YteapijoibimfnaaGreat
