/- Files: Encode of the program. -/
import Derived.Test.YtjjcalkeodfokaaR7
set_option linter.unusedVariables false
namespace Go.Proofs.Ytjjcalkeodfokaa
open Go Go.Ab
set_option maxHeartbeats 4000000 in
theorem encode9 {h : H} (g : Gra) (ok : g.ok h) : ACalls Try.prog 9 [.agg g.cells] h (EncFQ g h) := by
  refine call_ Try.func9 rfl rfl (by kernel_rfl) ?_
  conv => whnf
  have mm := Mod.push none_ h (.row true 3 g.cells)
  have gb : (h.push (.row true 3 g.cells)).obj h.next = some (.row true 3 g.cells) := H.obj_push_new _ _
  refine ⟨_, Cells.mk gb (Nat.le_of_ble_eq_true rfl) rfl, ?_⟩
  conv => whnf
  refine (new16 g (ok.old mm (fun _ _ k => k))).mono ?_
  rintro _ h0 ⟨⟨q, rfl⟩, m1⟩
  have gb := m1.get gb (.inl (fun k => k))
  have mm := mod_none mm m1
  clear m1
  have ok := ok.old mm (fun _ _ k => k)
  conv => whnf
  refine ⟨_, rfl, ?_⟩
  conv => whnf
  refine ⟨_, rfl, ?_⟩
  conv => whnf
  refine br_mk (fun hb => ?_) (fun hb => ?_)
  · conv => whnf
    have hb : mayG g = false := by
      cases e : mayG g with
      | false => rfl
      | true => simp [e] at hb
    rw [encF, hb, if_neg (by decide), if_neg (by decide)]
    exact ⟨none, rfl, Oct.nil _ _, mm⟩
  conv => whnf
  have hb : mayG g = true := by
    cases e : mayG g with
    | true => rfl
    | false => simp [e] at hb
  have w := NewW.new h0
  have kb : Kp _ h0.next none h.next (.row true 3 g.cells) := ⟨(Mod.push none_ h0 (.row true 2 [.sl none 0, .bool false])).get gb (.inl (fun k => k)), fun k => by
    rcases k with k | ⟨o, k⟩
    · have := h0.lt _ _ gb
      omega
    · cases k⟩
  have hn0 := h0.lt _ _ gb
  generalize hgw : h0.next = gw at *
  generalize hbx : h.next = bx at *
  refine ⟨[], [2, 13], rfl, ?_, ?_⟩
  conv => whnf
  refine ⟨[], [3, 13], rfl, ?_, ?_⟩
  conv => whnf
  refine ⟨[0, 4, 5, 6, 7, 8, 9, 10, 11, 12, 1, 2, 3, 13, 14], [0, 0, 2, 7, 0, 16, 48, 0, 128, 384, 0, 1024, 3072, 8191, 16383], by kernel_rfl, ?_⟩
  conv => whnf
  refine ⟨_, Cell.mk kb.1 rfl, ?_⟩
  conv => whnf
  refine ⟨_, Cell.mk kb.1 rfl, ?_⟩
  conv => whnf
  refine ⟨_, Cell.mk kb.1 rfl, ?_⟩
  conv => whnf
  have s1 := Kp.push w.1 (.row true 1 (ints .u8 [77, 73, 76, 69]))
  have kb := kb.keep (Mod.push none_ _ (.row true 1 (ints .u8 [77, 73, 76, 69])))
  have w := w.keep (Mod.push none_ _ (.row true 1 (ints .u8 [77, 73, 76, 69])))
  conv => whnf
  refine ⟨_, _, s1.1, ?_⟩
  refine ⟨?_, ?_⟩
  · conv => whnf
    exact ⟨_, Cell.mk kb.1 rfl, rfl⟩
  refine ⟨?_, ?_⟩
  · conv => whnf
    exact ⟨_, Cell.mk kb.1 rfl, rfl⟩
  refine ⟨?_, ?_⟩
  · conv => whnf
    exact ⟨_, Cell.mk kb.1 rfl, rfl⟩
  conv => whnf
  refine (raw22 (ys := [77, 73, 76, 69]) w.1 (SlIs.row (n := 4) s1.1 rfl).weak (by decide) (by decide)).mono ?_
  rintro _ _ ⟨rfl, q, wq, fq, mq⟩
  have kb := kb.step fq mq
  have w := w.step' wq fq mq
  refine ⟨?_, ?_⟩
  · conv => whnf
    exact ⟨_, Cell.mk kb.1 rfl, rfl⟩
  refine ⟨?_, ?_⟩
  · conv => whnf
    exact ⟨_, Cell.mk kb.1 rfl, rfl⟩
  refine ⟨?_, ?_⟩
  · conv => whnf
    exact ⟨_, Cell.mk kb.1 rfl, rfl⟩
  conv => whnf
  have s13 := Kp.push w.1 (.row true 1 (ints .i64 (headN g)))
  have kb := kb.keep (Mod.push none_ _ (.row true 1 (ints .i64 (headN g))))
  have w := w.keep (Mod.push none_ _ (.row true 1 (ints .i64 (headN g))))
  conv => whnf
  refine (nums19 w.1 (s13.nums rfl) (by decide) (Nat.le_of_ble_eq_true rfl) (2 : Nat)).mono ?_
  rw [numsV_all (k := 2) (by decide) (by decide) (headN g) _ (fit_head hb)]
  rintro _ _ ⟨rfl, q, wq, fq, mq⟩
  have kb := kb.step fq mq
  have w := w.step' wq fq mq
  conv => whnf
  rotate_left
  conv => whnf
  refine ⟨[0, 4, 5, 6, 7, 8, 9, 10, 11, 12, 1, 2, 13, 3, 14], [0, 0, 2, 16375, 0, 16, 48, 0, 128, 384, 0, 1024, 3072, 8182, 16383], by kernel_rfl, ?_⟩
  conv => whnf
  refine ⟨_, Cell.mk kb.1 rfl, ?_⟩
  conv => whnf
  refine ⟨_, Cell.mk kb.1 rfl, ?_⟩
  conv => whnf
  refine ⟨_, Cell.mk kb.1 rfl, ?_⟩
  conv => whnf
  have s1 := Kp.push w.1 (.row true 1 (ints .u8 [77, 73, 76, 69]))
  have kb := kb.keep (Mod.push none_ _ (.row true 1 (ints .u8 [77, 73, 76, 69])))
  have w := w.keep (Mod.push none_ _ (.row true 1 (ints .u8 [77, 73, 76, 69])))
  conv => whnf
  refine ⟨_, _, s1.1, ?_⟩
  refine ⟨?_, ?_⟩
  · conv => whnf
    exact ⟨_, Cell.mk kb.1 rfl, rfl⟩
  refine ⟨?_, ?_⟩
  · conv => whnf
    exact ⟨_, Cell.mk kb.1 rfl, rfl⟩
  refine ⟨?_, ?_⟩
  · conv => whnf
    exact ⟨_, Cell.mk kb.1 rfl, rfl⟩
  conv => whnf
  have s13 := Kp.push w.1 (.row true 1 (ints .i64 (headN g)))
  have s1 := s1.keep (Mod.push none_ _ (.row true 1 (ints .i64 (headN g))))
  have kb := kb.keep (Mod.push none_ _ (.row true 1 (ints .i64 (headN g))))
  have w := w.keep (Mod.push none_ _ (.row true 1 (ints .i64 (headN g))))
  conv => whnf
  refine (raw22 (ys := [77, 73, 76, 69]) w.1 (SlIs.row (n := 4) s1.1 rfl).weak (by decide) (by decide)).mono ?_
  rintro _ _ ⟨rfl, q, wq, fq, mq⟩
  have s13 := s13.step fq mq
  have kb := kb.step fq mq
  have w := w.step' wq fq mq
  conv => whnf
  refine (nums19 w.1 (s13.nums rfl) (by decide) (Nat.le_of_ble_eq_true rfl) (2 : Nat)).mono ?_
  rw [numsV_all (k := 2) (by decide) (by decide) (headN g) _ (fit_head hb)]
  rintro _ _ ⟨rfl, q, wq, fq, mq⟩
  have kb := kb.step fq mq
  have w := w.step' wq fq mq
  conv => whnf
  rotate_left
  conv => whnf
  refine ⟨[], [1, 13], rfl, ?_, ?_⟩
  conv => whnf
  refine ⟨[0, 4, 5, 6, 7, 8, 9, 10, 11, 12, 1, 13, 2, 3, 14], [0, 0, 16370, 16375, 0, 16, 48, 0, 128, 384, 0, 1024, 3072, 8178, 16383], by kernel_rfl, ?_⟩
  conv => whnf
  refine ⟨_, Cell.mk kb.1 rfl, ?_⟩
  conv => whnf
  refine ⟨_, Cell.mk kb.1 rfl, ?_⟩
  conv => whnf
  refine ⟨_, Cell.mk kb.1 rfl, ?_⟩
  conv => whnf
  have s1 := Kp.push w.1 (.row true 1 (ints .u8 [77, 73, 76, 69]))
  have kb := kb.keep (Mod.push none_ _ (.row true 1 (ints .u8 [77, 73, 76, 69])))
  have w := w.keep (Mod.push none_ _ (.row true 1 (ints .u8 [77, 73, 76, 69])))
  conv => whnf
  have s13 := Kp.push w.1 (.row true 1 (ints .i64 (headN g)))
  have s1 := s1.keep (Mod.push none_ _ (.row true 1 (ints .i64 (headN g))))
  have kb := kb.keep (Mod.push none_ _ (.row true 1 (ints .i64 (headN g))))
  have w := w.keep (Mod.push none_ _ (.row true 1 (ints .i64 (headN g))))
  conv => whnf
  refine ⟨_, _, s1.1, ?_⟩
  conv => whnf
  refine (raw22 (ys := [77, 73, 76, 69]) w.1 (SlIs.row (n := 4) s1.1 rfl).weak (by decide) (by decide)).mono ?_
  rintro _ _ ⟨rfl, q, wq, fq, mq⟩
  have s13 := s13.step fq mq
  have kb := kb.step fq mq
  have w := w.step' wq fq mq
  conv => whnf
  refine (nums19 w.1 (s13.nums rfl) (by decide) (Nat.le_of_ble_eq_true rfl) (2 : Nat)).mono ?_
  rw [numsV_all (k := 2) (by decide) (by decide) (headN g) _ (fit_head hb)]
  rintro _ _ ⟨rfl, q, wq, fq, mq⟩
  have kb := kb.step fq mq
  have w := w.step' wq fq mq
  conv => whnf
  rotate_left
  conv => whnf
  refine ⟨[0, 4, 5, 6, 7, 8, 9, 10, 11, 12, 13, 1, 2, 3, 14], [0, 16368, 16370, 16375, 0, 16, 48, 0, 128, 384, 0, 1024, 3072, 8176, 16383], by kernel_rfl, ?_⟩
  conv => whnf
  refine ⟨_, Cell.mk kb.1 rfl, ?_⟩
  conv => whnf
  refine ⟨_, Cell.mk kb.1 rfl, ?_⟩
  conv => whnf
  refine ⟨_, Cell.mk kb.1 rfl, ?_⟩
  conv => whnf
  have s13 := Kp.push w.1 (.row true 1 (ints .i64 (headN g)))
  have kb := kb.keep (Mod.push none_ _ (.row true 1 (ints .i64 (headN g))))
  have w := w.keep (Mod.push none_ _ (.row true 1 (ints .i64 (headN g))))
  conv => whnf
  have s1 := Kp.push w.1 (.row true 1 (ints .u8 [77, 73, 76, 69]))
  have s13 := s13.keep (Mod.push none_ _ (.row true 1 (ints .u8 [77, 73, 76, 69])))
  have kb := kb.keep (Mod.push none_ _ (.row true 1 (ints .u8 [77, 73, 76, 69])))
  have w := w.keep (Mod.push none_ _ (.row true 1 (ints .u8 [77, 73, 76, 69])))
  conv => whnf
  refine ⟨_, _, s1.1, ?_⟩
  conv => whnf
  refine (raw22 (ys := [77, 73, 76, 69]) w.1 (SlIs.row (n := 4) s1.1 rfl).weak (by decide) (by decide)).mono ?_
  rintro _ _ ⟨rfl, q, wq, fq, mq⟩
  have s13 := s13.step fq mq
  have kb := kb.step fq mq
  have w := w.step' wq fq mq
  conv => whnf
  refine (nums19 w.1 (s13.nums rfl) (by decide) (Nat.le_of_ble_eq_true rfl) (2 : Nat)).mono ?_
  rw [numsV_all (k := 2) (by decide) (by decide) (headN g) _ (fit_head hb)]
  rintro _ _ ⟨rfl, q, wq, fq, mq⟩
  have kb := kb.step fq mq
  have w := w.step' wq fq mq
  conv => whnf
  rotate_left
  all_goals
    refine ⟨_, Cell.mk kb.1 rfl, ?_⟩
    conv => whnf
    refine ⟨fun env hh => ∃ (j : Nat) (z : Int) (p : Option (Nat × Nat)), j ≤ g.ns.length ∧ z = j ∧ NewW h0 hh gw p (mile ++ flatB 2 (headN g ++ (g.ns.take j).flatMap pN)) false ∧ Kp hh gw p bx (.row true 3 g.cells) ∧ env = [(43, i64 z), (42, i64 g.ns.length), (41, .sl g.np g.ns.length), (6, .ptr (some (gw, 0))), (1, .ptr (some (bx, 0)))],
      fun env _ => match get env 43 with
        | .int _ z => (g.ns.length - z).toNat
        | _ => 0, ⟨_, Forget.cons rfl (Forget.cons rfl (Forget.cons rfl (Forget.cons rfl (Forget.cons rfl (Forget.nil _))))), 0, _, _, Nat.zero_le _, rfl, (by
          rw [List.take_zero, List.flatMap_nil, List.append_nil]
          exact w), kb, rfl⟩, ?_⟩
    clear w kb
    rintro _ hx1 ⟨j, z, p, hj, rfl, w, kb, rfl⟩
    conv => whnf
    refine br_mk (fun hd => ?_) (fun hd => ?_)
    · conv => whnf
      simp at hd
      obtain ⟨i, c, e1, k1, k2⟩ := sls_get pC_len (SlIs.old ok.n w.2.2 (fun _ _ k => k)) rfl hd
      refine ⟨i, c, j, e1, rfl, hd, ?_⟩
      conv => whnf
      refine ⟨_, k1, ?_⟩
      conv => whnf
      obtain ⟨g0, gx, mx⟩ := lay_row (h := hx1) (sz := 2) [i64 0, i64 0] (pC g.ns[j])
      refine ⟨_, _, g0, Nat.le_of_ble_eq_true rfl, ?_⟩
      have sx : Kp _ gw p hx1.next _ := ⟨gx, fun k => absurd (w.1.foot_lt k) (Nat.lt_irrefl _)⟩
      have kb := kb.keep mx
      have w := w.keep mx
      clear k1 k2 g0 gx mx
      conv => whnf
      refine ⟨_, Cell.mk sx.1 rfl, ?_⟩
      conv => whnf
      refine ⟨_, Cell.mk sx.1 rfl, ?_⟩
      conv => whnf
      rw [twoP]
      have s1 := Kp.push w.1 (.row true 1 (ints .i64 (pN g.ns[j])))
      have kb := kb.keep (Mod.push none_ _ (.row true 1 (ints .i64 (pN g.ns[j]))))
      have w := w.keep (Mod.push none_ _ (.row true 1 (ints .i64 (pN g.ns[j]))))
      refine (nums19 w.1 (s1.nums rfl) (by
        rw [List.length_append, flatB_length]
        have := lenn hb j
        have : mile.length = 4 := rfl
        omega) (Nat.le_of_ble_eq_true rfl) (2 : Nat)).mono ?_
      rw [numsV_all (k := 2) (by decide) (by decide) (pN g.ns[j]) _ (fit_node hb hd)]
      rintro _ _ ⟨rfl, q, wq, fq, mq⟩
      have kb := kb.step fq mq
      have w := w.step' wq fq mq
      conv => whnf
      have hs2 := succ_i64 (j := j) (n := g.ns.length) hd (by have := ok.ln; omega)
      refine ⟨_, Forget.cons rfl (Forget.cons rfl (Forget.cons rfl (Forget.cons rfl (Forget.cons rfl (Forget.nil _))))), ⟨j + 1, _, _, by omega, hs2, ?_, kb, rfl⟩, ?_⟩
      · rw [List.append_assoc, ← flatB_append, List.append_assoc, ← flatMap_take hd] at w
        exact w
      show (g.ns.length - IntKind.i64.wrap ((j : Int) + 1)).toNat < (g.ns.length - (j : Int)).toNat
      rw [hs2]
      omega
    conv => whnf
    simp at hd
    rw [List.take_of_length_le hd] at w
    clear hd hj
    refine ⟨_, Cell.mk kb.1 rfl, ?_⟩
    conv => whnf
    refine ⟨fun env hh => ∃ (j : Nat) (z : Int) (p : Option (Nat × Nat)), j ≤ g.es.length ∧ z = j ∧ NewW h0 hh gw p (mile ++ flatB 2 ((headN g ++ g.ns.flatMap pN) ++ (g.es.take j).flatMap eN)) false ∧ Kp hh gw p bx (.row true 3 g.cells) ∧ env = [(58, i64 z), (57, i64 g.es.length), (56, .sl g.ep g.es.length), (6, .ptr (some (gw, 0))), (1, .ptr (some (bx, 0)))],
      fun env _ => match get env 58 with
        | .int _ z => (g.es.length - z).toNat
        | _ => 0, ⟨_, Forget.cons rfl (Forget.cons rfl (Forget.cons rfl (Forget.cons rfl (Forget.cons rfl (Forget.nil _))))), 0, _, _, Nat.zero_le _, rfl, (by
          rw [List.take_zero, List.flatMap_nil, List.append_nil]
          exact w), kb, rfl⟩, ?_⟩
    clear w kb
    rintro _ hx2 ⟨j, z, p, hj, rfl, w, kb, rfl⟩
    conv => whnf
    refine br_mk (fun hd => ?_) (fun hd => ?_)
    · conv => whnf
      simp at hd
      obtain ⟨i, c, e1, k1, k2⟩ := sls_get eC_len (SlIs.old ok.e w.2.2 (fun _ _ k => k)) rfl hd
      refine ⟨i, c, j, e1, rfl, hd, ?_⟩
      conv => whnf
      refine ⟨_, k1, ?_⟩
      conv => whnf
      obtain ⟨g0, gx, mx⟩ := lay_row (h := hx2) (sz := 3) [i64 0, i64 0, i64 0] (eC g.es[j])
      refine ⟨_, _, g0, Nat.le_of_ble_eq_true rfl, ?_⟩
      have sx : Kp _ gw p hx2.next _ := ⟨gx, fun k => absurd (w.1.foot_lt k) (Nat.lt_irrefl _)⟩
      have kb := kb.keep mx
      have w := w.keep mx
      clear k1 k2 g0 gx mx
      conv => whnf
      refine ⟨_, Cell.mk sx.1 rfl, ?_⟩
      conv => whnf
      refine ⟨_, Cell.mk sx.1 rfl, ?_⟩
      conv => whnf
      refine ⟨_, Cell.mk sx.1 rfl, ?_⟩
      conv => whnf
      rw [threeE]
      have s1 := Kp.push w.1 (.row true 1 (ints .i64 (eN g.es[j])))
      have kb := kb.keep (Mod.push none_ _ (.row true 1 (ints .i64 (eN g.es[j]))))
      have w := w.keep (Mod.push none_ _ (.row true 1 (ints .i64 (eN g.es[j]))))
      refine (nums19 w.1 (s1.nums rfl) (by
        rw [List.length_append, flatB_length]
        have := lene hb j
        have : mile.length = 4 := rfl
        omega) (Nat.le_of_ble_eq_true rfl) (2 : Nat)).mono ?_
      rw [numsV_all (k := 2) (by decide) (by decide) (eN g.es[j]) _ (fit_edge hb hd)]
      rintro _ _ ⟨rfl, q, wq, fq, mq⟩
      have kb := kb.step fq mq
      have w := w.step' wq fq mq
      conv => whnf
      have hs2 := succ_i64 (j := j) (n := g.es.length) hd (by have := ok.le; omega)
      refine ⟨_, Forget.cons rfl (Forget.cons rfl (Forget.cons rfl (Forget.cons rfl (Forget.cons rfl (Forget.nil _))))), ⟨j + 1, _, _, by omega, hs2, ?_, kb, rfl⟩, ?_⟩
      · rw [List.append_assoc, ← flatB_append, List.append_assoc, ← flatMap_take hd] at w
        exact w
      show (g.es.length - IntKind.i64.wrap ((j : Int) + 1)).toNat < (g.es.length - (j : Int)).toNat
      rw [hs2]
      omega
    conv => whnf
    simp at hd
    rw [List.take_of_length_le hd] at w
    clear hd hj
    refine ⟨_, Cell.mk kb.1 rfl, ?_⟩
    conv => whnf
    refine ⟨fun env hh => ∃ (j : Nat) (z : Int) (p : Option (Nat × Nat)), j ≤ g.bs.length ∧ z = j ∧ NewW h0 hh gw p (mile ++ flatB 2 (((headN g ++ g.ns.flatMap pN) ++ g.es.flatMap eN) ++ (g.bs.take j).flatMap pN)) false ∧ Kp hh gw p bx (.row true 3 g.cells) ∧ env = [(75, i64 z), (74, i64 g.bs.length), (73, .sl g.bp g.bs.length), (6, .ptr (some (gw, 0))), (1, .ptr (some (bx, 0)))],
      fun env _ => match get env 75 with
        | .int _ z => (g.bs.length - z).toNat
        | _ => 0, ⟨_, Forget.cons rfl (Forget.cons rfl (Forget.cons rfl (Forget.cons rfl (Forget.cons rfl (Forget.nil _))))), 0, _, _, Nat.zero_le _, rfl, (by
          rw [List.take_zero, List.flatMap_nil, List.append_nil]
          exact w), kb, rfl⟩, ?_⟩
    clear w kb
    rintro _ hx3 ⟨j, z, p, hj, rfl, w, kb, rfl⟩
    conv => whnf
    refine br_mk (fun hd => ?_) (fun hd => ?_)
    · conv => whnf
      simp at hd
      obtain ⟨i, c, e1, k1, k2⟩ := sls_get pC_len (SlIs.old ok.b w.2.2 (fun _ _ k => k)) rfl hd
      refine ⟨i, c, j, e1, rfl, hd, ?_⟩
      conv => whnf
      refine ⟨_, k1, ?_⟩
      conv => whnf
      obtain ⟨g0, gx, mx⟩ := lay_row (h := hx3) (sz := 2) [i64 0, i64 0] (pC g.bs[j])
      refine ⟨_, _, g0, Nat.le_of_ble_eq_true rfl, ?_⟩
      have sx : Kp _ gw p hx3.next _ := ⟨gx, fun k => absurd (w.1.foot_lt k) (Nat.lt_irrefl _)⟩
      have kb := kb.keep mx
      have w := w.keep mx
      clear k1 k2 g0 gx mx
      conv => whnf
      refine ⟨_, Cell.mk sx.1 rfl, ?_⟩
      conv => whnf
      refine ⟨_, Cell.mk sx.1 rfl, ?_⟩
      conv => whnf
      rw [twoP]
      have s1 := Kp.push w.1 (.row true 1 (ints .i64 (pN g.bs[j])))
      have kb := kb.keep (Mod.push none_ _ (.row true 1 (ints .i64 (pN g.bs[j]))))
      have w := w.keep (Mod.push none_ _ (.row true 1 (ints .i64 (pN g.bs[j]))))
      refine (nums19 w.1 (s1.nums rfl) (by
        rw [List.length_append, flatB_length]
        have := lenb hb j
        have : mile.length = 4 := rfl
        omega) (Nat.le_of_ble_eq_true rfl) (2 : Nat)).mono ?_
      rw [numsV_all (k := 2) (by decide) (by decide) (pN g.bs[j]) _ (fit_ban hb hd)]
      rintro _ _ ⟨rfl, q, wq, fq, mq⟩
      have kb := kb.step fq mq
      have w := w.step' wq fq mq
      conv => whnf
      have hs2 := succ_i64 (j := j) (n := g.bs.length) hd (by have := ok.lb; omega)
      refine ⟨_, Forget.cons rfl (Forget.cons rfl (Forget.cons rfl (Forget.cons rfl (Forget.cons rfl (Forget.nil _))))), ⟨j + 1, _, _, by omega, hs2, ?_, kb, rfl⟩, ?_⟩
      · rw [List.append_assoc, ← flatB_append, List.append_assoc, ← flatMap_take hd] at w
        exact w
      show (g.bs.length - IntKind.i64.wrap ((j : Int) + 1)).toNat < (g.bs.length - (j : Int)).toNat
      rw [hs2]
      omega
    conv => whnf
    simp at hd
    rw [List.take_of_length_le hd] at w
    clear hd hj
    have hbo : mile ++ flatB 2 (((headN g ++ g.ns.flatMap pN) ++ g.es.flatMap eN) ++ g.bs.flatMap pN) = bodyF g := rfl
    rw [hbo] at w
    have hlb := bodyF_len hb
    refine (bytes23_ok w.1 (by omega)).mono ?_
    rintro _ hc' ⟨q6, rfl, o6, m6⟩
    have w := w.keep m6
    conv => whnf
    refine ⟨_, rfl, ?_⟩
    conv => whnf
    refine ⟨_, rfl, ?_⟩
    conv => whnf
    rw [rowSl]
    have m7 := Mod.push none_ hc' (.row true 1 [.sl q6 (bodyF g).length])
    have w := w.keep m7
    refine (sum55 (SlIs.row (n := 1) (H.obj_push_new _ _) rfl).weak (o6.get m7).is (by omega)).mono ?_
    rintro _ _ ⟨rfl, rfl⟩
    conv => whnf
    obtain ⟨s0, s1⟩ := sumV_range (bodyF g)
    rw [wrap_i64 (x := sumV (bodyF g)) (by omega) (by omega), oneNum]
    obtain ⟨w8, nu8⟩ := w.1.row (sumV (bodyF g))
    have w := w.keep (Mod.push none_ _ (.row true 1 (ints .i64 [sumV (bodyF g)])))
    refine (nums19 w8 nu8 (by omega) (by simp) (4 : Nat)).mono ?_
    rw [numsV_all (k := 4) (by decide) (by decide) [sumV (bodyF g)] _ (fit_one (by omega) (by
      have e : (2 : Int) ^ (8 * 4) = 4294967296 := rfl
      rw [e]
      omega))]
    rintro _ h9 ⟨rfl, q, wq, fq, mq⟩
    have w : NewW h0 h9 gw q (bodyF g ++ flatB 4 [sumV (bodyF g)]) false := w.step' wq fq mq
    rw [show bodyF g ++ flatB 4 [sumV (bodyF g)] = encF g by rw [encF, hb, if_pos rfl, ← be_sum]; simp [flatB]] at w
    have hle := encF_len g
    conv => whnf
    refine (bytes23_ok w.1 (by omega)).mono ?_
    rintro _ h10 ⟨q10, rfl, o10, m10⟩
    conv => whnf
    refine ⟨_, rfl, ?_⟩
    conv => whnf
    refine ⟨_, rfl, ?_⟩
    conv => whnf
    exact ⟨q10, by rw [hb]; rfl, o10, mod_none mm (mod_none w.2.2 m10)⟩
end Go.Proofs.Ytjjcalkeodfokaa
