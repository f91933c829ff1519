/- ChannelActs: its walk. -/
import Derived.Test.YtoljllfbabahpaaV2
set_option linter.unusedVariables false
namespace Go.Proofs.Ytoljllfbabahpaa
open Go Go.Ab
theorem kinds (x : Int) : x = 1 ∨ x = 2 ∨ x = 3 ∨ x = 4 ∨ x = 5 ∨ x = 6 ∨ (x ≠ 1 ∧ x ≠ 2 ∧ x ≠ 3 ∧ x ≠ 4 ∧ x ≠ 5 ∧ x ≠ 6) := by omega
set_option maxHeartbeats 16000000 in
theorem acts12 {h : H} {po : Option (Nat × Nat)} {m : Nat} {es : List ActC} (ro : ActsC h po m es) (c : Cfg) (conn : Int) : ACalls Try.prog 12 [.agg c.cells, i64 conn, .sl po m] h (fun r _ => r = .bool true) := by
  refine call_ Try.func12 rfl rfl (by kernel_rfl) ?_
  conv => whnf
  have mP := Mod.push none_ h (.row true 6 c.cells)
  have gm : (h.push (.row true 6 c.cells)).obj h.next = some (.row true 6 c.cells) := H.obj_push_new _ _
  refine br_mk (fun ha => ?_) (fun ha => ?_)
  · conv => whnf
    refine (awake15 _).mono ?_
    rintro _ h1 rfl
    conv => whnf
  have hm : m ≤ 60 := by
    have : ¬ (m : Int) > 60 := by simpa using ha
    omega
  conv => whnf
  refine ⟨[0, 2, 1, 3, 4], [0, 1, 0, 7, 15], by kernel_rfl, ?_⟩
  conv => whnf
  refine ⟨c.cells, Cells.mk gm (Nat.le_of_ble_eq_true rfl) rfl, ?_⟩
  conv => whnf
  refine ⟨c.cells, Cells.mk gm (Nat.le_of_ble_eq_true rfl) rfl, ?_⟩
  conv => whnf
  refine (cCheck _ c).mono ?_
  rintro _ h1 ⟨rfl, m1⟩
  have g1 := m1.get gm (.inl (fun k => k))
  conv => whnf
  refine ⟨⟨c.cells, Cells.mk g1 (Nat.le_of_ble_eq_true rfl) rfl, rfl⟩, ?_⟩
  conv => whnf
  refine (rCheck _ c).mono ?_
  rintro _ h2 ⟨rfl, m2⟩
  have g2 := m2.get g1 (.inl (fun k => k))
  conv => whnf
  refine br_mk (fun hI => ?_) (fun hI => ?_)
  · exact absurd hI (by simp)
  conv => whnf
  have ro := ((ro.get mP).get m1).get m2
  clear m1 m2 g1 gm ha mP
  have mA := Mod.push none_ h2 (prow fun _ => .ptr none)
  have mB := Mod.push none_ (h2.push (prow fun _ => .ptr none)) (prow fun _ => .ptr none)
  have ro := (ro.get mA).get mB
  have g2 := mB.get (mA.get g2 (.inl (fun k => k))) (.inl (fun k => k))
  have hn2 : h.next < h2.next := by
    have := h2.lt _ _ (show h2.obj h.next = some _ from by assumption)
    exact this
  cases hok : okCh c conn with
  | false =>
    have a7 : ((h2.push (prow fun _ => .ptr none)).push (prow fun _ => .ptr none)).obj h2.next = some (.row true 2 (pair fun _ => .ptr none)) := H.obj_push _ (H.obj_push_new h2 _)
    have a8 : ((h2.push (prow fun _ => .ptr none)).push (prow fun _ => .ptr none)).obj (h2.next + 1) = some (.row true 2 (pair fun _ => .ptr none)) := H.obj_push_new (h2.push _) _
    refine ⟨fun env hk => ∃ (i : Nat) (zi : Int), i ≤ 2 ∧ zi = i ∧ hk.obj h2.next = some (.row true 2 (pair fun _ => .ptr none)) ∧ hk.obj (h2.next + 1) = some (.row true 2 (pair fun _ => .ptr none)) ∧ hk.obj h.next = some (.row true 6 c.cells) ∧ env = [(9, i64 zi), (3, .ptr (some (h.next, 0))), (1, i64 conn), (7, .ptr (some (h2.next, 0))), (8, .ptr (some (h2.next + 1, 0)))],
      fun env _ => match get env 9 with
        | .int _ z => (2 - z).toNat
        | _ => 0, ⟨_, Forget.cons rfl (Forget.cons rfl (Forget.cons rfl (Forget.cons rfl (Forget.cons rfl (Forget.nil _))))), 0, _, by decide, rfl, a7, a8, g2, rfl⟩, ?_⟩
    clear a7 a8 g2 ro
    rintro _ hh ⟨i, zi, hi, rfl, a7, a8, g3, rfl⟩
    conv => whnf
    refine br_mk (fun hx => ?_) (fun hx => ?_)
    · have hx : i < 2 := by
        have : (i : Int) < 2 := by simpa using hx
        omega
      obtain ⟨k, hk⟩ := kn_of (z := (i : Int)) (by omega) (by omega)
      have hk : i = kn k := by omega
      subst hk
      conv => whnf
      refine ⟨c.cells, Cells.mk g3 (Nat.le_of_ble_eq_true rfl) rfl, ?_⟩
      conv => whnf
      refine (cNew _ c conn).mono ?_
      rintro _ h3 q
      obtain ⟨rfl, m3⟩ := newC_no q hok
      clear q
      have g4 := m3.get g3 (.inl (fun k => k))
      conv => whnf
      refine ⟨_, rfl, ?_⟩
      conv => whnf
      refine ⟨_, rfl, ?_⟩
      conv => whnf
      refine ⟨[0, 1, 2, 3, 4, 6, 5, 7, 8, 9], [0, 0, 0, 0, 0, 24, 5, 125, 255, 511], by kernel_rfl, ?_⟩
      conv => whnf
      refine ⟨c.cells, Cells.mk g4 (Nat.le_of_ble_eq_true rfl) rfl, ?_⟩
      conv => whnf
      refine ⟨kn k, rfl, kn_lt k, ?_⟩
      conv => whnf
      refine (rcNew _ c conn).mono ?_
      rintro _ h4 q
      rcases q with ⟨_, rfl, m4⟩ | ⟨q, _⟩
      rotate_left
      · rw [hok] at q
        cases q
      have b7 := m4.get (m3.get a7 (.inl (fun k => k))) (.inl (fun k => k))
      have b8 := m4.get (m3.get a8 (.inl (fun k => k))) (.inl (fun k => k))
      have g5 := m4.get g4 (.inl (fun k => k))
      conv => whnf
      refine ⟨_, _, b7, pair_fit k, ?_⟩
      conv => whnf
      refine ⟨kn k, rfl, kn_lt k, ?_⟩
      conv => whnf
      have e7 : (h4.set h2.next (.row true 2 (splice (pair fun _ => V.ptr none) (0 + kn k * 1) [.ptr none]))).obj h2.next = some (.row true 2 (pair fun _ => .ptr none)) := by
        rw [pair_set, updB_idem]
        exact H.obj_set_same b7
      have e8 : (h4.set h2.next (.row true 2 (splice (pair fun _ => V.ptr none) (0 + kn k * 1) [.ptr none]))).obj (h2.next + 1) = some (.row true 2 (pair fun _ => .ptr none)) := by
        rw [H.obj_set_ne _ _ (by omega)]
        exact b8
      have eg : (h4.set h2.next (.row true 2 (splice (pair fun _ => V.ptr none) (0 + kn k * 1) [.ptr none]))).obj h.next = some (.row true 6 c.cells) := by
        rw [H.obj_set_ne _ _ (by omega)]
        exact g5
      refine ⟨_, _, e8, pair_fit k, ?_⟩
      conv => whnf
      have f7 : ((h4.set h2.next (.row true 2 (splice (pair fun _ => V.ptr none) (0 + kn k * 1) [.ptr none]))).set (h2.next + 1) (.row true 2 (splice (pair fun _ => V.ptr none) (0 + kn k * 1) [.ptr none]))).obj h2.next = some (.row true 2 (pair fun _ => .ptr none)) := by
        rw [H.obj_set_ne _ _ (by omega)]
        exact e7
      have f8 : ((h4.set h2.next (.row true 2 (splice (pair fun _ => V.ptr none) (0 + kn k * 1) [.ptr none]))).set (h2.next + 1) (.row true 2 (splice (pair fun _ => V.ptr none) (0 + kn k * 1) [.ptr none]))).obj (h2.next + 1) = some (.row true 2 (pair fun _ => .ptr none)) := by
        exact (H.obj_set_same e8).trans (by rw [pair_set, updB_idem])
      have fg : ((h4.set h2.next (.row true 2 (splice (pair fun _ => V.ptr none) (0 + kn k * 1) [.ptr none]))).set (h2.next + 1) (.row true 2 (splice (pair fun _ => V.ptr none) (0 + kn k * 1) [.ptr none]))).obj h.next = some (.row true 6 c.cells) := by
        rw [H.obj_set_ne _ _ (by omega)]
        exact eg
      refine ⟨kn k, rfl, kn_lt k, ?_⟩
      conv => whnf
      refine ⟨_, Cell.mk f8 (pair_at _ k), ?_⟩
      conv => whnf
      refine ⟨kn k, rfl, kn_lt k, ?_⟩
      conv => whnf
      refine ⟨_, Cell.mk f8 (pair_at _ k), ?_⟩
      conv => whnf
      rw [wrap_i64 (x := (kn k : Int) + 1) (by omega) (by omega)]
      refine ⟨_, Forget.cons rfl (Forget.cons rfl (Forget.cons rfl (Forget.cons rfl (Forget.cons rfl (Forget.nil _))))), ⟨kn k + 1, _, by omega, by omega, f7, f8, fg, rfl⟩, ?_⟩
      show (2 - ((kn k : Int) + 1)).toNat < (2 - (kn k : Int)).toNat
      omega
    · conv => whnf
      refine ⟨0, rfl, by decide, ?_⟩
      conv => whnf
      refine ⟨_, Cell.mk a8 rfl, ?_⟩
      conv => whnf
      refine (awake15 _).mono ?_
      rintro _ h1 rfl
      conv => whnf
  | true =>
  obtain ⟨ps0, w0⟩ := WN.new (h := h2) (CV.new c conn) (fun _ => ⟨⟨0, 0, 0, 0⟩, 0, 0, 0⟩) (fun _ => ⟨⟨0, 0⟩, 0, 0⟩)
  refine ⟨fun env hk => ∃ (i : Nat) (zi : Int) (ps : Nat → Part) (D : Bool → CId) (E : Bool → RCId), i ≤ 2 ∧ zi = i ∧ WN hk i (CV.new c conn) D E h2.next (h2.next + 1) ps ∧ hk.obj h.next = some (.row true 6 c.cells) ∧ ActsC hk po m es ∧ env = [(9, i64 zi), (3, .ptr (some (h.next, 0))), (1, i64 conn), (7, .ptr (some (h2.next, 0))), (8, .ptr (some (h2.next + 1, 0))), (2, .sl po m)],
    fun env _ => match get env 9 with
      | .int _ z => (2 - z).toNat
      | _ => 0, ⟨_, Forget.cons rfl (Forget.cons rfl (Forget.cons rfl (Forget.cons rfl (Forget.cons rfl (Forget.cons rfl (Forget.nil _)))))), 0, _, ps0, _, _, by decide, rfl, w0, g2, ro, rfl⟩, ?_⟩
  clear w0 g2 ro
  rintro _ hh ⟨i, zi, ps, D, E, hi, rfl, w, g3, ro, rfl⟩
  conv => whnf
  refine br_mk (fun hx => ?_) (fun hx => ?_)
  · have hx : i < 2 := by
      have : (i : Int) < 2 := by simpa using hx
      omega
    obtain ⟨k, hk⟩ := kn_of (z := (i : Int)) (by omega) (by omega)
    have hk : i = kn k := by omega
    subst hk
    conv => whnf
    refine ⟨c.cells, Cells.mk g3 (Nat.le_of_ble_eq_true rfl) rfl, ?_⟩
    conv => whnf
    refine (cNew _ c conn).mono ?_
    rintro _ h3 q
    obtain ⟨d, rfl, sd, hd, m3⟩ := newC_yes q hok
    clear q
    have g4 := m3.get g3 (.inl (fun k => k))
    conv => whnf
    refine ⟨_, rfl, ?_⟩
    conv => whnf
    refine ⟨_, rfl, ?_⟩
    conv => whnf
    refine ⟨[0, 1, 2, 3, 4, 6, 5, 7, 8, 9], [0, 0, 0, 0, 0, 24, 5, 125, 255, 511], by kernel_rfl, ?_⟩
    conv => whnf
    refine ⟨c.cells, Cells.mk g4 (Nat.le_of_ble_eq_true rfl) rfl, ?_⟩
    conv => whnf
    refine ⟨kn k, rfl, kn_lt k, ?_⟩
    conv => whnf
    refine (rcNew _ c conn).mono ?_
    rintro _ h4 q
    rcases q with ⟨q, _⟩ | ⟨_, e, rfl, se, he, m4⟩
    · rw [hok] at q
      cases q
    have g5 := m4.get g4 (.inl (fun k => k))
    have w4 := (w.old m3).old m4
    conv => whnf
    refine ⟨_, _, w4.r7, pair_fit k, ?_⟩
    conv => whnf
    refine ⟨kn k, rfl, kn_lt k, ?_⟩
    conv => whnf
    obtain ⟨ps', w5⟩ := w.step sd hd m3 se he m4
    have x8 : (h4.set h2.next (prow (updB (upto (kn k) (cPtr D)) k (.ptr (some (d.c, 0)))))).obj (h2.next + 1) = some (prow (upto (kn k) (rPtr E))) := by
      rw [H.obj_set_ne _ _ (by omega)]
      exact w4.r8
    have y7 : Ab.Obj.row true 2 (splice (pair (upto (kn k) (cPtr D))) (0 + kn k * 1) [.ptr (some (d.c, 0))]) = prow (updB (upto (kn k) (cPtr D)) k (.ptr (some (d.c, 0)))) := by rw [pair_set]; rfl
    have y8 : Ab.Obj.row true 2 (splice (pair (upto (kn k) (rPtr E))) (0 + kn k * 1) [.ptr (some (e.c, 0))]) = prow (updB (upto (kn k) (rPtr E)) k (.ptr (some (e.c, 0)))) := by rw [pair_set]; rfl
    have x8' : (h4.set h2.next (.row true 2 (splice (pair (upto (kn k) (cPtr D))) (0 + kn k * 1) [.ptr (some (d.c, 0))]))).obj (h2.next + 1) = some (.row true 2 (pair (upto (kn k) (rPtr E)))) := by
      rw [y7]
      exact x8
    refine ⟨_, _, x8', pair_fit k, ?_⟩
    conv => whnf
    have mQ : Ab.Mod (two h2.next (h2.next + 1)) h4 ((h4.set h2.next (.row true 2 (splice (pair (upto (kn k) (cPtr D))) (0 + kn k * 1) [.ptr (some (d.c, 0))]))).set (h2.next + 1) (.row true 2 (splice (pair (upto (kn k) (rPtr E))) (0 + kn k * 1) [.ptr (some (e.c, 0))]))) := (Mod.set (S := one h2.next) rfl w4.r7 rfl).trans' (Mod.set (S := one (h2.next + 1)) rfl x8' rfl) (fun _ _ k => .inl k) (fun _ _ k => .inr k)
    have w6 : WN ((h4.set h2.next (.row true 2 (splice (pair (upto (kn k) (cPtr D))) (0 + kn k * 1) [.ptr (some (d.c, 0))]))).set (h2.next + 1) (.row true 2 (splice (pair (upto (kn k) (rPtr E))) (0 + kn k * 1) [.ptr (some (e.c, 0))]))) (kn k + 1) (CV.new c conn) (updB D k d) (updB E k e) h2.next (h2.next + 1) ps' := by
      rw [y7, y8]
      exact w5
    have g6 := mQ.get g5 (.inl (fun k => k.elim (fun k => by omega) (fun k => by omega)))
    have ro6 := ((ro.get m3).get m4).get mQ
    refine ⟨kn k, rfl, kn_lt k, ?_⟩
    conv => whnf
    have v8 : Cell ((h4.set h2.next (.row true 2 (splice (pair (upto (kn k) (cPtr D))) (0 + kn k * 1) [.ptr (some (d.c, 0))]))).set (h2.next + 1) (.row true 2 (splice (pair (upto (kn k) (rPtr E))) (0 + kn k * 1) [.ptr (some (e.c, 0))]))) (h2.next + 1) (0 + kn k * 1) (.ptr (some (e.c, 0))) := by
      refine Cell.mk w6.r8 (Eq.trans (pair_at _ k) ?_)
      unfold upto
      rw [if_pos (Nat.lt_succ_self _)]
      unfold rPtr
      rw [updB_same]
    refine ⟨_, v8, ?_⟩
    conv => whnf
    refine ⟨kn k, rfl, kn_lt k, ?_⟩
    conv => whnf
    refine ⟨_, v8, ?_⟩
    conv => whnf
    rw [wrap_i64 (x := (kn k : Int) + 1) (by omega) (by omega)]
    refine ⟨_, Forget.cons rfl (Forget.cons rfl (Forget.cons rfl (Forget.cons rfl (Forget.cons rfl (Forget.cons rfl (Forget.nil _)))))), ⟨kn k + 1, _, ps', _, _, by omega, by omega, w6, g6, ro6, rfl⟩, ?_⟩
    show (2 - ((kn k : Int) + 1)).toNat < (2 - (kn k : Int)).toNat
    omega
  have hx : i = 2 := by
    have : ¬ (i : Int) < 2 := by simpa using hx
    omega
  subst hx
  conv => whnf
  have v0 : Cell hh (h2.next + 1) 0 (.ptr (some ((E false).c, 0))) := by
    refine Cell.mk w.r8 ?_
    rw [upto_two]
    rfl
  refine ⟨0, rfl, by decide, ?_⟩
  conv => whnf
  refine ⟨_, v0, ?_⟩
  conv => whnf
  obtain ⟨ps1, w1⟩ := w.done
  have mC := Mod.push none_ hh (prow fun _ => .sl none 0)
  have ro := ro.get mC
  have w1 : W0 (hh.push (prow fun _ => .sl none 0)) D E h2.next (h2.next + 1) hh.next (fun _ => none) (fun _ => CV.new c conn) (fun _ => CV.new c conn) (fun _ => none) (fun _ => []) (rowB (fun _ => none) (fun _ => [])) := ⟨ps1, w1⟩
  have k1 : ∀ k : Bool, CHk ((fun _ => CV.new c conn) k) conn 0 := fun _ => ⟨new_cok hok, new_ov _ _, Int.le_refl _, Int.le_refl _, rfl⟩
  refine ⟨fun env hk => ∃ (j : Nat) (zj now : Int) (PC : Bool → Option (Nat × Nat)) (W : Bool → CV) (PB : Bool → Option (Nat × Nat)) (L : Bool → List GV), j ≤ m ∧ zj = j ∧ 0 ≤ now ∧ now ≤ 5 * j ∧ W0 hk D E h2.next (h2.next + 1) hh.next PC W W PB L (rowB PB L) ∧ (∀ k, CHk (W k) conn j) ∧ (∀ k, (∀ g ∈ L k, GO g) ∧ (L k).length ≤ 2000 * j) ∧ ActsC hk po m es ∧ env = [(14, i64 zj), (12, i64 now), (1, i64 conn), (2, .sl po m), (7, .ptr (some (h2.next, 0))), (8, .ptr (some (h2.next + 1, 0))), (13, .ptr (some (hh.next, 0)))],
    fun env _ => match get env 14 with
      | .int _ z => ((m : Int) - z).toNat
      | _ => 0, ⟨_, Forget.cons rfl (Forget.cons rfl (Forget.cons rfl (Forget.cons rfl (Forget.cons rfl (Forget.cons rfl (Forget.cons rfl (Forget.nil _))))))), 0, _, 0, _, _, _, _, Nat.zero_le _, rfl, Int.le_refl _, Int.le_refl _, w1, k1, fun k => ⟨(fun g hg => by cases hg), Nat.zero_le _⟩, ro, rfl⟩, ?_⟩
  generalize hh.next = a13
  generalize h2.next = a7
  clear w1 k1 ro w v0 mC g3 hi
  rintro _ hh ⟨j, zj, now, PC, W, PB, L, hj, rfl, hn0, hn1, w, ck, lk, ro, rfl⟩
  conv => whnf
  refine br_mk (fun hx => ?_) (fun hx => ?_)
  rotate_left
  · conv => whnf
    refine (awake15 _).mono ?_
    rintro _ h1 rfl
    conv => whnf
  have hx : j < m := by simpa using hx
  conv => whnf
  have hje : j < es.length := by rw [ro.ln]; exact hx
  obtain ⟨i1, c1, x1, x2, x3⟩ := sls_get actC_len ro.sl.is ro.ln.symm hje
  refine ⟨i1, c1, j, x1, rfl, hx, ?_⟩
  conv => whnf
  refine ⟨_, x2, ?_⟩
  conv => whnf
  obtain ⟨ob0, ob1, og0, og1, og2⟩ := ro.ok _ (List.getElem_mem hje)
  generalize es[j] = e at x2 x3 ob0 ob1 og0 og1 og2
  obtain ⟨gm, bx, mx⟩ := lay_row (h := hh) (sz := 10) [i64 0, i64 0, i64 0, .sl none 0, i64 0, i64 0, i64 0, i64 0, i64 0, .sl none 0] e.cells
  refine ⟨_, _, gm, Nat.le_of_ble_eq_true rfl, ?_⟩
  conv => whnf
  have nx1 : ∀ k, ¬ chAll (D k) (PC k) hh.next := fun k q => Nat.lt_irrefl _ ((w.chan k).lt q)
  have nx2 : ∀ k, ¬ inSl (PB k) hh.next := fun k q => Nat.lt_irrefl _ ((w.bag k).lt q)
  have nx3 : ¬ hh.next = a13 := fun q => by
    have := hh.lt _ _ w.r13
    omega
  have nx4 : ∀ k, ¬ (E k).all hh.next := fun k q => Nat.lt_irrefl _ ((w.rch k).lt q)
  have w := w.old mx
  have ro := ro.get mx
  have ob0 := ob0.get mx
  have og0 := og0.get mx
  clear gm x1 x2 x3
  refine ⟨_, Cell.mk bx rfl, ?_⟩
  conv => whnf
  refine (round19 (m := 2) (by decide) (by decide) _ _).mono ?_
  rintro _ hs ⟨ehs, rfl⟩
  have ehs : hs = (hh.push (.row true 10 [i64 0, i64 0, i64 0, .sl none 0, i64 0, i64 0, i64 0, i64 0, i64 0, .sl none 0])).set hh.next (.row true 10 e.cells) := ehs
  rw [← ehs] at w ro ob0 og0 bx
  clear ehs mx
  obtain ⟨k, hk⟩ := kn_of (z := e.side % 2) (Int.emod_nonneg _ (by decide)) (Int.emod_lt_of_pos _ (by decide))
  rw [hk]
  conv => whnf
  refine ⟨_, Cell.mk bx rfl, ?_⟩
  conv => whnf
  refine br_mk (fun hb => ?_) (fun hb => ?_)
  · conv => whnf
    refine (awake15 _).mono ?_
    rintro _ h1 rfl
    conv => whnf
  have hb : e.bs.length ≤ 30 := by
    have : ¬ (e.bs.length : Int) > 30 := by simpa using hb
    omega
  conv => whnf
  refine ⟨_, Cell.mk bx rfl, ?_⟩
  conv => whnf
  refine br_mk (fun hg => ?_) (fun hg => ?_)
  · conv => whnf
    refine (awake15 _).mono ?_
    rintro _ h1 rfl
    conv => whnf
  have hg : e.g.body.length ≤ 30 := by
    have : ¬ (e.g.body.length : Int) > 30 := by simpa using hg
    omega
  conv => whnf
  refine ⟨_, Cell.mk bx rfl, ?_⟩
  conv => whnf
  have hm2 : j ≤ 1000 := by omega
  have hnow0 : -1000000000 ≤ now := by omega
  have hnow1 : now ≤ 1000000000 := by omega
  rcases kinds e.kind with he | he | he | he | he | he | ⟨he1, he2, he3, he4, he5, he6⟩
  · rw [he]
    conv => whnf
    obtain ⟨q1, q2⟩ := (ck k).push hm2 now ob1 (by omega)
    have q3 := push_len (ck k).ok now (b := e.bs) (by omega)
    refine ⟨[0, 1, 2, 3, 4, 5, 6, 7, 8, 9, 10, 11], [0, 1, 3, 0, 0, 16, 63, 127, 255, 255, 511, 2047], by kernel_rfl, ?_⟩
    conv => whnf
    refine ⟨kn k, rfl, kn_lt _, ?_⟩
    conv => whnf
    refine ⟨_, Cell.mk w.r7 (pair_at _ k), ?_⟩
    conv => whnf
    refine ⟨_, Cell.mk bx rfl, ?_⟩
    conv => whnf
    refine (cPush (w.chan k) (ck k).ok ((ck k).room hm2).1 hnow0 hnow1 ob0.is (by omega)).mono ?_
    rintro _ h3 ⟨qa, pc3, rfl, ga, s3, hp3, m3⟩
    have w3 := w.turnC k s3 m3 hp3
    have bx3 := m3.get bx (.inl (nx1 k))
    conv => whnf
    refine ⟨_, rfl, ?_⟩
    conv => whnf
    refine ⟨_, rfl, ?_⟩
    conv => whnf
    refine ⟨[0, 1, 2, 3, 4, 5, 6, 7, 8, 9, 10, 11], [0, 1, 3, 0, 0, 16, 63, 127, 255, 255, 511, 2047], by kernel_rfl, ?_⟩
    conv => whnf
    refine ⟨kn k, rfl, kn_lt _, ?_⟩
    conv => whnf
    refine ⟨_, Cell.mk w3.r8 (pair_at _ k), ?_⟩
    conv => whnf
    refine ⟨_, Cell.mk bx3 rfl, ?_⟩
    conv => whnf
    refine (rPush (w3.rch k) (ck k).ok ((ck k).room hm2).1 hnow0 hnow1 (ob0.get m3).is (by omega)).mono ?_
    rintro _ h4 ⟨qb, rfl, gb, s4, m4⟩
    have wf := w3.turnR k s4 m4
    have ga := ga.get m4
    have rof := (ro.get m3).get m4
    conv => whnf
    refine ⟨_, rfl, ?_⟩
    conv => whnf
    refine ⟨_, rfl, ?_⟩
    conv => whnf
    refine br_mk (fun hI => ?_) (fun hI => ?_)
    · exact absurd hI (by simp)
    conv => whnf
    have ck2 := updB_forall (Q := fun _ v => CHk v conn (j + 1)) (fun k => (ck k).mono) (k := k) q1
    have lk2 := lk
    refine ⟨[0, 1, 2, 3, 4, 5, 6, 7, 9, 10, 11, 12, 13, 14, 15, 8, 16, 17, 18, 19, 20, 21, 23, 22, 24, 25, 26, 27, 28, 29, 30, 31, 32, 34, 35, 36, 37, 38, 39, 33, 40, 41, 42], [0, 0, 3, 7, 15, 31, 63, 127, 255, 31, 543, 1567, 3615, 7711, 15903, 32287, 65535, 131071, 262143, 524287, 1048575, 2097151, 4194303, 524287, 16777215, 33554431, 67108863, 134217727, 268435455, 536870911, 1073741823, 2147483647, 4294967295, 8589934591, 134217727, 17314086911, 51673825279, 120393302015, 257832255487, 532710162431, 1099511627775, 2199023255551, 4398046511103], by kernel_rfl, ?_⟩
    conv => whnf
    refine (alike64 ga gb (fun g hg => (q2 g hg).oct) (by omega)).mono ?_
    rintro _ h7 ⟨rfl, m7⟩
    have w7 := wf.old m7
    have gb7 := gb.get m7
    have ro7 := rof.get m7
    obtain ⟨po8, bx8, _⟩ := (w7.rch k).box
    conv => whnf
    refine ⟨kn k, rfl, kn_lt _, ?_⟩
    conv => whnf
    refine ⟨_, Cell.mk w7.r7 (pair_at _ k), ?_⟩
    conv => whnf
    refine ⟨kn k, rfl, kn_lt _, ?_⟩
    conv => whnf
    refine ⟨_, Cell.mk w7.r8 (pair_at _ k), ?_⟩
    conv => whnf
    refine ⟨_, Cell.mk bx8 rfl, ?_⟩
    conv => whnf
    refine (cOwed (w7.chan k)).mono ?_
    rintro _ h8 ⟨eh, rfl⟩
    subst eh
    conv => whnf
    refine ⟨⟨_, Cell.mk bx8 rfl, rfl⟩, ?_⟩
    conv => whnf
    refine ⟨⟨_, Cell.mk w7.r8 (pair_at _ k), rfl⟩, ?_⟩
    conv => whnf
    refine br_mk (fun hI => ?_) (fun hI => ?_)
    · exact absurd hI (by simp)
    conv => whnf
    refine ⟨kn k, rfl, kn_lt _, ?_⟩
    conv => whnf
    refine ⟨_, Cell.mk w7.r7 (pair_at _ k), ?_⟩
    conv => whnf
    refine (cConn (w7.chan k)).mono ?_
    rintro _ h8 ⟨eh, rfl⟩
    subst eh
    rw [(ck2 k).conn]
    conv => whnf
    refine br_mk (fun hI => ?_) (fun hI => ?_)
    · exact absurd hI (by simp)
    conv => whnf
    refine ⟨kn k, rfl, kn_lt _, ?_⟩
    conv => whnf
    refine ⟨_, Cell.mk w7.r7 (pair_at _ k), ?_⟩
    conv => whnf
    refine ⟨_, Cell.mk (w7.chan k).box rfl, ?_⟩
    conv => whnf
    refine ⟨kn k, rfl, kn_lt _, ?_⟩
    conv => whnf
    refine ⟨_, Cell.mk w7.r8 (pair_at _ k), ?_⟩
    conv => whnf
    refine ⟨_, Cell.mk bx8 rfl, ?_⟩
    conv => whnf
    refine (cRoom (w7.chan k).sd (ck2 k).ok.s).mono ?_
    rintro _ h8 ⟨eh, rfl⟩
    subst eh
    conv => whnf
    refine ⟨⟨_, Cell.mk bx8 rfl, rfl⟩, ?_⟩
    conv => whnf
    refine ⟨⟨_, Cell.mk w7.r8 (pair_at _ k), rfl⟩, ?_⟩
    conv => whnf
    refine (rRoomC (w7.rch k).sd (ck2 k).ok.s).mono ?_
    rintro _ h8 ⟨eh, rfl⟩
    subst eh
    conv => whnf
    refine br_mk (fun hI => ?_) (fun hI => ?_)
    · exact absurd hI (by simp)
    conv => whnf
    refine ⟨kn k, rfl, kn_lt _, ?_⟩
    conv => whnf
    refine ⟨_, Cell.mk w7.r13 (pair_at _ k), ?_⟩
    conv => whnf
    have hl2 := (lk2 k).2
    obtain ⟨xs, ys, y1, y2, y3⟩ := (w7.bag k).app gb7
    refine ⟨_, _, y1, y2, by rw [show (T.at_ 35).bytes = 64 from rfl]; omega, by omega, fun p9 h9 hs9 hm9 hf9 => ?_⟩
    obtain ⟨b9, f9⟩ := y3 p9 h9 hs9 hm9 hf9
    have w9 := w7.turnB k b9 hm9 f9
    conv => whnf
    refine ⟨kn k, rfl, kn_lt _, ?_⟩
    conv => whnf
    refine ⟨_, _, w9.r13, pair_fit k, ?_⟩
    conv => whnf
    have wA := w9.set k (.sl p9 ((L k).length + ((pushV (W k) now e.bs).1.1).length))
    have mA := w9.set13 k (.sl p9 ((L k).length + ((pushV (W k) now e.bs).1.1).length))
    have eR : updB (rowB PB L) k (.sl p9 ((L k).length + ((pushV (W k) now e.bs).1.1).length)) = rowB (updB PB k p9) (updB L k (L k ++ (pushV (W k) now e.bs).1.1)) := by
      rw [show (L k).length + ((pushV (W k) now e.bs).1.1).length = (L k ++ (pushV (W k) now e.bs).1.1).length from List.length_append.symm]
      exact rowB_upd _ _ _ _ _
    rw [eR] at wA
    have lkF : ∀ i, (∀ gg ∈ updB L k (L k ++ (pushV (W k) now e.bs).1.1) i, GO gg) ∧ (updB L k (L k ++ (pushV (W k) now e.bs).1.1) i).length ≤ 2000 * (j + 1) := updB_forall (k := k) (f := L) (v := L k ++ (pushV (W k) now e.bs).1.1) (Q := fun _ (l : List GV) => (∀ g ∈ l, GO g) ∧ l.length ≤ 2000 * (j + 1)) (fun i => ⟨(lk2 i).1, by have := (lk2 i).2; omega⟩) ⟨fun g hg => by
      rcases List.mem_append.1 hg with hg | hg
      · exact (lk2 k).1 g hg
      · exact q2 g hg, by rw [List.length_append]; omega⟩
    have roF := (ro7.get hm9).get mA
    rw [wrap_i64 (x := (j : Int) + 1) (by omega) (by omega)]
    refine ⟨_, Forget.cons rfl (Forget.cons rfl (Forget.cons rfl (Forget.cons rfl (Forget.cons rfl (Forget.cons rfl (Forget.cons rfl (Forget.nil _))))))), ⟨j + 1, _, now, _, _, (updB PB k p9), (updB L k (L k ++ (pushV (W k) now e.bs).1.1)), by omega, by omega, by omega, by omega, wA, ck2, lkF, roF, rfl⟩, ?_⟩
    show ((m : Int) - ((j : Int) + 1)).toNat < ((m : Int) - (j : Int)).toNat
    omega
  · skip
    rw [he]
    conv => whnf
    refine ⟨kn k, rfl, kn_lt _, ?_⟩
    conv => whnf
    refine ⟨_, Cell.mk w.r13 (pair_at _ k), ?_⟩
    conv => whnf
    refine br_mk (fun hz => ?_) (fun hz => ?_)
    · conv => whnf
      have lkB : ∀ i, (∀ g ∈ L i, GO g) ∧ (L i).length ≤ 2000 * (j + 1) := fun i => ⟨(lk i).1, by have := (lk i).2; omega⟩
      rw [wrap_i64 (x := (j : Int) + 1) (by omega) (by omega)]
      refine ⟨_, Forget.cons rfl (Forget.cons rfl (Forget.cons rfl (Forget.cons rfl (Forget.cons rfl (Forget.cons rfl (Forget.cons rfl (Forget.nil _))))))), ⟨j + 1, _, now, PC, W, PB, L, by omega, by omega, by omega, by omega, w, (fun k => (ck k).mono), lkB, ro, rfl⟩, ?_⟩
      show ((m : Int) - ((j : Int) + 1)).toNat < ((m : Int) - (j : Int)).toNat
      omega
    have hz : 0 < (L k).length := by
      have : ¬ ((L k).length : Int) = 0 := by simpa using hz
      omega
    have hlk := (lk k).2
    conv => whnf
    refine ⟨[0, 1, 2, 3, 4, 5, 6, 7], [0, 1, 0, 4, 12, 28, 63, 127], by kernel_rfl, ?_⟩
    conv => whnf
    refine ⟨_, Cell.mk bx rfl, ?_⟩
    conv => whnf
    refine ⟨kn k, rfl, kn_lt _, ?_⟩
    conv => whnf
    refine ⟨_, Cell.mk w.r13 (pair_at _ k), ?_⟩
    conv => whnf
    refine (round19 (m := ((L k).length : Int)) (by omega) (by omega) _ _).mono ?_
    rintro _ hs2 ⟨ehs, rfl⟩
    rw [← ehs] at w ro bx
    clear ehs ob0 og0
    have hr0 := Int.emod_nonneg e.n (show ((L k).length : Int) ≠ 0 by omega)
    have hr1 := Int.emod_lt_of_pos e.n (show (0 : Int) < ((L k).length : Int) by omega)
    obtain ⟨a, haa⟩ : ∃ a : Nat, e.n % ((L k).length : Int) = (a : Int) := ⟨(e.n % ((L k).length : Int)).toNat, by omega⟩
    rw [haa] at hr0 hr1 ⊢
    have hal : a < (L k).length := by omega
    conv => whnf
    refine ⟨kn k, rfl, kn_lt _, ?_⟩
    conv => whnf
    refine ⟨_, Cell.mk w.r13 (pair_at _ k), ?_⟩
    conv => whnf
    obtain ⟨i3, c3, p3, y1, y2, y4⟩ := (w.bag k).cell hal
    refine ⟨i3, c3, a, y1, rfl, hal, ?_⟩
    conv => whnf
    refine ⟨_, y2, ?_⟩
    conv => whnf
    obtain ⟨gm24, b24, m24⟩ := lay_row (h := hs2) (sz := 6) [i64 0, i64 0, i64 0, i64 0, i64 0, .sl none 0] (gC ((L k)[a], p3))
    refine ⟨_, _, gm24, Nat.le_of_ble_eq_true rfl, ?_⟩
    conv => whnf
    have nx24 : ∀ k, ¬ chAll (D k) (PC k) hs2.next := fun k q => Nat.lt_irrefl _ ((w.chan k).lt q)
    have nx24b : ¬ hs2.next = a13 := fun q => by
      have := hs2.lt _ _ w.r13
      omega
    have bx5 := m24.get bx (.inl (fun k => k))
    have w5 := w.old m24
    have ro5 := ro.get m24
    have y4 := y4.get m24
    clear gm24
    refine ⟨_, Cell.mk bx5 rfl, ?_⟩
    conv => whnf
    rw [he]
    conv => whnf
    have hOut := (w5.bag k).out hal
    obtain ⟨xs, ys, t1, t2, t3⟩ := hOut
    refine ⟨[0, 2, 3, 4, 5, 6, 8, 9, 10, 11, 12, 13, 1, 7, 14, 15, 16], [0, 0, 0, 4, 12, 0, 60, 126, 0, 256, 768, 0, 2048, 7936, 16382, 32767, 65535], by kernel_rfl, ?_⟩
    conv => whnf
    refine ⟨kn k, rfl, kn_lt _, ?_⟩
    conv => whnf
    refine ⟨_, Cell.mk w5.r13 (pair_at _ k), ?_⟩
    conv => whnf
    refine ⟨⟨_, (w5.bag k).row.weak⟩, a, rfl, Nat.zero_le _, Nat.le_of_lt hal, ?_⟩
    conv => whnf
    refine ⟨kn k, rfl, kn_lt _, ?_⟩
    conv => whnf
    refine ⟨_, Cell.mk w5.r13 (pair_at _ k), ?_⟩
    conv => whnf
    rw [wrap_i64 (x := (a : Int) + 1) (by omega) (by omega)]
    refine ⟨⟨_, (w5.bag k).row.weak⟩, a + 1, by omega, hal, Nat.le_refl _, ?_⟩
    conv => whnf
    obtain ⟨z1, z2, z3⟩ := app0 (h0 := ((hs2.push (.row true 6 [i64 0, i64 0, i64 0, i64 0, i64 0, .sl none 0])).set hs2.next (.row true 6 (gC ((L k)[a], p3))))) t1
    refine ⟨_, _, z1, z2, by rw [show (T.at_ 35).bytes = 64 from rfl]; omega, by omega, fun p1 h6 hs6 hm6 hf6 => ?_⟩
    obtain ⟨n6, mo6⟩ := z3 p1 h6 hs6 hm6 hf6
    have w6 := w5.old mo6
    have t2' := SlIs.old t2 mo6 (fun _ _ k => k)
    conv => whnf
    refine ⟨⟨⟨_, (w6.bag k).row.weak⟩, a + 1, by omega, hal, Nat.le_refl _, rfl⟩, ?_⟩
    conv => whnf
    refine ⟨⟨_, Cell.mk w6.r13 (pair_at _ k), rfl⟩, ?_⟩
    conv => whnf
    rw [Nat.zero_add (a - 0)]
    refine ⟨_, _, n6.1, t2', by rw [show (T.at_ 35).bytes = 64 from rfl]; omega, by omega, fun p2 h7 hs7 hm7 hf7 => ?_⟩
    obtain ⟨n7, mo7⟩ := appN n6 mo6 p2 h7 hs7 hm7 hf7
    have bag7 := t3 hs7 none_ mo7
    have w7 := w5.turnB k bag7 (mo7.mono (fun _ _ k => k.elim)) (fun i ⟨o, e⟩ => .inr (n7.2 i o e))
    conv => whnf
    refine ⟨kn k, rfl, kn_lt _, ?_⟩
    conv => whnf
    refine ⟨_, _, w7.r13, pair_fit k, ?_⟩
    conv => whnf
    have wB := w7.set k (.sl p2 (a - 0 + ((L k).length - (a + 1))))
    have mS := w7.set13 k (.sl p2 (a - 0 + ((L k).length - (a + 1))))
    have eR : updB (rowB PB L) k (.sl p2 (a - 0 + ((L k).length - (a + 1)))) = rowB (updB PB k p2) (updB L k ((L k).eraseIdx a)) := by
      rw [← rowB_upd, List.length_eraseIdx_of_lt hal, show (L k).length - 1 = a - 0 + ((L k).length - (a + 1)) by omega]
    rw [eR] at wB
    have lkC : ∀ i, (∀ g ∈ updB L k ((L k).eraseIdx a) i, GO g) ∧ (updB L k ((L k).eraseIdx a) i).length ≤ 2000 * j := updB_forall (Q := fun _ (l : List GV) => (∀ g ∈ l, GO g) ∧ l.length ≤ 2000 * j) lk ⟨fun g hg => (lk k).1 g (List.mem_of_mem_eraseIdx hg), by rw [List.length_eraseIdx_of_lt hal]; omega⟩
    have lkB : ∀ i, (∀ g ∈ updB L k ((L k).eraseIdx a) i, GO g) ∧ (updB L k ((L k).eraseIdx a) i).length ≤ 2000 * (j + 1) := fun i => ⟨(lkC i).1, by have := (lkC i).2; omega⟩
    have b24 := mS.get (mo7.get b24 (.inl (fun k => k))) (.inl nx24b)
    have bB := mS.get (mo7.get bx5 (.inl (fun k => k))) (.inl nx3)
    have roB := (ro5.get mo7).get mS
    have y4 := (y4.get mo7).get mS
    refine ⟨_, Cell.mk bB rfl, ?_⟩
    conv => whnf
    rw [he]
    conv => whnf
    rw [kn_not]
    conv => whnf
    have hgo : GO (L k)[a] := (lk k).1 _ (List.getElem_mem hal)
    generalize (L k)[a] = g at y2 y4 b24 hgo
    have q7 := (ck (!k)).recv hm2 now hgo
    obtain ⟨q1, q6, q2, q8⟩ := q7
    have q3 := recv_len (ck (!k)).ok now g
    refine ⟨[0, 1, 2, 3, 4, 5, 6, 7, 8, 9, 10], [0, 1, 3, 0, 0, 31, 63, 127, 127, 255, 1023], by kernel_rfl, ?_⟩
    conv => whnf
    refine ⟨kn (!k), rfl, kn_lt _, ?_⟩
    conv => whnf
    refine ⟨_, Cell.mk wB.r7 (pair_at _ (!k)), ?_⟩
    conv => whnf
    refine ⟨gC (g, p3), Cells.mk b24 (Nat.le_of_ble_eq_true rfl) rfl, ?_⟩
    conv => whnf
    refine (cRecv (g := g) (p := p3) (wB.chan (!k)) (ck (!k)).ok ((ck (!k)).room hm2).1 ((ck (!k)).room hm2).2.1 hnow0 hnow1 (fun h' m => ((show RoSl _ _ _ _ _ from y4).get m).is) hgo.seq hgo.len).mono ?_
    rintro _ h3 ⟨qr, qa, pc3, rfl, ra, ga, s3, hp3, m3⟩
    have w3 := wB.turnC (!k) s3 m3 hp3
    have bx3 := m3.get b24 (.inl (nx24 (!k)))
    conv => whnf
    refine ⟨_, rfl, ?_⟩
    conv => whnf
    refine ⟨_, rfl, ?_⟩
    conv => whnf
    refine ⟨[0, 1, 2, 3, 4, 5, 6, 7, 8, 9, 10], [0, 1, 3, 0, 0, 31, 63, 127, 127, 255, 1023], by kernel_rfl, ?_⟩
    conv => whnf
    refine ⟨kn (!k), rfl, kn_lt _, ?_⟩
    conv => whnf
    refine ⟨_, Cell.mk w3.r8 (pair_at _ (!k)), ?_⟩
    conv => whnf
    refine ⟨gC (g, p3), Cells.mk bx3 (Nat.le_of_ble_eq_true rfl) rfl, ?_⟩
    conv => whnf
    refine (rRecv (g := g) (p := p3) (w3.rch (!k)) (ck (!k)).ok ((ck (!k)).room hm2).1 ((ck (!k)).room hm2).2.1 hnow0 hnow1 (fun h' m => (((show RoSl _ _ _ _ _ from y4).get m3).get m).is) hgo.seq hgo.len).mono ?_
    rintro _ h4 ⟨qr', qb, rfl, rb, gb, s4, m4⟩
    have wf := w3.turnR (!k) s4 m4
    have ga := ga.get m4
    have ra := ra.get m4
    have rof := (roB.get m3).get m4
    conv => whnf
    refine ⟨_, rfl, ?_⟩
    conv => whnf
    refine ⟨_, rfl, ?_⟩
    conv => whnf
    refine (rows31 ra rb q6 q6 (by omega)).mono ?_
    rintro _ h5 ⟨eh, rfl⟩
    subst eh
    rw [decide_eq_true rfl]
    conv => whnf
    have ck2 := updB_forall (Q := fun _ v => CHk v conn (j + 1)) (fun k => (ck k).mono) (k := (!k)) q1
    have lk2 := lkC
    generalize updB PC (!k) pc3 = PC2 at wf
    refine ⟨[0, 1, 2, 3, 4, 5, 6, 7, 9, 10, 11, 12, 13, 14, 15, 8, 16, 17, 18, 19, 20, 21, 23, 22, 24, 25, 26, 27, 28, 29, 30, 31, 32, 34, 35, 36, 37, 38, 39, 33, 40, 41, 42], [0, 0, 3, 7, 15, 31, 63, 127, 255, 31, 543, 1567, 3615, 7711, 15903, 32287, 65535, 131071, 262143, 524287, 1048575, 2097151, 4194303, 524287, 16777215, 33554431, 67108863, 134217727, 268435455, 536870911, 1073741823, 2147483647, 4294967295, 8589934591, 134217727, 17314086911, 51673825279, 120393302015, 257832255487, 532710162431, 1099511627775, 2199023255551, 4398046511103], by kernel_rfl, ?_⟩
    conv => whnf
    refine (alike64 ga gb (fun g hg => (q2 g hg).oct) (by omega)).mono ?_
    rintro _ h7 ⟨rfl, m7⟩
    have w7 := wf.old m7
    have gb7 := gb.get m7
    have ro7 := rof.get m7
    obtain ⟨po8, bx8, _⟩ := (w7.rch (!k)).box
    conv => whnf
    refine ⟨kn (!k), rfl, kn_lt _, ?_⟩
    conv => whnf
    refine ⟨_, Cell.mk w7.r7 (pair_at _ (!k)), ?_⟩
    conv => whnf
    refine ⟨kn (!k), rfl, kn_lt _, ?_⟩
    conv => whnf
    refine ⟨_, Cell.mk w7.r8 (pair_at _ (!k)), ?_⟩
    conv => whnf
    refine ⟨_, Cell.mk bx8 rfl, ?_⟩
    conv => whnf
    refine (cOwed (w7.chan (!k))).mono ?_
    rintro _ h8 ⟨eh, rfl⟩
    subst eh
    conv => whnf
    refine ⟨⟨_, Cell.mk bx8 rfl, rfl⟩, ?_⟩
    conv => whnf
    refine ⟨⟨_, Cell.mk w7.r8 (pair_at _ (!k)), rfl⟩, ?_⟩
    conv => whnf
    refine br_mk (fun hI => ?_) (fun hI => ?_)
    · exact absurd hI (by simp)
    conv => whnf
    refine ⟨kn (!k), rfl, kn_lt _, ?_⟩
    conv => whnf
    refine ⟨_, Cell.mk w7.r7 (pair_at _ (!k)), ?_⟩
    conv => whnf
    refine (cConn (w7.chan (!k))).mono ?_
    rintro _ h8 ⟨eh, rfl⟩
    subst eh
    rw [(ck2 (!k)).conn]
    conv => whnf
    refine br_mk (fun hI => ?_) (fun hI => ?_)
    · exact absurd hI (by simp)
    conv => whnf
    refine ⟨kn (!k), rfl, kn_lt _, ?_⟩
    conv => whnf
    refine ⟨_, Cell.mk w7.r7 (pair_at _ (!k)), ?_⟩
    conv => whnf
    refine ⟨_, Cell.mk (w7.chan (!k)).box rfl, ?_⟩
    conv => whnf
    refine ⟨kn (!k), rfl, kn_lt _, ?_⟩
    conv => whnf
    refine ⟨_, Cell.mk w7.r8 (pair_at _ (!k)), ?_⟩
    conv => whnf
    refine ⟨_, Cell.mk bx8 rfl, ?_⟩
    conv => whnf
    refine (cRoom (w7.chan (!k)).sd (ck2 (!k)).ok.s).mono ?_
    rintro _ h8 ⟨eh, rfl⟩
    subst eh
    conv => whnf
    refine ⟨⟨_, Cell.mk bx8 rfl, rfl⟩, ?_⟩
    conv => whnf
    refine ⟨⟨_, Cell.mk w7.r8 (pair_at _ (!k)), rfl⟩, ?_⟩
    conv => whnf
    refine (rRoomC (w7.rch (!k)).sd (ck2 (!k)).ok.s).mono ?_
    rintro _ h8 ⟨eh, rfl⟩
    subst eh
    conv => whnf
    refine br_mk (fun hI => ?_) (fun hI => ?_)
    · exact absurd hI (by simp)
    conv => whnf
    refine ⟨kn (!k), rfl, kn_lt _, ?_⟩
    conv => whnf
    refine ⟨_, Cell.mk w7.r13 (pair_at _ (!k)), ?_⟩
    conv => whnf
    have hl2 := (lk2 (!k)).2
    obtain ⟨xs, ys, y1, y2, y3⟩ := (w7.bag (!k)).app gb7
    refine ⟨_, _, y1, y2, by rw [show (T.at_ 35).bytes = 64 from rfl]; omega, by omega, fun p9 h9 hs9 hm9 hf9 => ?_⟩
    obtain ⟨b9, f9⟩ := y3 p9 h9 hs9 hm9 hf9
    have w9 := w7.turnB (!k) b9 hm9 f9
    conv => whnf
    refine ⟨kn (!k), rfl, kn_lt _, ?_⟩
    conv => whnf
    refine ⟨_, _, w9.r13, pair_fit (!k), ?_⟩
    conv => whnf
    have wA := w9.set (!k) (.sl p9 (((updB L k ((L k).eraseIdx a)) (!k)).length + ((recvV (W (!k)) now g).1.2).length))
    have mA := w9.set13 (!k) (.sl p9 (((updB L k ((L k).eraseIdx a)) (!k)).length + ((recvV (W (!k)) now g).1.2).length))
    have eR : updB (rowB (updB PB k p2) (updB L k ((L k).eraseIdx a))) (!k) (.sl p9 (((updB L k ((L k).eraseIdx a)) (!k)).length + ((recvV (W (!k)) now g).1.2).length)) = rowB (updB (updB PB k p2) (!k) p9) (updB (updB L k ((L k).eraseIdx a)) (!k) ((updB L k ((L k).eraseIdx a)) (!k) ++ (recvV (W (!k)) now g).1.2)) := by
      rw [show ((updB L k ((L k).eraseIdx a)) (!k)).length + ((recvV (W (!k)) now g).1.2).length = ((updB L k ((L k).eraseIdx a)) (!k) ++ (recvV (W (!k)) now g).1.2).length from List.length_append.symm]
      exact rowB_upd _ _ _ _ _
    rw [eR] at wA
    have lkF : ∀ i, (∀ gg ∈ updB (updB L k ((L k).eraseIdx a)) (!k) ((updB L k ((L k).eraseIdx a)) (!k) ++ (recvV (W (!k)) now g).1.2) i, GO gg) ∧ (updB (updB L k ((L k).eraseIdx a)) (!k) ((updB L k ((L k).eraseIdx a)) (!k) ++ (recvV (W (!k)) now g).1.2) i).length ≤ 2000 * (j + 1) := updB_forall (k := (!k)) (f := (updB L k ((L k).eraseIdx a))) (v := (updB L k ((L k).eraseIdx a)) (!k) ++ (recvV (W (!k)) now g).1.2) (Q := fun _ (l : List GV) => (∀ g ∈ l, GO g) ∧ l.length ≤ 2000 * (j + 1)) (fun i => ⟨(lk2 i).1, by have := (lk2 i).2; omega⟩) ⟨fun g hg => by
      rcases List.mem_append.1 hg with hg | hg
      · exact (lk2 (!k)).1 g hg
      · exact q2 g hg, by rw [List.length_append]; omega⟩
    have roF := (ro7.get hm9).get mA
    rw [wrap_i64 (x := (j : Int) + 1) (by omega) (by omega)]
    refine ⟨_, Forget.cons rfl (Forget.cons rfl (Forget.cons rfl (Forget.cons rfl (Forget.cons rfl (Forget.cons rfl (Forget.cons rfl (Forget.nil _))))))), ⟨j + 1, _, now, _, _, (updB (updB PB k p2) (!k) p9), (updB (updB L k ((L k).eraseIdx a)) (!k) ((updB L k ((L k).eraseIdx a)) (!k) ++ (recvV (W (!k)) now g).1.2)), by omega, by omega, by omega, by omega, wA, ck2, lkF, roF, rfl⟩, ?_⟩
    show ((m : Int) - ((j : Int) + 1)).toNat < ((m : Int) - (j : Int)).toNat
    omega
  · skip
    rw [he]
    conv => whnf
    refine ⟨kn k, rfl, kn_lt _, ?_⟩
    conv => whnf
    refine ⟨_, Cell.mk w.r13 (pair_at _ k), ?_⟩
    conv => whnf
    refine br_mk (fun hz => ?_) (fun hz => ?_)
    · conv => whnf
      have lkB : ∀ i, (∀ g ∈ L i, GO g) ∧ (L i).length ≤ 2000 * (j + 1) := fun i => ⟨(lk i).1, by have := (lk i).2; omega⟩
      rw [wrap_i64 (x := (j : Int) + 1) (by omega) (by omega)]
      refine ⟨_, Forget.cons rfl (Forget.cons rfl (Forget.cons rfl (Forget.cons rfl (Forget.cons rfl (Forget.cons rfl (Forget.cons rfl (Forget.nil _))))))), ⟨j + 1, _, now, PC, W, PB, L, by omega, by omega, by omega, by omega, w, (fun k => (ck k).mono), lkB, ro, rfl⟩, ?_⟩
      show ((m : Int) - ((j : Int) + 1)).toNat < ((m : Int) - (j : Int)).toNat
      omega
    have hz : 0 < (L k).length := by
      have : ¬ ((L k).length : Int) = 0 := by simpa using hz
      omega
    have hlk := (lk k).2
    conv => whnf
    refine ⟨[0, 1, 2, 3, 4, 5, 6, 7], [0, 1, 0, 4, 12, 28, 63, 127], by kernel_rfl, ?_⟩
    conv => whnf
    refine ⟨_, Cell.mk bx rfl, ?_⟩
    conv => whnf
    refine ⟨kn k, rfl, kn_lt _, ?_⟩
    conv => whnf
    refine ⟨_, Cell.mk w.r13 (pair_at _ k), ?_⟩
    conv => whnf
    refine (round19 (m := ((L k).length : Int)) (by omega) (by omega) _ _).mono ?_
    rintro _ hs2 ⟨ehs, rfl⟩
    rw [← ehs] at w ro bx
    clear ehs ob0 og0
    have hr0 := Int.emod_nonneg e.n (show ((L k).length : Int) ≠ 0 by omega)
    have hr1 := Int.emod_lt_of_pos e.n (show (0 : Int) < ((L k).length : Int) by omega)
    obtain ⟨a, haa⟩ : ∃ a : Nat, e.n % ((L k).length : Int) = (a : Int) := ⟨(e.n % ((L k).length : Int)).toNat, by omega⟩
    rw [haa] at hr0 hr1 ⊢
    have hal : a < (L k).length := by omega
    conv => whnf
    refine ⟨kn k, rfl, kn_lt _, ?_⟩
    conv => whnf
    refine ⟨_, Cell.mk w.r13 (pair_at _ k), ?_⟩
    conv => whnf
    obtain ⟨i3, c3, p3, y1, y2, y4⟩ := (w.bag k).cell hal
    refine ⟨i3, c3, a, y1, rfl, hal, ?_⟩
    conv => whnf
    refine ⟨_, y2, ?_⟩
    conv => whnf
    obtain ⟨gm24, b24, m24⟩ := lay_row (h := hs2) (sz := 6) [i64 0, i64 0, i64 0, i64 0, i64 0, .sl none 0] (gC ((L k)[a], p3))
    refine ⟨_, _, gm24, Nat.le_of_ble_eq_true rfl, ?_⟩
    conv => whnf
    have nx24 : ∀ k, ¬ chAll (D k) (PC k) hs2.next := fun k q => Nat.lt_irrefl _ ((w.chan k).lt q)
    have nx24b : ¬ hs2.next = a13 := fun q => by
      have := hs2.lt _ _ w.r13
      omega
    have bx5 := m24.get bx (.inl (fun k => k))
    have w5 := w.old m24
    have ro5 := ro.get m24
    have y4 := y4.get m24
    clear gm24
    refine ⟨_, Cell.mk bx5 rfl, ?_⟩
    conv => whnf
    rw [he]
    conv => whnf
    have hOut := (w5.bag k).out hal
    obtain ⟨xs, ys, t1, t2, t3⟩ := hOut
    refine ⟨[0, 2, 3, 4, 5, 6, 8, 9, 10, 11, 12, 13, 1, 7, 14, 15, 16], [0, 0, 0, 4, 12, 0, 60, 126, 0, 256, 768, 0, 2048, 7936, 16382, 32767, 65535], by kernel_rfl, ?_⟩
    conv => whnf
    refine ⟨kn k, rfl, kn_lt _, ?_⟩
    conv => whnf
    refine ⟨_, Cell.mk w5.r13 (pair_at _ k), ?_⟩
    conv => whnf
    refine ⟨⟨_, (w5.bag k).row.weak⟩, a, rfl, Nat.zero_le _, Nat.le_of_lt hal, ?_⟩
    conv => whnf
    refine ⟨kn k, rfl, kn_lt _, ?_⟩
    conv => whnf
    refine ⟨_, Cell.mk w5.r13 (pair_at _ k), ?_⟩
    conv => whnf
    rw [wrap_i64 (x := (a : Int) + 1) (by omega) (by omega)]
    refine ⟨⟨_, (w5.bag k).row.weak⟩, a + 1, by omega, hal, Nat.le_refl _, ?_⟩
    conv => whnf
    obtain ⟨z1, z2, z3⟩ := app0 (h0 := ((hs2.push (.row true 6 [i64 0, i64 0, i64 0, i64 0, i64 0, .sl none 0])).set hs2.next (.row true 6 (gC ((L k)[a], p3))))) t1
    refine ⟨_, _, z1, z2, by rw [show (T.at_ 35).bytes = 64 from rfl]; omega, by omega, fun p1 h6 hs6 hm6 hf6 => ?_⟩
    obtain ⟨n6, mo6⟩ := z3 p1 h6 hs6 hm6 hf6
    have w6 := w5.old mo6
    have t2' := SlIs.old t2 mo6 (fun _ _ k => k)
    conv => whnf
    refine ⟨⟨⟨_, (w6.bag k).row.weak⟩, a + 1, by omega, hal, Nat.le_refl _, rfl⟩, ?_⟩
    conv => whnf
    refine ⟨⟨_, Cell.mk w6.r13 (pair_at _ k), rfl⟩, ?_⟩
    conv => whnf
    rw [Nat.zero_add (a - 0)]
    refine ⟨_, _, n6.1, t2', by rw [show (T.at_ 35).bytes = 64 from rfl]; omega, by omega, fun p2 h7 hs7 hm7 hf7 => ?_⟩
    obtain ⟨n7, mo7⟩ := appN n6 mo6 p2 h7 hs7 hm7 hf7
    have bag7 := t3 hs7 none_ mo7
    have w7 := w5.turnB k bag7 (mo7.mono (fun _ _ k => k.elim)) (fun i ⟨o, e⟩ => .inr (n7.2 i o e))
    conv => whnf
    refine ⟨kn k, rfl, kn_lt _, ?_⟩
    conv => whnf
    refine ⟨_, _, w7.r13, pair_fit k, ?_⟩
    conv => whnf
    have wB := w7.set k (.sl p2 (a - 0 + ((L k).length - (a + 1))))
    have mS := w7.set13 k (.sl p2 (a - 0 + ((L k).length - (a + 1))))
    have eR : updB (rowB PB L) k (.sl p2 (a - 0 + ((L k).length - (a + 1)))) = rowB (updB PB k p2) (updB L k ((L k).eraseIdx a)) := by
      rw [← rowB_upd, List.length_eraseIdx_of_lt hal, show (L k).length - 1 = a - 0 + ((L k).length - (a + 1)) by omega]
    rw [eR] at wB
    have lkC : ∀ i, (∀ g ∈ updB L k ((L k).eraseIdx a) i, GO g) ∧ (updB L k ((L k).eraseIdx a) i).length ≤ 2000 * j := updB_forall (Q := fun _ (l : List GV) => (∀ g ∈ l, GO g) ∧ l.length ≤ 2000 * j) lk ⟨fun g hg => (lk k).1 g (List.mem_of_mem_eraseIdx hg), by rw [List.length_eraseIdx_of_lt hal]; omega⟩
    have lkB : ∀ i, (∀ g ∈ updB L k ((L k).eraseIdx a) i, GO g) ∧ (updB L k ((L k).eraseIdx a) i).length ≤ 2000 * (j + 1) := fun i => ⟨(lkC i).1, by have := (lkC i).2; omega⟩
    have b24 := mS.get (mo7.get b24 (.inl (fun k => k))) (.inl nx24b)
    have bB := mS.get (mo7.get bx5 (.inl (fun k => k))) (.inl nx3)
    have roB := (ro5.get mo7).get mS
    have y4 := (y4.get mo7).get mS
    refine ⟨_, Cell.mk bB rfl, ?_⟩
    conv => whnf
    rw [he]
    conv => whnf
    rw [wrap_i64 (x := (j : Int) + 1) (by omega) (by omega)]
    refine ⟨_, Forget.cons rfl (Forget.cons rfl (Forget.cons rfl (Forget.cons rfl (Forget.cons rfl (Forget.cons rfl (Forget.cons rfl (Forget.nil _))))))), ⟨j + 1, _, now, PC, W, (updB PB k p2), (updB L k ((L k).eraseIdx a)), by omega, by omega, by omega, by omega, wB, (fun k => (ck k).mono), lkB, roB, rfl⟩, ?_⟩
    show ((m : Int) - ((j : Int) + 1)).toNat < ((m : Int) - (j : Int)).toNat
    omega
  · skip
    rw [he]
    conv => whnf
    refine ⟨kn k, rfl, kn_lt _, ?_⟩
    conv => whnf
    refine ⟨_, Cell.mk w.r13 (pair_at _ k), ?_⟩
    conv => whnf
    refine br_mk (fun hz => ?_) (fun hz => ?_)
    · conv => whnf
      have lkB : ∀ i, (∀ g ∈ L i, GO g) ∧ (L i).length ≤ 2000 * (j + 1) := fun i => ⟨(lk i).1, by have := (lk i).2; omega⟩
      rw [wrap_i64 (x := (j : Int) + 1) (by omega) (by omega)]
      refine ⟨_, Forget.cons rfl (Forget.cons rfl (Forget.cons rfl (Forget.cons rfl (Forget.cons rfl (Forget.cons rfl (Forget.cons rfl (Forget.nil _))))))), ⟨j + 1, _, now, PC, W, PB, L, by omega, by omega, by omega, by omega, w, (fun k => (ck k).mono), lkB, ro, rfl⟩, ?_⟩
      show ((m : Int) - ((j : Int) + 1)).toNat < ((m : Int) - (j : Int)).toNat
      omega
    have hz : 0 < (L k).length := by
      have : ¬ ((L k).length : Int) = 0 := by simpa using hz
      omega
    have hlk := (lk k).2
    conv => whnf
    refine ⟨[0, 1, 2, 3, 4, 5, 6, 7], [0, 1, 0, 4, 12, 28, 63, 127], by kernel_rfl, ?_⟩
    conv => whnf
    refine ⟨_, Cell.mk bx rfl, ?_⟩
    conv => whnf
    refine ⟨kn k, rfl, kn_lt _, ?_⟩
    conv => whnf
    refine ⟨_, Cell.mk w.r13 (pair_at _ k), ?_⟩
    conv => whnf
    refine (round19 (m := ((L k).length : Int)) (by omega) (by omega) _ _).mono ?_
    rintro _ hs2 ⟨ehs, rfl⟩
    rw [← ehs] at w ro bx
    clear ehs ob0 og0
    have hr0 := Int.emod_nonneg e.n (show ((L k).length : Int) ≠ 0 by omega)
    have hr1 := Int.emod_lt_of_pos e.n (show (0 : Int) < ((L k).length : Int) by omega)
    obtain ⟨a, haa⟩ : ∃ a : Nat, e.n % ((L k).length : Int) = (a : Int) := ⟨(e.n % ((L k).length : Int)).toNat, by omega⟩
    rw [haa] at hr0 hr1 ⊢
    have hal : a < (L k).length := by omega
    conv => whnf
    refine ⟨kn k, rfl, kn_lt _, ?_⟩
    conv => whnf
    refine ⟨_, Cell.mk w.r13 (pair_at _ k), ?_⟩
    conv => whnf
    obtain ⟨i3, c3, p3, y1, y2, y4⟩ := (w.bag k).cell hal
    refine ⟨i3, c3, a, y1, rfl, hal, ?_⟩
    conv => whnf
    refine ⟨_, y2, ?_⟩
    conv => whnf
    obtain ⟨gm24, b24, m24⟩ := lay_row (h := hs2) (sz := 6) [i64 0, i64 0, i64 0, i64 0, i64 0, .sl none 0] (gC ((L k)[a], p3))
    refine ⟨_, _, gm24, Nat.le_of_ble_eq_true rfl, ?_⟩
    conv => whnf
    have nx24 : ∀ k, ¬ chAll (D k) (PC k) hs2.next := fun k q => Nat.lt_irrefl _ ((w.chan k).lt q)
    have nx24b : ¬ hs2.next = a13 := fun q => by
      have := hs2.lt _ _ w.r13
      omega
    have bx5 := m24.get bx (.inl (fun k => k))
    have w5 := w.old m24
    have ro5 := ro.get m24
    have y4 := y4.get m24
    clear gm24
    refine ⟨_, Cell.mk bx5 rfl, ?_⟩
    conv => whnf
    rw [he]
    conv => whnf
    refine ⟨[0, 1, 2, 3, 4, 5, 6, 7, 8], [0, 0, 2, 6, 0, 16, 62, 127, 255], by kernel_rfl, ?_⟩
    conv => whnf
    refine ⟨kn k, rfl, kn_lt _, ?_⟩
    conv => whnf
    refine ⟨_, Cell.mk w5.r13 (pair_at _ k), ?_⟩
    conv => whnf
    refine ⟨gC ((L k)[a], p3), Cells.mk b24 (Nat.le_of_ble_eq_true rfl) rfl, ?_⟩
    conv => whnf
    obtain ⟨xs, z1, z2, z3⟩ := (w5.bag k).app1 (show gOk ((hs2.push (.row true 6 [i64 0, i64 0, i64 0, i64 0, i64 0, .sl none 0])).set hs2.next (.row true 6 (gC ((L k)[a], p3)))) ((L k)[a], p3) from y4)
    refine ⟨_, _, z1, z2, by rw [show (T.at_ 35).bytes = 64 from rfl]; omega, by omega, fun p2 h6 hs6 hm6 hf6 => ?_⟩
    obtain ⟨b6, f6, m6⟩ := z3 p2 h6 hs6 hm6 hf6
    have w6 := w5.turnB k b6 m6 f6
    conv => whnf
    refine ⟨kn k, rfl, kn_lt k, ?_⟩
    conv => whnf
    refine ⟨_, _, w6.r13, pair_fit k, ?_⟩
    conv => whnf
    have w7 := w6.set k (.sl p2 ((L k).length + 1))
    have mS := w6.set13 k (.sl p2 ((L k).length + 1))
    have eR : updB (rowB PB L) k (.sl p2 ((L k).length + 1)) = rowB (updB PB k p2) (updB L k (L k ++ [(L k)[a]])) := by
      rw [← rowB_upd, List.length_append]
      rfl
    rw [eR] at w7
    have lkB : ∀ i, (∀ g ∈ updB L k (L k ++ [(L k)[a]]) i, GO g) ∧ (updB L k (L k ++ [(L k)[a]]) i).length ≤ 2000 * (j + 1) := updB_forall (Q := fun _ (l : List GV) => (∀ g ∈ l, GO g) ∧ l.length ≤ 2000 * (j + 1)) (fun i => ⟨(lk i).1, by have := (lk i).2; omega⟩) ⟨fun g hg => by
      rcases List.mem_append.1 hg with hg | hg
      · exact (lk k).1 g hg
      · have : g = (L k)[a] := by simpa using hg
        rw [this]
        exact (lk k).1 _ (List.getElem_mem hal), by rw [List.length_append]; have := (lk k).2; show (L k).length + 1 ≤ _; omega⟩
    have roB := ((ro5.get m6).get mS)
    rw [wrap_i64 (x := (j : Int) + 1) (by omega) (by omega)]
    refine ⟨_, Forget.cons rfl (Forget.cons rfl (Forget.cons rfl (Forget.cons rfl (Forget.cons rfl (Forget.cons rfl (Forget.cons rfl (Forget.nil _))))))), ⟨j + 1, _, now, PC, W, (updB PB k p2), (updB L k (L k ++ [(L k)[a]])), by omega, by omega, by omega, by omega, w7, (fun k => (ck k).mono), lkB, roB, rfl⟩, ?_⟩
    show ((m : Int) - ((j : Int) + 1)).toNat < ((m : Int) - (j : Int)).toNat
    omega
  · rw [he]
    conv => whnf
    refine ⟨_, Cell.mk bx rfl, ?_⟩
    conv => whnf
    refine (round19 (m := 5) (by decide) (by decide) _ _).mono ?_
    rintro _ hs2 ⟨ehs, rfl⟩
    rw [← ehs] at w ro
    clear ehs bx ob0 og0
    have hr0 := Int.emod_nonneg e.n (show (5 : Int) ≠ 0 by decide)
    have hr1 := Int.emod_lt_of_pos e.n (show (0 : Int) < 5 by decide)
    generalize e.n % 5 = rr at hr0 hr1 ⊢
    conv => whnf
    rw [wrap_i64 (x := now + rr) (by omega) (by omega)]
    obtain ⟨q1, q2⟩ := (ck k).pass hm2 (now + rr)
    have q3 := pass_len (ck k).ok (now + rr)
    refine ⟨kn k, rfl, kn_lt _, ?_⟩
    conv => whnf
    refine ⟨_, Cell.mk w.r7 (pair_at _ k), ?_⟩
    conv => whnf
    refine (cPass (w.chan k) (ck k).ok ((ck k).room hm2).1 (by omega) (by omega)).mono ?_
    rintro _ h3 ⟨qa, pc3, rfl, ga, s3, hp3, m3⟩
    have w3 := w.turnC k s3 m3 hp3
    conv => whnf
    refine ⟨_, rfl, ?_⟩
    conv => whnf
    refine ⟨_, rfl, ?_⟩
    conv => whnf
    refine ⟨kn k, rfl, kn_lt _, ?_⟩
    conv => whnf
    refine ⟨_, Cell.mk w3.r8 (pair_at _ k), ?_⟩
    conv => whnf
    refine (rPass (w3.rch k) (ck k).ok ((ck k).room hm2).1 (by omega) (by omega)).mono ?_
    rintro _ h4 ⟨qb, rfl, gb, s4, m4⟩
    have wf := w3.turnR k s4 m4
    have ga := ga.get m4
    have rof := (ro.get m3).get m4
    conv => whnf
    refine ⟨_, rfl, ?_⟩
    conv => whnf
    refine ⟨_, rfl, ?_⟩
    conv => whnf
    refine br_mk (fun hI => ?_) (fun hI => ?_)
    · exact absurd hI (by simp)
    conv => whnf
    have ck2 := updB_forall (Q := fun _ v => CHk v conn (j + 1)) (fun k => (ck k).mono) (k := k) q1
    have lk2 := lk
    refine ⟨[0, 1, 2, 3, 4, 5, 6, 7, 9, 10, 11, 12, 13, 14, 15, 8, 16, 17, 18, 19, 20, 21, 23, 22, 24, 25, 26, 27, 28, 29, 30, 31, 32, 34, 35, 36, 37, 38, 39, 33, 40, 41, 42], [0, 0, 3, 7, 15, 31, 63, 127, 255, 31, 543, 1567, 3615, 7711, 15903, 32287, 65535, 131071, 262143, 524287, 1048575, 2097151, 4194303, 524287, 16777215, 33554431, 67108863, 134217727, 268435455, 536870911, 1073741823, 2147483647, 4294967295, 8589934591, 134217727, 17314086911, 51673825279, 120393302015, 257832255487, 532710162431, 1099511627775, 2199023255551, 4398046511103], by kernel_rfl, ?_⟩
    conv => whnf
    refine (alike64 ga gb (fun g hg => (q2 g hg).oct) (by omega)).mono ?_
    rintro _ h7 ⟨rfl, m7⟩
    have w7 := wf.old m7
    have gb7 := gb.get m7
    have ro7 := rof.get m7
    obtain ⟨po8, bx8, _⟩ := (w7.rch k).box
    conv => whnf
    refine ⟨kn k, rfl, kn_lt _, ?_⟩
    conv => whnf
    refine ⟨_, Cell.mk w7.r7 (pair_at _ k), ?_⟩
    conv => whnf
    refine ⟨kn k, rfl, kn_lt _, ?_⟩
    conv => whnf
    refine ⟨_, Cell.mk w7.r8 (pair_at _ k), ?_⟩
    conv => whnf
    refine ⟨_, Cell.mk bx8 rfl, ?_⟩
    conv => whnf
    refine (cOwed (w7.chan k)).mono ?_
    rintro _ h8 ⟨eh, rfl⟩
    subst eh
    conv => whnf
    refine ⟨⟨_, Cell.mk bx8 rfl, rfl⟩, ?_⟩
    conv => whnf
    refine ⟨⟨_, Cell.mk w7.r8 (pair_at _ k), rfl⟩, ?_⟩
    conv => whnf
    refine br_mk (fun hI => ?_) (fun hI => ?_)
    · exact absurd hI (by simp)
    conv => whnf
    refine ⟨kn k, rfl, kn_lt _, ?_⟩
    conv => whnf
    refine ⟨_, Cell.mk w7.r7 (pair_at _ k), ?_⟩
    conv => whnf
    refine (cConn (w7.chan k)).mono ?_
    rintro _ h8 ⟨eh, rfl⟩
    subst eh
    rw [(ck2 k).conn]
    conv => whnf
    refine br_mk (fun hI => ?_) (fun hI => ?_)
    · exact absurd hI (by simp)
    conv => whnf
    refine ⟨kn k, rfl, kn_lt _, ?_⟩
    conv => whnf
    refine ⟨_, Cell.mk w7.r7 (pair_at _ k), ?_⟩
    conv => whnf
    refine ⟨_, Cell.mk (w7.chan k).box rfl, ?_⟩
    conv => whnf
    refine ⟨kn k, rfl, kn_lt _, ?_⟩
    conv => whnf
    refine ⟨_, Cell.mk w7.r8 (pair_at _ k), ?_⟩
    conv => whnf
    refine ⟨_, Cell.mk bx8 rfl, ?_⟩
    conv => whnf
    refine (cRoom (w7.chan k).sd (ck2 k).ok.s).mono ?_
    rintro _ h8 ⟨eh, rfl⟩
    subst eh
    conv => whnf
    refine ⟨⟨_, Cell.mk bx8 rfl, rfl⟩, ?_⟩
    conv => whnf
    refine ⟨⟨_, Cell.mk w7.r8 (pair_at _ k), rfl⟩, ?_⟩
    conv => whnf
    refine (rRoomC (w7.rch k).sd (ck2 k).ok.s).mono ?_
    rintro _ h8 ⟨eh, rfl⟩
    subst eh
    conv => whnf
    refine br_mk (fun hI => ?_) (fun hI => ?_)
    · exact absurd hI (by simp)
    conv => whnf
    refine ⟨kn k, rfl, kn_lt _, ?_⟩
    conv => whnf
    refine ⟨_, Cell.mk w7.r13 (pair_at _ k), ?_⟩
    conv => whnf
    have hl2 := (lk2 k).2
    obtain ⟨xs, ys, y1, y2, y3⟩ := (w7.bag k).app gb7
    refine ⟨_, _, y1, y2, by rw [show (T.at_ 35).bytes = 64 from rfl]; omega, by omega, fun p9 h9 hs9 hm9 hf9 => ?_⟩
    obtain ⟨b9, f9⟩ := y3 p9 h9 hs9 hm9 hf9
    have w9 := w7.turnB k b9 hm9 f9
    conv => whnf
    refine ⟨kn k, rfl, kn_lt _, ?_⟩
    conv => whnf
    refine ⟨_, _, w9.r13, pair_fit k, ?_⟩
    conv => whnf
    have wA := w9.set k (.sl p9 ((L k).length + ((passV (W k) (now + rr)).1.1).length))
    have mA := w9.set13 k (.sl p9 ((L k).length + ((passV (W k) (now + rr)).1.1).length))
    have eR : updB (rowB PB L) k (.sl p9 ((L k).length + ((passV (W k) (now + rr)).1.1).length)) = rowB (updB PB k p9) (updB L k (L k ++ (passV (W k) (now + rr)).1.1)) := by
      rw [show (L k).length + ((passV (W k) (now + rr)).1.1).length = (L k ++ (passV (W k) (now + rr)).1.1).length from List.length_append.symm]
      exact rowB_upd _ _ _ _ _
    rw [eR] at wA
    have lkF : ∀ i, (∀ gg ∈ updB L k (L k ++ (passV (W k) (now + rr)).1.1) i, GO gg) ∧ (updB L k (L k ++ (passV (W k) (now + rr)).1.1) i).length ≤ 2000 * (j + 1) := updB_forall (k := k) (f := L) (v := L k ++ (passV (W k) (now + rr)).1.1) (Q := fun _ (l : List GV) => (∀ g ∈ l, GO g) ∧ l.length ≤ 2000 * (j + 1)) (fun i => ⟨(lk2 i).1, by have := (lk2 i).2; omega⟩) ⟨fun g hg => by
      rcases List.mem_append.1 hg with hg | hg
      · exact (lk2 k).1 g hg
      · exact q2 g hg, by rw [List.length_append]; omega⟩
    have roF := (ro7.get hm9).get mA
    rw [wrap_i64 (x := (j : Int) + 1) (by omega) (by omega)]
    refine ⟨_, Forget.cons rfl (Forget.cons rfl (Forget.cons rfl (Forget.cons rfl (Forget.cons rfl (Forget.cons rfl (Forget.cons rfl (Forget.nil _))))))), ⟨j + 1, _, (now + rr), _, _, (updB PB k p9), (updB L k (L k ++ (passV (W k) (now + rr)).1.1)), by omega, by omega, by omega, by omega, wA, ck2, lkF, roF, rfl⟩, ?_⟩
    show ((m : Int) - ((j : Int) + 1)).toNat < ((m : Int) - (j : Int)).toNat
    omega
  · rw [he]
    conv => whnf
    have hgo : GO e.g := ⟨og1, og2, by omega⟩
    have q7 := (ck k).recv hm2 now hgo
    obtain ⟨q1, q6, q2, q8⟩ := q7
    have q3 := recv_len (ck k).ok now e.g
    refine ⟨[0, 1, 2, 3, 4, 5, 6, 7, 8, 9, 10, 11], [0, 1, 3, 0, 0, 16, 63, 127, 255, 255, 511, 2047], by kernel_rfl, ?_⟩
    conv => whnf
    refine ⟨kn k, rfl, kn_lt _, ?_⟩
    conv => whnf
    refine ⟨_, Cell.mk w.r7 (pair_at _ k), ?_⟩
    conv => whnf
    refine ⟨gC (e.g, e.gp), Cells.mk bx (Nat.le_of_ble_eq_true rfl) rfl, ?_⟩
    conv => whnf
    refine (cRecv (g := e.g) (p := e.gp) (w.chan k) (ck k).ok ((ck k).room hm2).1 ((ck k).room hm2).2.1 hnow0 hnow1 (fun h' m => ((show RoSl _ _ _ _ _ from og0).get m).is) hgo.seq hgo.len).mono ?_
    rintro _ h3 ⟨qr, qa, pc3, rfl, ra, ga, s3, hp3, m3⟩
    have w3 := w.turnC k s3 m3 hp3
    have bx3 := m3.get bx (.inl (nx1 k))
    conv => whnf
    refine ⟨_, rfl, ?_⟩
    conv => whnf
    refine ⟨_, rfl, ?_⟩
    conv => whnf
    refine ⟨[0, 1, 2, 3, 4, 5, 6, 7, 8, 9, 10, 11], [0, 1, 3, 0, 0, 16, 63, 127, 255, 255, 511, 2047], by kernel_rfl, ?_⟩
    conv => whnf
    refine ⟨kn k, rfl, kn_lt _, ?_⟩
    conv => whnf
    refine ⟨_, Cell.mk w3.r8 (pair_at _ k), ?_⟩
    conv => whnf
    refine ⟨gC (e.g, e.gp), Cells.mk bx3 (Nat.le_of_ble_eq_true rfl) rfl, ?_⟩
    conv => whnf
    refine (rRecv (g := e.g) (p := e.gp) (w3.rch k) (ck k).ok ((ck k).room hm2).1 ((ck k).room hm2).2.1 hnow0 hnow1 (fun h' m => (((show RoSl _ _ _ _ _ from og0).get m3).get m).is) hgo.seq hgo.len).mono ?_
    rintro _ h4 ⟨qr', qb, rfl, rb, gb, s4, m4⟩
    have wf := w3.turnR k s4 m4
    have ga := ga.get m4
    have ra := ra.get m4
    have rof := (ro.get m3).get m4
    conv => whnf
    refine ⟨_, rfl, ?_⟩
    conv => whnf
    refine ⟨_, rfl, ?_⟩
    conv => whnf
    refine (rows31 ra rb q6 q6 (by omega)).mono ?_
    rintro _ h5 ⟨eh, rfl⟩
    subst eh
    rw [decide_eq_true rfl]
    conv => whnf
    have ck2 := updB_forall (Q := fun _ v => CHk v conn (j + 1)) (fun k => (ck k).mono) (k := k) q1
    have lk2 := lk
    generalize updB PC k pc3 = PC2 at wf
    refine ⟨[0, 1, 2, 3, 4, 5, 6, 7, 9, 10, 11, 12, 13, 14, 15, 8, 16, 17, 18, 19, 20, 21, 23, 22, 24, 25, 26, 27, 28, 29, 30, 31, 32, 34, 35, 36, 37, 38, 39, 33, 40, 41, 42], [0, 0, 3, 7, 15, 31, 63, 127, 255, 31, 543, 1567, 3615, 7711, 15903, 32287, 65535, 131071, 262143, 524287, 1048575, 2097151, 4194303, 524287, 16777215, 33554431, 67108863, 134217727, 268435455, 536870911, 1073741823, 2147483647, 4294967295, 8589934591, 134217727, 17314086911, 51673825279, 120393302015, 257832255487, 532710162431, 1099511627775, 2199023255551, 4398046511103], by kernel_rfl, ?_⟩
    conv => whnf
    refine (alike64 ga gb (fun g hg => (q2 g hg).oct) (by omega)).mono ?_
    rintro _ h7 ⟨rfl, m7⟩
    have w7 := wf.old m7
    have gb7 := gb.get m7
    have ro7 := rof.get m7
    obtain ⟨po8, bx8, _⟩ := (w7.rch k).box
    conv => whnf
    refine ⟨kn k, rfl, kn_lt _, ?_⟩
    conv => whnf
    refine ⟨_, Cell.mk w7.r7 (pair_at _ k), ?_⟩
    conv => whnf
    refine ⟨kn k, rfl, kn_lt _, ?_⟩
    conv => whnf
    refine ⟨_, Cell.mk w7.r8 (pair_at _ k), ?_⟩
    conv => whnf
    refine ⟨_, Cell.mk bx8 rfl, ?_⟩
    conv => whnf
    refine (cOwed (w7.chan k)).mono ?_
    rintro _ h8 ⟨eh, rfl⟩
    subst eh
    conv => whnf
    refine ⟨⟨_, Cell.mk bx8 rfl, rfl⟩, ?_⟩
    conv => whnf
    refine ⟨⟨_, Cell.mk w7.r8 (pair_at _ k), rfl⟩, ?_⟩
    conv => whnf
    refine br_mk (fun hI => ?_) (fun hI => ?_)
    · exact absurd hI (by simp)
    conv => whnf
    refine ⟨kn k, rfl, kn_lt _, ?_⟩
    conv => whnf
    refine ⟨_, Cell.mk w7.r7 (pair_at _ k), ?_⟩
    conv => whnf
    refine (cConn (w7.chan k)).mono ?_
    rintro _ h8 ⟨eh, rfl⟩
    subst eh
    rw [(ck2 k).conn]
    conv => whnf
    refine br_mk (fun hI => ?_) (fun hI => ?_)
    · exact absurd hI (by simp)
    conv => whnf
    refine ⟨kn k, rfl, kn_lt _, ?_⟩
    conv => whnf
    refine ⟨_, Cell.mk w7.r7 (pair_at _ k), ?_⟩
    conv => whnf
    refine ⟨_, Cell.mk (w7.chan k).box rfl, ?_⟩
    conv => whnf
    refine ⟨kn k, rfl, kn_lt _, ?_⟩
    conv => whnf
    refine ⟨_, Cell.mk w7.r8 (pair_at _ k), ?_⟩
    conv => whnf
    refine ⟨_, Cell.mk bx8 rfl, ?_⟩
    conv => whnf
    refine (cRoom (w7.chan k).sd (ck2 k).ok.s).mono ?_
    rintro _ h8 ⟨eh, rfl⟩
    subst eh
    conv => whnf
    refine ⟨⟨_, Cell.mk bx8 rfl, rfl⟩, ?_⟩
    conv => whnf
    refine ⟨⟨_, Cell.mk w7.r8 (pair_at _ k), rfl⟩, ?_⟩
    conv => whnf
    refine (rRoomC (w7.rch k).sd (ck2 k).ok.s).mono ?_
    rintro _ h8 ⟨eh, rfl⟩
    subst eh
    conv => whnf
    refine br_mk (fun hI => ?_) (fun hI => ?_)
    · exact absurd hI (by simp)
    conv => whnf
    refine ⟨kn k, rfl, kn_lt _, ?_⟩
    conv => whnf
    refine ⟨_, Cell.mk w7.r13 (pair_at _ k), ?_⟩
    conv => whnf
    have hl2 := (lk2 k).2
    obtain ⟨xs, ys, y1, y2, y3⟩ := (w7.bag k).app gb7
    refine ⟨_, _, y1, y2, by rw [show (T.at_ 35).bytes = 64 from rfl]; omega, by omega, fun p9 h9 hs9 hm9 hf9 => ?_⟩
    obtain ⟨b9, f9⟩ := y3 p9 h9 hs9 hm9 hf9
    have w9 := w7.turnB k b9 hm9 f9
    conv => whnf
    refine ⟨kn k, rfl, kn_lt _, ?_⟩
    conv => whnf
    refine ⟨_, _, w9.r13, pair_fit k, ?_⟩
    conv => whnf
    have wA := w9.set k (.sl p9 ((L k).length + ((recvV (W k) now e.g).1.2).length))
    have mA := w9.set13 k (.sl p9 ((L k).length + ((recvV (W k) now e.g).1.2).length))
    have eR : updB (rowB PB L) k (.sl p9 ((L k).length + ((recvV (W k) now e.g).1.2).length)) = rowB (updB PB k p9) (updB L k (L k ++ (recvV (W k) now e.g).1.2)) := by
      rw [show (L k).length + ((recvV (W k) now e.g).1.2).length = (L k ++ (recvV (W k) now e.g).1.2).length from List.length_append.symm]
      exact rowB_upd _ _ _ _ _
    rw [eR] at wA
    have lkF : ∀ i, (∀ gg ∈ updB L k (L k ++ (recvV (W k) now e.g).1.2) i, GO gg) ∧ (updB L k (L k ++ (recvV (W k) now e.g).1.2) i).length ≤ 2000 * (j + 1) := updB_forall (k := k) (f := L) (v := L k ++ (recvV (W k) now e.g).1.2) (Q := fun _ (l : List GV) => (∀ g ∈ l, GO g) ∧ l.length ≤ 2000 * (j + 1)) (fun i => ⟨(lk2 i).1, by have := (lk2 i).2; omega⟩) ⟨fun g hg => by
      rcases List.mem_append.1 hg with hg | hg
      · exact (lk2 k).1 g hg
      · exact q2 g hg, by rw [List.length_append]; omega⟩
    have roF := (ro7.get hm9).get mA
    rw [wrap_i64 (x := (j : Int) + 1) (by omega) (by omega)]
    refine ⟨_, Forget.cons rfl (Forget.cons rfl (Forget.cons rfl (Forget.cons rfl (Forget.cons rfl (Forget.cons rfl (Forget.cons rfl (Forget.nil _))))))), ⟨j + 1, _, now, _, _, (updB PB k p9), (updB L k (L k ++ (recvV (W k) now e.g).1.2)), by omega, by omega, by omega, by omega, wA, ck2, lkF, roF, rfl⟩, ?_⟩
    show ((m : Int) - ((j : Int) + 1)).toNat < ((m : Int) - (j : Int)).toNat
    omega
  · skip
    refine br_mk (fun hI => ?_) (fun hI => ?_)
    · exact absurd (by simpa using hI) he1
    conv => whnf
    refine br_mk (fun hI => ?_) (fun hI => ?_)
    · exact absurd (by simpa using hI) he2
    conv => whnf
    refine br_mk (fun hI => ?_) (fun hI => ?_)
    · exact absurd (by simpa using hI) he3
    conv => whnf
    refine br_mk (fun hI => ?_) (fun hI => ?_)
    · exact absurd (by simpa using hI) he4
    conv => whnf
    refine br_mk (fun hI => ?_) (fun hI => ?_)
    · exact absurd (by simpa using hI) he5
    conv => whnf
    refine br_mk (fun hI => ?_) (fun hI => ?_)
    · exact absurd (by simpa using hI) he6
    conv => whnf
    have wf := w
    have rof := ro
    have ga : Grams hs none [] := Grams.nil _
    have gb : Grams hs none [] := Grams.nil _
    have q2 : ∀ g ∈ ([] : List GV), GO g := fun g hg => by cases hg
    have q3 : ([] : List GV).length ≤ 1016 := Nat.zero_le _
    have ck2 : ∀ k, CHk (W k) conn (j + 1) := fun k => (ck k).mono
    have lk2 := lk
    refine ⟨[0, 1, 2, 3, 4, 5, 6, 7, 9, 10, 11, 12, 13, 14, 15, 8, 16, 17, 18, 19, 20, 21, 23, 22, 24, 25, 26, 27, 28, 29, 30, 31, 32, 34, 35, 36, 37, 38, 39, 33, 40, 41, 42], [0, 0, 3, 7, 15, 31, 63, 127, 255, 31, 543, 1567, 3615, 7711, 15903, 32287, 65535, 131071, 262143, 524287, 1048575, 2097151, 4194303, 524287, 16777215, 33554431, 67108863, 134217727, 268435455, 536870911, 1073741823, 2147483647, 4294967295, 8589934591, 134217727, 17314086911, 51673825279, 120393302015, 257832255487, 532710162431, 1099511627775, 2199023255551, 4398046511103], by kernel_rfl, ?_⟩
    conv => whnf
    refine (alike64 ga gb (fun g hg => (q2 g hg).oct) (by omega)).mono ?_
    rintro _ h7 ⟨rfl, m7⟩
    have w7 := wf.old m7
    have gb7 := gb.get m7
    have ro7 := rof.get m7
    obtain ⟨po8, bx8, _⟩ := (w7.rch k).box
    conv => whnf
    refine ⟨kn k, rfl, kn_lt _, ?_⟩
    conv => whnf
    refine ⟨_, Cell.mk w7.r7 (pair_at _ k), ?_⟩
    conv => whnf
    refine ⟨kn k, rfl, kn_lt _, ?_⟩
    conv => whnf
    refine ⟨_, Cell.mk w7.r8 (pair_at _ k), ?_⟩
    conv => whnf
    refine ⟨_, Cell.mk bx8 rfl, ?_⟩
    conv => whnf
    refine (cOwed (w7.chan k)).mono ?_
    rintro _ h8 ⟨eh, rfl⟩
    subst eh
    conv => whnf
    refine ⟨⟨_, Cell.mk bx8 rfl, rfl⟩, ?_⟩
    conv => whnf
    refine ⟨⟨_, Cell.mk w7.r8 (pair_at _ k), rfl⟩, ?_⟩
    conv => whnf
    refine br_mk (fun hI => ?_) (fun hI => ?_)
    · exact absurd hI (by simp)
    conv => whnf
    refine ⟨kn k, rfl, kn_lt _, ?_⟩
    conv => whnf
    refine ⟨_, Cell.mk w7.r7 (pair_at _ k), ?_⟩
    conv => whnf
    refine (cConn (w7.chan k)).mono ?_
    rintro _ h8 ⟨eh, rfl⟩
    subst eh
    rw [(ck2 k).conn]
    conv => whnf
    refine br_mk (fun hI => ?_) (fun hI => ?_)
    · exact absurd hI (by simp)
    conv => whnf
    refine ⟨kn k, rfl, kn_lt _, ?_⟩
    conv => whnf
    refine ⟨_, Cell.mk w7.r7 (pair_at _ k), ?_⟩
    conv => whnf
    refine ⟨_, Cell.mk (w7.chan k).box rfl, ?_⟩
    conv => whnf
    refine ⟨kn k, rfl, kn_lt _, ?_⟩
    conv => whnf
    refine ⟨_, Cell.mk w7.r8 (pair_at _ k), ?_⟩
    conv => whnf
    refine ⟨_, Cell.mk bx8 rfl, ?_⟩
    conv => whnf
    refine (cRoom (w7.chan k).sd (ck2 k).ok.s).mono ?_
    rintro _ h8 ⟨eh, rfl⟩
    subst eh
    conv => whnf
    refine ⟨⟨_, Cell.mk bx8 rfl, rfl⟩, ?_⟩
    conv => whnf
    refine ⟨⟨_, Cell.mk w7.r8 (pair_at _ k), rfl⟩, ?_⟩
    conv => whnf
    refine (rRoomC (w7.rch k).sd (ck2 k).ok.s).mono ?_
    rintro _ h8 ⟨eh, rfl⟩
    subst eh
    conv => whnf
    refine br_mk (fun hI => ?_) (fun hI => ?_)
    · exact absurd hI (by simp)
    conv => whnf
    refine ⟨kn k, rfl, kn_lt _, ?_⟩
    conv => whnf
    refine ⟨_, Cell.mk w7.r13 (pair_at _ k), ?_⟩
    conv => whnf
    have hl2 := (lk2 k).2
    obtain ⟨xs, ys, y1, y2, y3⟩ := (w7.bag k).app gb7
    refine ⟨_, _, y1, y2, by rw [show (T.at_ 35).bytes = 64 from rfl]; omega, by omega, fun p9 h9 hs9 hm9 hf9 => ?_⟩
    obtain ⟨b9, f9⟩ := y3 p9 h9 hs9 hm9 hf9
    have w9 := w7.turnB k b9 hm9 f9
    conv => whnf
    refine ⟨kn k, rfl, kn_lt _, ?_⟩
    conv => whnf
    refine ⟨_, _, w9.r13, pair_fit k, ?_⟩
    conv => whnf
    have wA := w9.set k (.sl p9 ((L k).length + (([] : List GV)).length))
    have mA := w9.set13 k (.sl p9 ((L k).length + (([] : List GV)).length))
    have eR : updB (rowB PB L) k (.sl p9 ((L k).length + (([] : List GV)).length)) = rowB (updB PB k p9) (updB L k (L k ++ ([] : List GV))) := by
      rw [show (L k).length + (([] : List GV)).length = (L k ++ ([] : List GV)).length from List.length_append.symm]
      exact rowB_upd _ _ _ _ _
    rw [eR] at wA
    have lkF : ∀ i, (∀ gg ∈ updB L k (L k ++ ([] : List GV)) i, GO gg) ∧ (updB L k (L k ++ ([] : List GV)) i).length ≤ 2000 * (j + 1) := updB_forall (k := k) (f := L) (v := L k ++ ([] : List GV)) (Q := fun _ (l : List GV) => (∀ g ∈ l, GO g) ∧ l.length ≤ 2000 * (j + 1)) (fun i => ⟨(lk2 i).1, by have := (lk2 i).2; omega⟩) ⟨fun g hg => by
      rcases List.mem_append.1 hg with hg | hg
      · exact (lk2 k).1 g hg
      · exact q2 g hg, by rw [List.length_append]; omega⟩
    have roF := (ro7.get hm9).get mA
    rw [wrap_i64 (x := (j : Int) + 1) (by omega) (by omega)]
    refine ⟨_, Forget.cons rfl (Forget.cons rfl (Forget.cons rfl (Forget.cons rfl (Forget.cons rfl (Forget.cons rfl (Forget.cons rfl (Forget.nil _))))))), ⟨j + 1, _, now, _, _, (updB PB k p9), (updB L k (L k ++ ([] : List GV))), by omega, by omega, by omega, by omega, wA, ck2, lkF, roF, rfl⟩, ?_⟩
    show ((m : Int) - ((j : Int) + 1)).toNat < ((m : Int) - (j : Int)).toNat
    omega
end Go.Proofs.Ytoljllfbabahpaa
