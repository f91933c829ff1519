/- Files: File of the reference. -/
import Derived.Test.YtjjcalkeodfokaaR8
set_option linter.unusedVariables false
namespace Go.Proofs.Ytjjcalkeodfokaa
open Go Go.Ab
theorem flatB_snoc (k : Nat) (vs : List Int) (v : Int) : flatB k (vs ++ [v]) = flatB k vs ++ be v k := by
  rw [flatB_append]
  simp [flatB]
theorem fit_get {vs : List Int} (h : Fit 2 vs) {v : Int} (hv : v ∈ vs) : 0 ≤ v ∧ v < 65536 := by
  have := h v hv
  rw [two16] at this
  exact this
theorem mis2 {v : Int} (h : 0 ≤ v ∧ v < 65536) : misfit 2 v = false := by
  have e := bad_misfit (k := ((2 : Nat) : Int)) (v := v) (small_no (by decide) (by decide))
  exact e.symm.trans (bad_no (k := 2) (by decide) h.1 (by rw [two16]; exact h.2))
theorem num2 {h0 h : H} {g : Nat} {p : Option (Nat × Nat)} {vs : List Int} {v : Int} (w : NewW h0 h g p (mile ++ flatB 2 vs) false) (hv : 0 ≤ v ∧ v < 65536) (hl : vs.length ≤ 20000) :
    ACalls Try.prog 22 [.ptr (some (g, 0)), i64 2, i64 v] h (fun r h' => r = .tup [] ∧ ∃ q, WtrP h' g q (mile ++ flatB 2 (vs ++ [v])) false ∧ isFresh h p q ∧ Ab.Mod (foot g p) h h') := by
  refine (num21 w.1 (by
    rw [List.length_append, flatB_length]
    have : mile.length = 4 := rfl
    omega) 2 v).mono ?_
  rintro r h' ⟨e, q, k⟩
  rw [mis2 hv, if_neg (by decide)] at k
  refine ⟨e, q, ?_⟩
  rw [flatB_snoc, ← List.append_assoc]
  exact k
set_option maxHeartbeats 2000000 in
theorem file10 {h : H} (g : Gra) (ok : g.ok h) : ACalls Try.prog 10 [.agg g.cells] h (fun r h' => ∃ q, r = .tup [.sl q (encF g).length, .bool (mayG g)] ∧ Oct h' q (encF g).length (encF g) ∧ Ab.Mod none_ h h') := by
  refine call_ Try.func10 rfl rfl (by kernel_rfl) ?_
  conv => whnf
  have mm := Mod.push none_ h (.row true 3 g.cells)
  have gb : (h.push (.row true 3 g.cells)).obj h.next = some (.row true 3 g.cells) := H.obj_push_new _ _
  refine ⟨_, Cells.mk gb (Nat.le_of_ble_eq_true rfl) rfl, ?_⟩
  conv => whnf
  refine (may21 g (ok.old mm (fun _ _ k => k))).mono ?_
  rintro _ h0 ⟨rfl, m1⟩
  have gb := m1.get gb (.inl (fun k => k))
  have mm := mod_none mm m1
  clear m1
  have ok := ok.old mm (fun _ _ k => k)
  conv => whnf
  refine br_mk (fun hb => ?_) (fun hb => ?_)
  · conv => whnf
    have hb : mayG g = false := by simpa using hb
    rw [encF, hb, if_neg (by decide)]
    exact ⟨none, rfl, Oct.nil _ _, mm⟩
  conv => whnf
  have hb : mayG g = true := by simpa using hb
  have hsz := mayG_size hb
  have m2 := Mod.push none_ h0 (.row true 1 (ints .u8 mile))
  have gm : (h0.push (.row true 1 (ints .u8 mile))).obj h0.next = some (.row true 1 (ints .u8 mile)) := H.obj_push_new _ _
  refine ⟨_, _, gm, ?_⟩
  have hn0 := h0.lt _ _ gb
  have w : NewW h0 ((h0.push (.row true 1 (ints .u8 mile))).push (.row true 2 [.sl (some (h0.next, 0)) 4, .bool false])) (h0.next + 1) (some (h0.next, 0)) (mile ++ flatB 2 []) false := by
    have m3 := Mod.push none_ (h0.push (.row true 1 (ints .u8 mile))) (.row true 2 [.sl (some (h0.next, 0)) 4, .bool false])
    refine ⟨⟨H.obj_push_new (h0.push (.row true 1 (ints .u8 mile))) _, SlIs.row (n := 4) (m3.get gm (.inl (fun k => k))) rfl, fun i o e => ?_⟩, fun i k => ?_, mod_none m2 m3⟩
    · injection e with e
      injection e with e
      omega
    · rcases k with k | ⟨o, k⟩
      · omega
      · injection k with k
        injection k with k
        omega
  have kb : Kp _ (h0.next + 1) (some (h0.next, 0)) h.next (.row true 3 g.cells) := ⟨w.2.2.get gb (.inl (fun k => k)), fun k => by
    rcases k with k | ⟨o, k⟩
    · omega
    · injection k with k
      injection k with k
      omega⟩
  clear gm m2
  conv => whnf
  generalize hbx : h.next = bx at *
  refine ⟨_, Cell.mk kb.1 rfl, ?_⟩
  conv => whnf
  refine (num2 w (vs := []) (v := (g.ns.length : Int)) ⟨by omega, by omega⟩ (by
    exact Nat.zero_le _)).mono ?_
  rintro _ _ ⟨rfl, q, wq, fq, mq⟩
  have kb := kb.step fq mq
  have w := w.step' wq fq mq
  conv => whnf
  refine ⟨_, Cell.mk kb.1 rfl, ?_⟩
  conv => whnf
  refine (num2 w (vs := ([] ++ [(g.ns.length : Int)])) (v := (g.es.length : Int)) ⟨by omega, by omega⟩ (by
    exact Nat.le_of_ble_eq_true rfl)).mono ?_
  rintro _ _ ⟨rfl, q, wq, fq, mq⟩
  have kb := kb.step fq mq
  have w := w.step' wq fq mq
  conv => whnf
  refine ⟨_, Cell.mk kb.1 rfl, ?_⟩
  conv => whnf
  refine (num2 w (vs := (([] ++ [(g.ns.length : Int)]) ++ [(g.es.length : Int)])) (v := (g.bs.length : Int)) ⟨by omega, by omega⟩ (by
    exact Nat.le_of_ble_eq_true rfl)).mono ?_
  rintro _ _ ⟨rfl, q, wq, fq, mq⟩
  have kb := kb.step fq mq
  have w := w.step' wq fq mq
  conv => whnf
  have w : NewW h0 _ (h0.next + 1) _ (mile ++ flatB 2 (headN g)) false := w
  refine ⟨fun env hh => ∃ (j : Nat) (z : Int) (p : Option (Nat × Nat)), j ≤ g.ns.length ∧ z = j ∧ NewW h0 hh (h0.next + 1) p (mile ++ flatB 2 (headN g ++ (g.ns.take j).flatMap pN)) false ∧ Kp hh (h0.next + 1) p bx (.row true 3 g.cells) ∧ env = [(5, i64 z), (4, .ptr (some (h0.next + 1, 0))), (1, .ptr (some (bx, 0)))],
    fun env _ => match get env 5 with
      | .int _ z => (g.ns.length - z).toNat
      | _ => 0, ⟨_, Forget.cons rfl (Forget.cons rfl (Forget.cons rfl (Forget.nil _))), 0, _, _, Nat.zero_le _, rfl, (by
        rw [List.take_zero, List.flatMap_nil, List.append_nil]
        exact w), kb, rfl⟩, ?_⟩
  clear w kb
  rintro _ hx1 ⟨j, z, p, hj, rfl, w, kb, rfl⟩
  conv => whnf
  refine ⟨_, Cell.mk kb.1 rfl, ?_⟩
  conv => whnf
  refine br_mk (fun hd => ?_) (fun hd => ?_)
  · conv => whnf
    simp at hd
    have hf := fit_node hb hd
    have hlen := lenn hb j
    obtain ⟨i0, c0, e1, k1, k2⟩ := sls_get pC_len (SlIs.old ok.n w.2.2 (fun _ _ k => k)) rfl hd
    refine ⟨_, Cell.mk kb.1 rfl, ?_⟩
    conv => whnf
    refine ⟨i0, c0, j, e1, rfl, hd, ?_⟩
    conv => whnf
    refine ⟨_, k2 0 (i64 g.ns[j].1) rfl, ?_⟩
    clear k1 k2 e1
    conv => whnf
    refine (num2 w (vs := (headN g ++ (g.ns.take j).flatMap pN)) (v := g.ns[j].1) (fit_get hf (by simp [pN])) (by
      (try simp only [List.length_append, List.length_cons, List.length_nil] at *) <;> omega)).mono ?_
    rintro _ _ ⟨rfl, q, wq, fq, mq⟩
    have kb := kb.step fq mq
    have w := w.step' wq fq mq
    conv => whnf
    obtain ⟨i1, c1, e1, k1, k2⟩ := sls_get pC_len (SlIs.old ok.n w.2.2 (fun _ _ k => k)) rfl hd
    refine ⟨_, Cell.mk kb.1 rfl, ?_⟩
    conv => whnf
    refine ⟨i1, c1, j, e1, rfl, hd, ?_⟩
    conv => whnf
    refine ⟨_, k2 1 (i64 g.ns[j].2) rfl, ?_⟩
    clear k1 k2 e1
    conv => whnf
    refine (num2 w (vs := ((headN g ++ (g.ns.take j).flatMap pN) ++ [g.ns[j].1])) (v := g.ns[j].2) (fit_get hf (by simp [pN])) (by
      (try simp only [List.length_append, List.length_cons, List.length_nil] at *) <;> omega)).mono ?_
    rintro _ _ ⟨rfl, q, wq, fq, mq⟩
    have kb := kb.step fq mq
    have w := w.step' wq fq mq
    conv => whnf
    have hs2 := succ_i64 (j := j) (n := g.ns.length) hd (by have := ok.ln; omega)
    refine ⟨_, Forget.cons rfl (Forget.cons rfl (Forget.cons rfl (Forget.nil _))), ⟨j + 1, _, _, by omega, hs2, ?_, kb, rfl⟩, ?_⟩
    · rw [flatMap_take hd]
      simpa [pN, List.append_assoc] using w
    show (g.ns.length - IntKind.i64.wrap ((j : Int) + 1)).toNat < (g.ns.length - (j : Int)).toNat
    rw [hs2]
    omega
  conv => whnf
  simp at hd
  rw [List.take_of_length_le hd] at w
  clear hd hj
  refine ⟨fun env hh => ∃ (j : Nat) (z : Int) (p : Option (Nat × Nat)), j ≤ g.es.length ∧ z = j ∧ NewW h0 hh (h0.next + 1) p (mile ++ flatB 2 ((headN g ++ g.ns.flatMap pN) ++ (g.es.take j).flatMap eN)) false ∧ Kp hh (h0.next + 1) p bx (.row true 3 g.cells) ∧ env = [(6, i64 z), (4, .ptr (some (h0.next + 1, 0))), (1, .ptr (some (bx, 0)))],
    fun env _ => match get env 6 with
      | .int _ z => (g.es.length - z).toNat
      | _ => 0, ⟨_, Forget.cons rfl (Forget.cons rfl (Forget.cons rfl (Forget.nil _))), 0, _, _, Nat.zero_le _, rfl, (by
        rw [List.take_zero, List.flatMap_nil, List.append_nil]
        exact w), kb, rfl⟩, ?_⟩
  clear w kb
  rintro _ hx2 ⟨j, z, p, hj, rfl, w, kb, rfl⟩
  conv => whnf
  refine ⟨_, Cell.mk kb.1 rfl, ?_⟩
  conv => whnf
  refine br_mk (fun hd => ?_) (fun hd => ?_)
  · conv => whnf
    simp at hd
    have hf := fit_edge hb hd
    have hlen := lene hb j
    obtain ⟨i0, c0, e1, k1, k2⟩ := sls_get eC_len (SlIs.old ok.e w.2.2 (fun _ _ k => k)) rfl hd
    refine ⟨_, Cell.mk kb.1 rfl, ?_⟩
    conv => whnf
    refine ⟨i0, c0, j, e1, rfl, hd, ?_⟩
    conv => whnf
    refine ⟨_, k2 0 (i64 g.es[j].1) rfl, ?_⟩
    clear k1 k2 e1
    conv => whnf
    refine (num2 w (vs := ((headN g ++ g.ns.flatMap pN) ++ (g.es.take j).flatMap eN)) (v := g.es[j].1) (fit_get hf (by simp [eN])) (by
      (try simp only [List.length_append, List.length_cons, List.length_nil] at *) <;> omega)).mono ?_
    rintro _ _ ⟨rfl, q, wq, fq, mq⟩
    have kb := kb.step fq mq
    have w := w.step' wq fq mq
    conv => whnf
    obtain ⟨i1, c1, e1, k1, k2⟩ := sls_get eC_len (SlIs.old ok.e w.2.2 (fun _ _ k => k)) rfl hd
    refine ⟨_, Cell.mk kb.1 rfl, ?_⟩
    conv => whnf
    refine ⟨i1, c1, j, e1, rfl, hd, ?_⟩
    conv => whnf
    refine ⟨_, k2 1 (i64 g.es[j].2.1) rfl, ?_⟩
    clear k1 k2 e1
    conv => whnf
    refine (num2 w (vs := (((headN g ++ g.ns.flatMap pN) ++ (g.es.take j).flatMap eN) ++ [g.es[j].1])) (v := g.es[j].2.1) (fit_get hf (by simp [eN])) (by
      (try simp only [List.length_append, List.length_cons, List.length_nil] at *) <;> omega)).mono ?_
    rintro _ _ ⟨rfl, q, wq, fq, mq⟩
    have kb := kb.step fq mq
    have w := w.step' wq fq mq
    conv => whnf
    obtain ⟨i2, c2, e1, k1, k2⟩ := sls_get eC_len (SlIs.old ok.e w.2.2 (fun _ _ k => k)) rfl hd
    refine ⟨_, Cell.mk kb.1 rfl, ?_⟩
    conv => whnf
    refine ⟨i2, c2, j, e1, rfl, hd, ?_⟩
    conv => whnf
    refine ⟨_, k2 2 (i64 g.es[j].2.2) rfl, ?_⟩
    clear k1 k2 e1
    conv => whnf
    refine (num2 w (vs := ((((headN g ++ g.ns.flatMap pN) ++ (g.es.take j).flatMap eN) ++ [g.es[j].1]) ++ [g.es[j].2.1])) (v := g.es[j].2.2) (fit_get hf (by simp [eN])) (by
      (try simp only [List.length_append, List.length_cons, List.length_nil] at *) <;> omega)).mono ?_
    rintro _ _ ⟨rfl, q, wq, fq, mq⟩
    have kb := kb.step fq mq
    have w := w.step' wq fq mq
    conv => whnf
    have hs2 := succ_i64 (j := j) (n := g.es.length) hd (by have := ok.le; omega)
    refine ⟨_, Forget.cons rfl (Forget.cons rfl (Forget.cons rfl (Forget.nil _))), ⟨j + 1, _, _, by omega, hs2, ?_, kb, rfl⟩, ?_⟩
    · rw [flatMap_take hd]
      simpa [eN, List.append_assoc] using w
    show (g.es.length - IntKind.i64.wrap ((j : Int) + 1)).toNat < (g.es.length - (j : Int)).toNat
    rw [hs2]
    omega
  conv => whnf
  simp at hd
  rw [List.take_of_length_le hd] at w
  clear hd hj
  refine ⟨fun env hh => ∃ (j : Nat) (z : Int) (p : Option (Nat × Nat)), j ≤ g.bs.length ∧ z = j ∧ NewW h0 hh (h0.next + 1) p (mile ++ flatB 2 (((headN g ++ g.ns.flatMap pN) ++ g.es.flatMap eN) ++ (g.bs.take j).flatMap pN)) false ∧ Kp hh (h0.next + 1) p bx (.row true 3 g.cells) ∧ env = [(7, i64 z), (4, .ptr (some (h0.next + 1, 0))), (1, .ptr (some (bx, 0)))],
    fun env _ => match get env 7 with
      | .int _ z => (g.bs.length - z).toNat
      | _ => 0, ⟨_, Forget.cons rfl (Forget.cons rfl (Forget.cons rfl (Forget.nil _))), 0, _, _, Nat.zero_le _, rfl, (by
        rw [List.take_zero, List.flatMap_nil, List.append_nil]
        exact w), kb, rfl⟩, ?_⟩
  clear w kb
  rintro _ hx3 ⟨j, z, p, hj, rfl, w, kb, rfl⟩
  conv => whnf
  refine ⟨_, Cell.mk kb.1 rfl, ?_⟩
  conv => whnf
  refine br_mk (fun hd => ?_) (fun hd => ?_)
  · conv => whnf
    simp at hd
    have hf := fit_ban hb hd
    have hlen := lenb hb j
    obtain ⟨i0, c0, e1, k1, k2⟩ := sls_get pC_len (SlIs.old ok.b w.2.2 (fun _ _ k => k)) rfl hd
    refine ⟨_, Cell.mk kb.1 rfl, ?_⟩
    conv => whnf
    refine ⟨i0, c0, j, e1, rfl, hd, ?_⟩
    conv => whnf
    refine ⟨_, k2 0 (i64 g.bs[j].1) rfl, ?_⟩
    clear k1 k2 e1
    conv => whnf
    refine (num2 w (vs := (((headN g ++ g.ns.flatMap pN) ++ g.es.flatMap eN) ++ (g.bs.take j).flatMap pN)) (v := g.bs[j].1) (fit_get hf (by simp [pN])) (by
      (try simp only [List.length_append, List.length_cons, List.length_nil] at *) <;> omega)).mono ?_
    rintro _ _ ⟨rfl, q, wq, fq, mq⟩
    have kb := kb.step fq mq
    have w := w.step' wq fq mq
    conv => whnf
    obtain ⟨i1, c1, e1, k1, k2⟩ := sls_get pC_len (SlIs.old ok.b w.2.2 (fun _ _ k => k)) rfl hd
    refine ⟨_, Cell.mk kb.1 rfl, ?_⟩
    conv => whnf
    refine ⟨i1, c1, j, e1, rfl, hd, ?_⟩
    conv => whnf
    refine ⟨_, k2 1 (i64 g.bs[j].2) rfl, ?_⟩
    clear k1 k2 e1
    conv => whnf
    refine (num2 w (vs := ((((headN g ++ g.ns.flatMap pN) ++ g.es.flatMap eN) ++ (g.bs.take j).flatMap pN) ++ [g.bs[j].1])) (v := g.bs[j].2) (fit_get hf (by simp [pN])) (by
      (try simp only [List.length_append, List.length_cons, List.length_nil] at *) <;> omega)).mono ?_
    rintro _ _ ⟨rfl, q, wq, fq, mq⟩
    have kb := kb.step fq mq
    have w := w.step' wq fq mq
    conv => whnf
    have hs2 := succ_i64 (j := j) (n := g.bs.length) hd (by have := ok.lb; omega)
    refine ⟨_, Forget.cons rfl (Forget.cons rfl (Forget.cons rfl (Forget.nil _))), ⟨j + 1, _, _, by omega, hs2, ?_, kb, rfl⟩, ?_⟩
    · rw [flatMap_take hd]
      simpa [pN, List.append_assoc] using w
    show (g.bs.length - IntKind.i64.wrap ((j : Int) + 1)).toNat < (g.bs.length - (j : Int)).toNat
    rw [hs2]
    omega
  conv => whnf
  simp at hd
  rw [List.take_of_length_le hd] at w
  clear hd hj
  have w : NewW h0 hx3 (h0.next + 1) p (bodyF g) false := w
  have hlb := bodyF_len hb
  refine ⟨_, Cell.mk w.1.1 rfl, ?_⟩
  conv => whnf
  refine (summed56 w.1.2.1.weak (by omega)).mono ?_
  rintro _ h9 ⟨q9, rfl, o9, m9⟩
  conv => whnf
  have e9 : bodyF g ++ sum4 (sumV (bodyF g)) = encF g := by rw [encF, hb, if_pos rfl]
  have l9 : (bodyF g).length + 4 = (encF g).length := by rw [← e9, List.length_append, sum4_length]
  rw [e9, l9] at o9
  rw [l9]
  exact ⟨q9, by rw [hb], o9, mod_none mm (mod_none w.2.2 m9)⟩
end Go.Proofs.Ytjjcalkeodfokaa
