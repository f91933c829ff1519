/- Rows of edges by a node of theirs: they never go beyond. -/
import Derived.Test.YtjjcalkeodfokaaR4
set_option linter.unusedVariables false
namespace Go.Proofs.Ytjjcalkeodfokaa
open Go Go.Ab
def cn (P : Nat → Bool) : Nat → Nat
  | 0 => 0
  | j + 1 => cn P j + (bif P j then 1 else 0)
theorem cn_le (P : Nat → Bool) : ∀ j, cn P j ≤ j
  | 0 => Nat.le_refl _
  | j + 1 => by
    have := cn_le P j
    rw [cn]
    cases P j <;> simp <;> omega
theorem cn_add {P Q R : Nat → Bool} : ∀ {j : Nat}, (∀ k, k < j → (bif R k then 1 else 0) = (bif P k then 1 else 0) + (bif Q k then 1 else 0)) → cn R j = cn P j + cn Q j
  | 0, _ => rfl
  | j + 1, h => by
    have := cn_add (j := j) (fun k hk => h k (by omega))
    have := h j (by omega)
    rw [cn, cn, cn]
    omega
theorem cn_mono (P : Nat → Bool) {i : Nat} : ∀ {j : Nat}, i ≤ j → cn P i ≤ cn P j
  | 0, h => by
    obtain rfl : i = 0 := by omega
    exact Nat.le_refl _
  | j + 1, h => by
    rcases Nat.lt_or_ge i (j + 1) with q | q
    · have := cn_mono P (i := i) (j := j) (by omega)
      rw [cn]
      omega
    · obtain rfl : i = j + 1 := by omega
      exact Nat.le_refl _
theorem cn_none {P : Nat → Bool} : ∀ {j : Nat}, (∀ k, k < j → P k = false) → cn P j = 0
  | 0, _ => rfl
  | j + 1, h => by
    rw [cn, cn_none (fun k hk => h k (by omega)), h j (by omega)]
    rfl
def tab (n : Nat) (F : Nat → Nat) : List Int := (List.range n).map fun v => (F v : Int)
theorem tab_len (n : Nat) (F : Nat → Nat) : (tab n F).length = n := by simp [tab]
theorem tab_get {n : Nat} {F : Nat → Nat} {j : Nat} (h : j < n) : (tab n F).getD j 0 = F j := by
  simp [tab, List.getD_eq_getElem?_getD, h]
theorem tab_set {n : Nat} {F F' : Nat → Nat} {j : Nat} (hj : j < n) (h : ∀ v, v < n → v ≠ j → F' v = F v) : (tab n F).set j (F' j) = tab n F' := by
  apply List.ext_getElem?
  intro i
  rw [List.getElem?_set]
  by_cases e : j = i
  · subst e
    simp [tab, hj]
  · rw [if_neg e]
    by_cases hi : i < n
    · simp [tab, hi, h i hi (Ne.symm e)]
    · simp [tab, hi]
theorem tab_zero (n : Nat) : List.replicate n (0 : Int) = tab n (fun _ => 0) := by
  apply List.ext_getElem?
  intro i
  rw [List.getElem?_replicate]
  by_cases hi : i < n
  · simp [tab, hi]
  · simp [tab, hi]
theorem own_put {h : H} {k : IntKind} {p : Option (Nat × Nat)} {n : Nat} {xs : List Int} (w : SlIs h p n true 1 (ints k xs)) {j : Nat} (hj : j < n) (v : Int) : ∃ i c sz cs, p = some (i, c) ∧ h.obj i = some (.row true sz cs) ∧ c + j * 1 + 1 ≤ cs.length ∧ SlIs (h.set i (.row true sz (splice cs (c + j * 1) [V.int k v]))) p n true 1 (ints k (xs.set j v)) := by
  obtain ⟨hl, hr⟩ := w
  rcases hr with ⟨rfl, _⟩ | ⟨i, c, o', r, rfl, e2, e3, e4, e5⟩
  · omega
  · obtain rfl := e3 rfl
    have hlen : (ints k xs).length = n * 1 := hl
    refine ⟨i, c, 1, r, rfl, e2, by omega, ⟨by rw [ints_length, List.length_set, ← ints_length k, hlen], .inr ⟨i, c, true, _, rfl, H.obj_set_same e2, fun e => e, ?_, ?_⟩⟩⟩
    · rw [splice_one, List.length_set]
      exact e4
    · rw [splice_one, Nat.mul_one, Nat.mul_one, List.drop_set, if_neg (by omega), List.take_set]
      rw [Nat.mul_one] at e5
      rw [e5, show c + j - c = j by omega]
      simp [ints, List.map_set]
def keyC (ks : Nat → Nat) (v : Nat) (k : Nat) : Bool := ks k + 1 == v
def keyB (ks : Nat → Nat) (v : Nat) (k : Nat) : Bool := decide (ks k < v)
theorem below_succ (ks : Nat → Nat) (E v : Nat) : cn (keyB ks (v + 1)) E = cn (keyB ks v) E + cn (keyC ks (v + 1)) E := cn_add fun k _ => by
  unfold keyB keyC
  by_cases h1 : ks k < v
  · have h2 : ks k < v + 1 := by omega
    have h3 : (ks k == v) = false := by simpa using (show ks k ≠ v by omega)
    simp [h1, h2, h3]
  · by_cases h4 : ks k = v
    · simp [h4]
    · have h2 : ¬ ks k < v + 1 := by omega
      have h5 : (ks k == v) = false := by simpa using h4
      simp [h1, h2, h5]
theorem next_lt (ks : Nat → Nat) {E j : Nat} (hj : j < E) : cn (keyB ks (ks j)) E + cn (keyC ks (ks j + 1)) j < E := by
  have h1 := below_succ ks E (ks j)
  have h2 := cn_le (keyB ks (ks j + 1)) E
  have h3 := cn_mono (keyC ks (ks j + 1)) (i := j + 1) (j := E) hj
  rw [cn] at h3
  have : keyC ks (ks j + 1) j = true := by simp [keyC]
  rw [this] at h3
  simp only [cond_true] at h3
  omega
set_option maxHeartbeats 2000000 in
theorem rows37 {h : H} (g : Gra) (ok : g.ok h) {f : Nat} {key : Int × Int × Int → Int} (hk : ∀ hh e, ACalls Try.prog f [.agg (eC e)] hh (fun v h' => v = i64 (key e) ∧ Ab.Mod none_ hh h')) (ks : Nat → Nat) (hks : ∀ j (hj : j < g.es.length), key g.es[j] = ks j ∧ ks j < g.ns.length) :
    ACalls Try.prog 37 [.agg g.cells, .fn f] h (fun r h' => (∃ q n q' n', r = .tup [.sl q n, .sl q' n']) ∧ Ab.Mod none_ h h') := by
  have l1 := ok.ln
  have l2 := ok.le
  refine call_ Try.func37 rfl rfl (by kernel_rfl) ?_
  conv => whnf
  have mm := Mod.push none_ h (.row true 3 g.cells)
  have gb : (h.push (.row true 3 g.cells)).obj h.next = some (.row true 3 g.cells) := H.obj_push_new _ _
  refine ⟨_, Cell.mk gb rfl, ?_⟩
  conv => whnf
  have hN : IntKind.i64.wrap ((g.ns.length : Int) + 1) = ((g.ns.length + 1 : Nat) : Int) := by
    rw [wrap_i64 (by omega) (by omega)]
    omega
  refine ⟨g.ns.length + 1, hN, hN, by omega, by rw [show (T.at_ 3).bytes = 8 from rfl]; omega, ?_⟩
  rw [show zerosV (g.ns.length + 1) (vcells (T.at_ 3).zero) = ints .i64 (tab (g.ns.length + 1) fun _ => 0) from by rw [← tab_zero]; exact zeros_ints _ _]
  have w0 : NewS (h.push (.row true 3 g.cells)) ((h.push (.row true 3 g.cells)).push (.row true (T.at_ 3).size (ints .i64 (tab (g.ns.length + 1) fun _ => 0)))) .i64 (some ((h.push (.row true 3 g.cells)).next, 0)) (g.ns.length + 1) (tab (g.ns.length + 1) fun v => cn (keyC ks v) 0) :=
    ⟨SlIs.row (H.obj_push_new _ _) (by rw [ints_length, tab_len, Nat.mul_one]), fun i o e => by
      injection e with e
      injection e with e
      omega, Mod.push none_ (h.push (.row true 3 g.cells)) _⟩
  conv => whnf
  have gb1 := w0.2.2.get gb (.inl (fun k => k))
  refine ⟨_, Cell.mk gb1 rfl, ?_⟩
  conv => whnf
  refine ⟨fun env hh => ∃ (j : Nat) (z : Int) (p : Option (Nat × Nat)), j ≤ g.es.length ∧ z = j ∧ NewS (h.push (.row true 3 g.cells)) hh .i64 p (g.ns.length + 1) (tab (g.ns.length + 1) fun v => cn (keyC ks v) j) ∧ env = [(20, i64 z), (19, i64 g.es.length), (18, .sl g.ep g.es.length), (5, .sl p (g.ns.length + 1)), (1, .fn f), (2, .ptr (some (h.next, 0)))],
    fun env _ => match get env 20 with
      | .int _ z => (g.es.length - z).toNat
      | _ => 0, ⟨_, Forget.cons rfl (Forget.cons rfl (Forget.cons rfl (Forget.cons rfl (Forget.cons rfl (Forget.cons rfl (Forget.nil _)))))), 0, _, _, Nat.zero_le _, rfl, w0, rfl⟩, ?_⟩
  clear w0 gb1
  rintro _ h1 ⟨j, z, p, hj, rfl, w, rfl⟩
  conv => whnf
  refine br_mk (fun hd => ?_) (fun hd => ?_)
  · conv => whnf
    simp at hd
    obtain ⟨i, c, e1, k1, k2⟩ := sls_get eC_len (SlIs.old ok.e (mod_none mm w.2.2) (fun _ _ k => k)) rfl hd
    refine ⟨i, c, j, e1, rfl, hd, ?_⟩
    conv => whnf
    refine ⟨_, k1, ?_⟩
    conv => whnf
    obtain ⟨g0, gx, mx⟩ := lay_row (h := h1) (sz := 3) [i64 0, i64 0, i64 0] (eC g.es[j])
    refine ⟨_, _, g0, Nat.le_of_ble_eq_true rfl, ?_⟩
    have w := w.keep mx
    clear k1 k2 g0 mx
    conv => whnf
    refine ⟨_, Cells.mk gx (Nat.le_of_ble_eq_true rfl) rfl, ?_⟩
    conv => whnf
    refine (hk _ _).mono ?_
    rintro _ h2 ⟨rfl, m2⟩
    have w := w.keep m2
    clear gx m2
    obtain ⟨k1, k2⟩ := hks j hd
    rw [k1]
    conv => whnf
    have hw : IntKind.i64.wrap ((ks j : Int) + 1) = ((ks j + 1 : Nat) : Int) := by
      rw [wrap_i64 (by omega) (by omega)]
      omega
    have hlt : ks j + 1 < g.ns.length + 1 := by omega
    obtain ⟨i1, c1, e2, kc⟩ := slo_get w.1 hlt
    refine ⟨i1, c1, ks j + 1, e2, hw, hlt, ?_⟩
    conv => whnf
    refine ⟨_, kc, ?_⟩
    conv => whnf
    refine ⟨i1, c1, ks j + 1, e2, hw, hlt, ?_⟩
    conv => whnf
    have hle := cn_le (keyC ks (ks j + 1)) j
    have hv : IntKind.i64.wrap ((tab (g.ns.length + 1) fun v => cn (keyC ks v) j).getD (ks j + 1) 0 + 1) = ((cn (keyC ks (ks j + 1)) (j + 1) : Nat) : Int) := by
      rw [tab_get hlt, cn, show keyC ks (ks j + 1) j = true by simp [keyC], wrap_i64 (by omega) (by omega)]
      simp
    rw [hv]
    obtain ⟨i2, c2, sz, cs, e3, e4, e5, w'⟩ := w.put hlt (cn (keyC ks (ks j + 1)) (j + 1) : Nat)
    rw [e2] at e3
    injection e3 with e3
    injection e3 with e3 e3'
    subst e3 e3'
    refine ⟨_, _, e4, e5, ?_⟩
    conv => whnf
    have hs2 := succ_i64 (j := j) (n := g.es.length) hd (by omega)
    rw [tab_set (F' := fun v => cn (keyC ks v) (j + 1)) hlt (fun v _ hv => by
      show cn (keyC ks v) (j + 1) = _
      rw [cn, show keyC ks v j = false by simp [keyC]; omega]
      rfl)] at w'
    refine ⟨_, Forget.cons rfl (Forget.cons rfl (Forget.cons rfl (Forget.cons rfl (Forget.cons rfl (Forget.cons rfl (Forget.nil _)))))), ⟨j + 1, _, p, by omega, hs2, w', rfl⟩, ?_⟩
    show (g.es.length - IntKind.i64.wrap ((j : Int) + 1)).toNat < (g.es.length - (j : Int)).toNat
    rw [hs2]
    omega
  conv => whnf
  simp at hd
  obtain rfl : j = g.es.length := by omega
  have gb1 := w.2.2.get gb (.inl (fun k => k))
  refine ⟨_, Cell.mk gb1 rfl, ?_⟩
  conv => whnf
  refine ⟨fun env hh => ∃ (j : Nat) (z : Int) (p : Option (Nat × Nat)), j ≤ g.ns.length ∧ z = j ∧ NewS (h.push (.row true 3 g.cells)) hh .i64 p (g.ns.length + 1) (tab (g.ns.length + 1) fun v => if v ≤ j then cn (keyB ks v) g.es.length else cn (keyC ks v) g.es.length) ∧ env = [(37, i64 z), (36, i64 g.ns.length), (5, .sl p (g.ns.length + 1)), (1, .fn f), (2, .ptr (some (h.next, 0)))],
    fun env _ => match get env 37 with
      | .int _ z => (g.ns.length - z).toNat
      | _ => 0, ⟨_, Forget.cons rfl (Forget.cons rfl (Forget.cons rfl (Forget.cons rfl (Forget.cons rfl (Forget.nil _))))), 0, _, p, Nat.zero_le _, rfl, ?_, rfl⟩, ?_⟩
  · have : (fun v => if v ≤ 0 then cn (keyB ks v) g.es.length else cn (keyC ks v) g.es.length) = fun v => cn (keyC ks v) g.es.length := by
      funext v
      by_cases hv : v ≤ 0
      · obtain rfl : v = 0 := by omega
        rw [if_pos hv, cn_none (fun k _ => by simp [keyB]), cn_none (fun k _ => by simp [keyC])]
      · rw [if_neg hv]
    rw [this]
    exact w
  clear w gb1 hd hj
  rintro _ h3 ⟨j, z, p, hj, rfl, w, rfl⟩
  conv => whnf
  refine br_mk (fun hd => ?_) (fun hd => ?_)
  · conv => whnf
    simp at hd
    have hw : IntKind.i64.wrap ((j : Int) + 1) = ((j + 1 : Nat) : Int) := by
      rw [wrap_i64 (by omega) (by omega)]
      omega
    have hlt : j + 1 < g.ns.length + 1 := by omega
    have hlt0 : j < g.ns.length + 1 := by omega
    obtain ⟨i1, c1, e2, kc⟩ := slo_get w.1 hlt
    obtain ⟨i2, c2, e3, kd⟩ := slo_get w.1 hlt0
    rw [e2] at e3
    injection e3 with e3
    injection e3 with e3 e3'
    subst e3 e3'
    refine ⟨[0, 1, 2, 3, 4, 5, 6, 7, 8, 9, 10, 11], [0, 0, 2, 7, 15, 0, 0, 96, 224, 511, 1023, 2047], by kernel_rfl, ?_⟩
    conv => whnf
    refine ⟨i1, c1, j + 1, e2, hw, hlt, ?_⟩
    conv => whnf
    refine ⟨_, kc, ?_⟩
    conv => whnf
    refine ⟨i1, c1, j, e2, rfl, hlt0, ?_⟩
    conv => whnf
    refine ⟨_, kd, ?_⟩
    conv => whnf
    refine ⟨i1, c1, j + 1, e2, hw, hlt, ?_⟩
    conv => whnf
    have hle := cn_le (keyB ks j) g.es.length
    have hle2 := cn_le (keyC ks (j + 1)) g.es.length
    have hv : IntKind.i64.wrap ((tab (g.ns.length + 1) fun v => if v ≤ j then cn (keyB ks v) g.es.length else cn (keyC ks v) g.es.length).getD (j + 1) 0 + (tab (g.ns.length + 1) fun v => if v ≤ j then cn (keyB ks v) g.es.length else cn (keyC ks v) g.es.length).getD j 0) = ((cn (keyB ks (j + 1)) g.es.length : Nat) : Int) := by
      rw [tab_get hlt, tab_get hlt0, if_pos (Nat.le_refl j), if_neg (by omega), below_succ, wrap_i64 (by omega) (by omega)]
      omega
    rw [hv]
    obtain ⟨i2, c2, sz, cs, e3, e4, e5, w'⟩ := w.put hlt (cn (keyB ks (j + 1)) g.es.length : Nat)
    rw [e2] at e3
    injection e3 with e3
    injection e3 with e3 e3'
    subst e3 e3'
    refine ⟨_, _, e4, e5, ?_⟩
    conv => whnf
    have ht : (tab (g.ns.length + 1) fun v => if v ≤ j then cn (keyB ks v) g.es.length else cn (keyC ks v) g.es.length).set (j + 1) (cn (keyB ks (j + 1)) g.es.length : Nat) = tab (g.ns.length + 1) fun v => if v ≤ j + 1 then cn (keyB ks v) g.es.length else cn (keyC ks v) g.es.length := by
      have := tab_set (n := g.ns.length + 1) (F := fun v => if v ≤ j then cn (keyB ks v) g.es.length else cn (keyC ks v) g.es.length) (F' := fun v => if v ≤ j + 1 then cn (keyB ks v) g.es.length else cn (keyC ks v) g.es.length) hlt (fun v _ hv => by
        show (if v ≤ j + 1 then cn (keyB ks v) g.es.length else cn (keyC ks v) g.es.length) = if v ≤ j then cn (keyB ks v) g.es.length else cn (keyC ks v) g.es.length
        by_cases q : v ≤ j
        · rw [if_pos q, if_pos (by omega)]
        · rw [if_neg q, if_neg (by omega)])
      simpa using this
    rw [ht] at w'
    refine ⟨_, Forget.cons rfl (Forget.cons rfl (Forget.cons rfl (Forget.cons rfl (Forget.cons rfl (Forget.nil _))))), ⟨j + 1, _, p, by omega, hw, w', rfl⟩, ?_⟩
    show (g.ns.length - IntKind.i64.wrap ((j : Int) + 1)).toNat < (g.ns.length - (j : Int)).toNat
    rw [hw]
    omega
  conv => whnf
  simp at hd
  obtain rfl : j = g.ns.length := by omega
  have ht : (tab (g.ns.length + 1) fun v => if v ≤ g.ns.length then cn (keyB ks v) g.es.length else cn (keyC ks v) g.es.length) = tab (g.ns.length + 1) fun v => cn (keyB ks v) g.es.length := by
    unfold tab
    apply List.map_congr_left
    intro v hv
    rw [List.mem_range] at hv
    show (((if v ≤ g.ns.length then cn (keyB ks v) g.es.length else cn (keyC ks v) g.es.length : Nat)) : Int) = _
    rw [if_pos (by omega)]
  rw [ht] at w
  clear ht hj hd
  obtain ⟨w1, -, m3⟩ := w
  have gb3 := m3.get gb (.inl (fun k => k))
  have mm := mod_none mm m3
  clear m3 gb
  refine ⟨_, Cell.mk gb3 rfl, ?_⟩
  conv => whnf
  refine ⟨g.es.length, rfl, rfl, by omega, by rw [show (T.at_ 3).bytes = 8 from rfl]; omega, ?_⟩
  rw [show zerosV g.es.length (vcells (T.at_ 3).zero) = ints .i64 (tab g.es.length fun _ => 0) from by rw [← tab_zero]; exact zeros_ints _ _]
  conv => whnf
  have m4 := Mod.push none_ h3 (.row true 1 (ints .i64 (tab g.es.length fun _ => 0)))
  have gr : (h3.push (.row true 1 (ints .i64 (tab g.es.length fun _ => 0)))).obj h3.next = some (.row true 1 (ints .i64 (tab g.es.length fun _ => 0))) := H.obj_push_new _ _
  have hn4 : (h3.push (.row true 1 (ints .i64 (tab g.es.length fun _ => 0)))).next = h3.next + 1 := rfl
  refine (clone46 (h := h3.push (.row true 1 (ints .i64 (tab g.es.length fun _ => 0)))) (SlIs.old w1.weak m4 (fun _ _ k => k)) (by omega)).mono ?_
  rintro _ h5 ⟨q, rfl, ⟨n1, n2⟩, m5⟩
  have gr := m5.get gr (.inl (fun k => k))
  have m5 := mod_none m4 m5
  have gb5 := m5.get gb3 (.inl (fun k => k))
  conv => whnf
  refine ⟨_, Cell.mk gb5 rfl, ?_⟩
  conv => whnf
  refine ⟨fun env hh => ∃ (j : Nat) (z : Int) (ys : List Int), j ≤ g.es.length ∧ z = j ∧ ys.length = g.es.length ∧ hh.obj h3.next = some (.row true 1 (ints .i64 ys)) ∧ SlIs hh q (g.ns.length + 1) true 1 (ints .i64 (tab (g.ns.length + 1) fun v => cn (keyB ks v) g.es.length + cn (keyC ks (v + 1)) j)) ∧ Ab.Mod none_ h3 hh ∧ env = [(61, i64 z), (60, i64 g.es.length), (59, .sl g.ep g.es.length), (4, .sl (some (h3.next, 0)) g.es.length), (9, .sl q (g.ns.length + 1)), (5, .sl p (g.ns.length + 1)), (1, .fn f), (2, .ptr (some (h.next, 0)))],
    fun env _ => match get env 61 with
      | .int _ z => (g.es.length - z).toNat
      | _ => 0, ⟨_, Forget.cons rfl (Forget.cons rfl (Forget.cons rfl (Forget.cons rfl (Forget.cons rfl (Forget.cons rfl (Forget.cons rfl (Forget.cons rfl (Forget.nil _)))))))), 0, _, _, Nat.zero_le _, rfl, tab_len _ _, gr, n1, m5, rfl⟩, ?_⟩
  clear n1 m5 gr gb5 m4
  rintro _ h6 ⟨j, z, ys, hj, rfl, hys, gr, nx, m6, rfl⟩
  conv => whnf
  refine br_mk (fun hd => ?_) (fun hd => ?_)
  rotate_left
  · conv => whnf
    exact ⟨⟨_, _, _, _, rfl⟩, mod_none mm m6⟩
  conv => whnf
  simp at hd
  have hn6 := h6.lt _ _ gr
  obtain ⟨i, c, e1, k1, k2⟩ := sls_get eC_len (SlIs.old ok.e (mod_none mm m6) (fun _ _ k => k)) rfl hd
  refine ⟨i, c, j, e1, rfl, hd, ?_⟩
  conv => whnf
  refine ⟨_, k1, ?_⟩
  conv => whnf
  obtain ⟨g0, gx, mx⟩ := lay_row (h := h6) (sz := 3) [i64 0, i64 0, i64 0] (eC g.es[j])
  refine ⟨_, _, g0, Nat.le_of_ble_eq_true rfl, ?_⟩
  have gr := mx.get gr (.inl (fun k => k))
  have nx := SlIs.old nx mx (fun _ _ k => k)
  have m6 := mod_none m6 mx
  clear k1 k2 g0 mx
  conv => whnf
  refine ⟨_, Cells.mk gx (Nat.le_of_ble_eq_true rfl) rfl, ?_⟩
  conv => whnf
  refine (hk _ _).mono ?_
  rintro _ h7 ⟨rfl, m7⟩
  have gx := m7.get gx (.inl (fun k => k))
  have gr := m7.get gr (.inl (fun k => k))
  have nx := SlIs.old nx m7 (fun _ _ k => k)
  have m6 := mod_none m6 m7
  clear m7
  obtain ⟨k1, k2⟩ := hks j hd
  rw [k1]
  conv => whnf
  have hlt : ks j < g.ns.length + 1 := by omega
  obtain ⟨i1, c1, e2, kc⟩ := slo_get nx hlt
  refine ⟨i1, c1, ks j, e2, rfl, hlt, ?_⟩
  conv => whnf
  refine ⟨_, kc, ?_⟩
  conv => whnf
  have hnl := next_lt ks hd
  have hv : (tab (g.ns.length + 1) fun v => cn (keyB ks v) g.es.length + cn (keyC ks (v + 1)) j).getD (ks j) 0 = ((cn (keyB ks (ks j)) g.es.length + cn (keyC ks (ks j + 1)) j : Nat) : Int) := tab_get hlt
  rw [hv]
  refine ⟨h3.next, 0, _, rfl, rfl, hnl, ?_⟩
  conv => whnf
  refine ⟨_, _, gr, by rw [ints_length, hys, show (T.at_ 3).size = 1 from rfl]; omega, ?_⟩
  have hi0 := n2 i1 c1 e2
  have hi1 : h3.next < i1 := by omega
  have ms : Ab.Mod (one h3.next) h7 (h7.set h3.next (.row true 1 (splice (ints .i64 ys) (0 + (cn (keyB ks (ks j)) g.es.length + cn (keyC ks (ks j + 1)) j) * 1) [i64 j]))) := Mod.set (S := one h3.next) rfl gr rfl
  have nx := nx.get ms (fun i o e => .inl (by
    rw [e2] at e
    injection e with e
    injection e with e
    unfold one
    omega))
  have gx := ms.get gx (.inl (by unfold one; omega))
  have gr := H.obj_set_same gr (ob' := .row true 1 (splice (ints .i64 ys) (0 + (cn (keyB ks (ks j)) g.es.length + cn (keyC ks (ks j + 1)) j) * 1) [i64 j]))
  have hsp : splice (ints .i64 ys) (0 + (cn (keyB ks (ks j)) g.es.length + cn (keyC ks (ks j + 1)) j) * 1) [i64 j] = ints .i64 (ys.set (cn (keyB ks (ks j)) g.es.length + cn (keyC ks (ks j + 1)) j) j) := by
    rw [splice_one, Nat.zero_add, Nat.mul_one]
    simp [ints, List.map_set]
  rw (occs := .pos [2]) [hsp] at gr
  have m6 : Ab.Mod none_ h3 _ := m6.trans' ms (fun _ _ k => k) (fun i hi k => absurd hi (by unfold one at k; omega))
  clear ms
  conv => whnf
  refine ⟨_, Cells.mk gx (Nat.le_of_ble_eq_true rfl) rfl, ?_⟩
  conv => whnf
  refine (hk _ _).mono ?_
  rintro _ h8 ⟨rfl, m8⟩
  have gr := m8.get gr (.inl (fun k => k))
  have nx := SlIs.old nx m8 (fun _ _ k => k)
  have m6 := mod_none m6 m8
  clear m8 gx
  rw [k1]
  conv => whnf
  obtain ⟨i3, c3, e3, kc⟩ := slo_get nx hlt
  rw [e2] at e3
  injection e3 with e3
  injection e3 with e3 e3'
  subst e3 e3'
  refine ⟨i1, c1, ks j, e2, rfl, hlt, ?_⟩
  conv => whnf
  refine ⟨_, kc, ?_⟩
  conv => whnf
  refine ⟨i1, c1, ks j, e2, rfl, hlt, ?_⟩
  conv => whnf
  rw [hv]
  have hw : IntKind.i64.wrap (((cn (keyB ks (ks j)) g.es.length + cn (keyC ks (ks j + 1)) j : Nat) : Int) + 1) = ((cn (keyB ks (ks j)) g.es.length + cn (keyC ks (ks j + 1)) (j + 1) : Nat) : Int) := by
    rw [cn, show keyC ks (ks j + 1) j = true by simp [keyC], wrap_i64 (by omega) (by omega)]
    simp
    omega
  rw [hw]
  obtain ⟨i4, c4, sz, cs, e3, e4, e5, w'⟩ := own_put nx hlt (cn (keyB ks (ks j)) g.es.length + cn (keyC ks (ks j + 1)) (j + 1) : Nat)
  rw [e2] at e3
  injection e3 with e3
  injection e3 with e3 e3'
  subst e3 e3'
  refine ⟨_, _, e4, e5, ?_⟩
  have ms := Mod.set (S := one i1) (ob := .row true sz (splice cs (c1 + ks j * 1) [i64 (cn (keyB ks (ks j)) g.es.length + cn (keyC ks (ks j + 1)) (j + 1) : Nat)])) rfl e4 rfl
  have gr := ms.get gr (.inl (by unfold one; omega))
  have m6 := m6.trans' ms (S2 := none_) (fun _ _ k => k) (fun i hi k => absurd hi (by unfold one at k; omega))
  conv => whnf
  have hs2 := succ_i64 (j := j) (n := g.es.length) hd (by omega)
  have ht := tab_set (n := g.ns.length + 1) (F := fun v => cn (keyB ks v) g.es.length + cn (keyC ks (v + 1)) j) (F' := fun v => cn (keyB ks v) g.es.length + cn (keyC ks (v + 1)) (j + 1)) hlt (fun v _ hv => by
    show cn (keyB ks v) g.es.length + cn (keyC ks (v + 1)) (j + 1) = cn (keyB ks v) g.es.length + cn (keyC ks (v + 1)) j
    have : cn (keyC ks (v + 1)) (j + 1) = cn (keyC ks (v + 1)) j := by
      rw [cn, show keyC ks (v + 1) j = false by simp [keyC]; omega]
      rfl
    rw [this])
  rw [ht] at w'
  refine ⟨_, Forget.cons rfl (Forget.cons rfl (Forget.cons rfl (Forget.cons rfl (Forget.cons rfl (Forget.cons rfl (Forget.cons rfl (Forget.cons rfl (Forget.nil _)))))))), ⟨j + 1, _, _, by omega, hs2, ?_, gr, w', m6, rfl⟩, ?_⟩
  · rw [List.length_set, hys]
  show (g.es.length - IntKind.i64.wrap ((j : Int) + 1)).toNat < (g.es.length - (j : Int)).toNat
  rw [hs2]
  omega
end Go.Proofs.Ytjjcalkeodfokaa
