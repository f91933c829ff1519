/- H5: texts of another seat, turned to this one. -/
import Derived.Test.YteapijoibimfnaaGreatH4
set_option linter.unusedVariables false
set_option linter.unusedSimpArgs false
namespace Go.Proofs.YteapijoibimfnaaGreat
open Go Go.Ab Go.Shelf
/-- where the k-th edge stands -/
def posK (ks : Nat → Nat) (E k : Nat) : Nat := cn (keyB ks (ks k)) E + cn (keyC ks (ks k + 1)) k
theorem cn_lt {P : Nat → Bool} {k j : Nat} (h : k < j) (hp : P k = true) : cn P k < cn P j := by
  have := cn_mono P (i := k + 1) (j := j) h
  rw [cn, hp] at this
  simp only [cond_true] at this
  omega
theorem below_mono (ks : Nat → Nat) {u v : Nat} (h : u ≤ v) : ∀ E, cn (keyB ks u) E ≤ cn (keyB ks v) E
  | 0 => Nat.le_refl _
  | E + 1 => by
    have ih := below_mono ks h E
    rw [cn, cn]
    have : (bif keyB ks u E then 1 else 0) ≤ (bif keyB ks v E then 1 else 0) := by
      unfold keyB
      by_cases q : ks E < u
      · simp [q, show ks E < v by omega]
      · simp [q]
    omega
theorem pos_lt_below (ks : Nat → Nat) {E k v : Nat} (hk : k < E) (h : ks k < v) : posK ks E k < cn (keyB ks v) E := by
  have h1 := below_succ ks E (ks k)
  have h2 : cn (keyC ks (ks k + 1)) k < cn (keyC ks (ks k + 1)) E := cn_lt hk (by simp [keyC])
  have h3 := below_mono ks (u := ks k + 1) (v := v) h E
  unfold posK
  omega
theorem posK_ne (ks : Nat → Nat) {E k j : Nat} (hj : j < E) (h : k < j) : posK ks E k ≠ posK ks E j := by
  rcases Nat.lt_trichotomy (ks k) (ks j) with q | q | q
  · have := pos_lt_below ks (E := E) (show k < E by omega) q
    unfold posK at this ⊢
    omega
  · have := cn_lt (P := keyC ks (ks j + 1)) h (by simp [keyC, q])
    unfold posK
    rw [q]
    omega
  · have := pos_lt_below ks (E := E) hj q
    unfold posK at this ⊢
    omega
/-- the edges that have a key, rising -/
def rowOf (ks : Nat → Nat) (v E : Nat) : List Nat := (List.range E).filter (keyC ks (v + 1))
theorem filt_len (P : Nat → Bool) : ∀ E, ((List.range E).filter P).length = cn P E
  | 0 => rfl
  | E + 1 => by
    rw [List.range_succ, List.filter_append, List.length_append, filt_len P E, cn]
    cases hp : P E <;> simp [hp]
theorem filt_get (P : Nat → Bool) : ∀ (E t : Nat), t < cn P E → ∃ k, k < E ∧ P k = true ∧ cn P k = t ∧ ((List.range E).filter P)[t]? = some k
  | 0, t, h => absurd h (Nat.not_lt_zero _)
  | E + 1, t, h => by
    rw [List.range_succ, List.filter_append]
    by_cases q : t < cn P E
    · obtain ⟨k, k1, k2, k3, k4⟩ := filt_get P E t q
      refine ⟨k, by omega, k2, k3, ?_⟩
      rw [List.getElem?_append_left (List.getElem?_eq_some_iff.1 k4).1]
      exact k4
    · rw [cn] at h
      cases hp : P E with
      | false =>
        rw [hp] at h
        simp only [cond_false] at h
        omega
      | true =>
        rw [hp] at h
        simp only [cond_true] at h
        have hl : ((List.range E).filter P).length = cn P E := filt_len P E
        refine ⟨E, by omega, hp, by omega, ?_⟩
        rw [List.getElem?_append_right (by omega), hl, show t - cn P E = 0 by omega]
        simp [hp]
/-- a row of all edges, by their keys -/
structure Rows (ks : Nat → Nat) (E : Nat) (ys : List Int) : Prop where
  len : ys.length = E
  at_ : ∀ k, k < E → ys.getD (posK ks E k) 0 = k
theorem Rows.cut {ks : Nat → Nat} {E : Nat} {ys : List Int} (r : Rows ks E ys) (v : Nat) : ((ys.drop (cn (keyB ks v) E)).take (cn (keyB ks (v + 1)) E - cn (keyB ks v) E)) = (rowOf ks v E).map Int.ofNat := by
  have h1 := below_succ ks E v
  have h2 := cn_le (keyB ks (v + 1)) E
  have hl := filt_len (keyC ks (v + 1)) E
  apply List.ext_getElem?
  intro t
  rw [List.getElem?_take, List.getElem?_map]
  by_cases q : t < cn (keyC ks (v + 1)) E
  · obtain ⟨k, k1, k2, k3, k4⟩ := filt_get _ E t q
    rw [if_pos (by omega), List.getElem?_drop]
    unfold rowOf
    rw [k4]
    have hk : ks k = v := by simpa [keyC] using k2
    have := r.at_ k k1
    rw [posK, hk, k3] at this
    have hlt : cn (keyB ks v) E + t < ys.length := by rw [r.len]; omega
    rw [List.getD_eq_getElem?_getD, List.getElem?_eq_getElem hlt] at this
    rw [List.getElem?_eq_getElem hlt]
    exact congrArg some this
  · rw [if_neg (by omega)]
    unfold rowOf
    rw [List.getElem?_eq_none (by omega)]
    rfl
theorem rowOf_mem {ks : Nat → Nat} {v E k : Nat} : k ∈ rowOf ks v E ↔ k < E ∧ ks k = v := by
  simp [rowOf, keyC]
theorem rowOf_len (ks : Nat → Nat) (v E : Nat) : (rowOf ks v E).length ≤ E := by
  have := List.length_filter_le (keyC ks (v + 1)) (List.range E)
  rwa [List.length_range] at this
set_option maxHeartbeats 2000000 in
theorem rows37 {h : H} (g : Gra) (ok : g.ok h) {f : Nat} {key : Int × Int × Int → Int} (hk : ∀ hh e, ACalls Tryz.prog f [.agg (eC e)] hh (fun v h' => v = i64 (key e) ∧ Ab.Mod none_ hh h')) (ks : Nat → Nat) (hks : ∀ j (hj : j < g.es.length), key g.es[j] = ks j ∧ ks j < g.ns.length) :
    ACalls Tryz.prog 34 [.agg g.cells, .fn f] h (fun r h' => (∃ q q' ys, r = .tup [.sl q g.es.length, .sl q' (g.ns.length + 1)] ∧ NewSl h h' q g.es.length 1 (ints .i64 ys) ∧ NewSl h h' q' (g.ns.length + 1) 1 (ints .i64 (tab (g.ns.length + 1) fun v => cn (keyB ks v) g.es.length)) ∧ Rows ks g.es.length ys) ∧ Ab.Mod none_ h h') := by
  have l1 := ok.ln
  have l2 := ok.le
  refine call_ Tryz.func34 rfl rfl (by kernel_rfl) ?_
  conv => whnf
  have mm := Mod.push none_ h (.row true 3 g.cells)
  have gb : (h.push (.row true 3 g.cells)).obj h.next = some (.row true 3 g.cells) := H.obj_push_new _ _
  refine ⟨_, Cell.mk gb rfl, ?_⟩
  conv => whnf
  have hN : IntKind.i64.wrap ((g.ns.length : Int) + 1) = ((g.ns.length + 1 : Nat) : Int) := by
    rw [wrap_i64 (by omega) (by omega)]
    omega
  refine ⟨g.ns.length + 1, hN, hN, by omega, by rw [show (T.at_ 3).bytes = 8 from rfl]; omega, ?_⟩
  rw [show zerosV (g.ns.length + 1) (vcells (T.at_ 3).zero) = ints .i64 (tab (g.ns.length + 1) fun _ => 0) from by rw [← tab_zero]; exact zeros_ints _ _]
  have w0 : NewS (h.push (.row true 3 g.cells)) ((h.push (.row true 3 g.cells)).push (.row true (T.at_ 3).size (ints .i64 (tab (g.ns.length + 1) fun _ => 0)))) .i64 (some ((h.push (.row true 3 g.cells)).next, 0)) (g.ns.length + 1) (tab (g.ns.length + 1) fun v => cn (keyC ks v) 0) :=
    ⟨SlIs.row (H.obj_push_new _ _) (by rw [ints_length, tab_len, Nat.mul_one]), fun i o e => by
      injection e with e
      injection e with e
      omega, Mod.push none_ (h.push (.row true 3 g.cells)) _⟩
  conv => whnf
  have gb1 := w0.2.2.get gb (.inl (fun k => k))
  refine ⟨_, Cell.mk gb1 rfl, ?_⟩
  conv => whnf
  refine ⟨fun env hh => ∃ (j : Nat) (z : Int) (p : Option (Nat × Nat)), j ≤ g.es.length ∧ z = j ∧ NewS (h.push (.row true 3 g.cells)) hh .i64 p (g.ns.length + 1) (tab (g.ns.length + 1) fun v => cn (keyC ks v) j) ∧ env = [(20, i64 z), (19, i64 g.es.length), (18, .sl g.ep g.es.length), (5, .sl p (g.ns.length + 1)), (1, .fn f), (2, .ptr (some (h.next, 0)))],
    fun env _ => match get env 20 with
      | .int _ z => (g.es.length - z).toNat
      | _ => 0, ⟨_, Forget.cons rfl (Forget.cons rfl (Forget.cons rfl (Forget.cons rfl (Forget.cons rfl (Forget.cons rfl (Forget.nil _)))))), 0, _, _, Nat.zero_le _, rfl, w0, rfl⟩, ?_⟩
  clear w0 gb1
  rintro _ h1 ⟨j, z, p, hj, rfl, w, rfl⟩
  conv => whnf
  refine br_mk (fun hd => ?_) (fun hd => ?_)
  · conv => whnf
    simp at hd
    obtain ⟨i, c, e1, k1, k2⟩ := sls_get eC_len (SlIs.old ok.e (mod_none mm w.2.2) (fun _ _ k => k)) rfl hd
    refine ⟨i, c, j, e1, rfl, hd, ?_⟩
    conv => whnf
    refine ⟨_, k1, ?_⟩
    conv => whnf
    obtain ⟨g0, gx, mx⟩ := lay_row (h := h1) (sz := 3) [i64 0, i64 0, i64 0] (eC g.es[j])
    refine ⟨_, _, g0, Nat.le_of_ble_eq_true rfl, ?_⟩
    have w := w.keep mx
    clear k1 k2 g0 mx
    conv => whnf
    refine ⟨_, Cells.mk gx (Nat.le_of_ble_eq_true rfl) rfl, ?_⟩
    conv => whnf
    refine (hk _ _).mono ?_
    rintro _ h2 ⟨rfl, m2⟩
    have w := w.keep m2
    clear gx m2
    obtain ⟨k1, k2⟩ := hks j hd
    rw [k1]
    conv => whnf
    have hw : IntKind.i64.wrap ((ks j : Int) + 1) = ((ks j + 1 : Nat) : Int) := by
      rw [wrap_i64 (by omega) (by omega)]
      omega
    have hlt : ks j + 1 < g.ns.length + 1 := by omega
    obtain ⟨i1, c1, e2, kc⟩ := slo_get w.1 hlt
    refine ⟨i1, c1, ks j + 1, e2, hw, hlt, ?_⟩
    conv => whnf
    refine ⟨_, kc, ?_⟩
    conv => whnf
    refine ⟨i1, c1, ks j + 1, e2, hw, hlt, ?_⟩
    conv => whnf
    have hle := cn_le (keyC ks (ks j + 1)) j
    have hv : IntKind.i64.wrap ((tab (g.ns.length + 1) fun v => cn (keyC ks v) j).getD (ks j + 1) 0 + 1) = ((cn (keyC ks (ks j + 1)) (j + 1) : Nat) : Int) := by
      rw [tab_get hlt, cn, show keyC ks (ks j + 1) j = true by simp [keyC], wrap_i64 (by omega) (by omega)]
      simp
    rw [hv]
    obtain ⟨i2, c2, sz, cs, e3, e4, e5, w'⟩ := w.put hlt (cn (keyC ks (ks j + 1)) (j + 1) : Nat)
    rw [e2] at e3
    injection e3 with e3
    injection e3 with e3 e3'
    subst e3 e3'
    refine ⟨_, _, e4, e5, ?_⟩
    conv => whnf
    have hs2 := succ_i64 (j := j) (n := g.es.length) hd (by omega)
    rw [tab_set (F' := fun v => cn (keyC ks v) (j + 1)) hlt (fun v _ hv => by
      show cn (keyC ks v) (j + 1) = _
      rw [cn, show keyC ks v j = false by simp [keyC]; omega]
      rfl)] at w'
    refine ⟨_, Forget.cons rfl (Forget.cons rfl (Forget.cons rfl (Forget.cons rfl (Forget.cons rfl (Forget.cons rfl (Forget.nil _)))))), ⟨j + 1, _, p, by omega, hs2, w', rfl⟩, ?_⟩
    show (g.es.length - IntKind.i64.wrap ((j : Int) + 1)).toNat < (g.es.length - (j : Int)).toNat
    rw [hs2]
    omega
  conv => whnf
  simp at hd
  obtain rfl : j = g.es.length := by omega
  have gb1 := w.2.2.get gb (.inl (fun k => k))
  refine ⟨_, Cell.mk gb1 rfl, ?_⟩
  conv => whnf
  refine ⟨fun env hh => ∃ (j : Nat) (z : Int) (p : Option (Nat × Nat)), j ≤ g.ns.length ∧ z = j ∧ NewS (h.push (.row true 3 g.cells)) hh .i64 p (g.ns.length + 1) (tab (g.ns.length + 1) fun v => if v ≤ j then cn (keyB ks v) g.es.length else cn (keyC ks v) g.es.length) ∧ env = [(37, i64 z), (36, i64 g.ns.length), (5, .sl p (g.ns.length + 1)), (1, .fn f), (2, .ptr (some (h.next, 0)))],
    fun env _ => match get env 37 with
      | .int _ z => (g.ns.length - z).toNat
      | _ => 0, ⟨_, Forget.cons rfl (Forget.cons rfl (Forget.cons rfl (Forget.cons rfl (Forget.cons rfl (Forget.nil _))))), 0, _, p, Nat.zero_le _, rfl, ?_, rfl⟩, ?_⟩
  · have : (fun v => if v ≤ 0 then cn (keyB ks v) g.es.length else cn (keyC ks v) g.es.length) = fun v => cn (keyC ks v) g.es.length := by
      funext v
      by_cases hv : v ≤ 0
      · obtain rfl : v = 0 := by omega
        rw [if_pos hv, cn_none (fun k _ => by simp [keyB]), cn_none (fun k _ => by simp [keyC])]
      · rw [if_neg hv]
    rw [this]
    exact w
  clear w gb1 hd hj
  rintro _ h3 ⟨j, z, p, hj, rfl, w, rfl⟩
  conv => whnf
  refine br_mk (fun hd => ?_) (fun hd => ?_)
  · conv => whnf
    simp at hd
    have hw : IntKind.i64.wrap ((j : Int) + 1) = ((j + 1 : Nat) : Int) := by
      rw [wrap_i64 (by omega) (by omega)]
      omega
    have hlt : j + 1 < g.ns.length + 1 := by omega
    have hlt0 : j < g.ns.length + 1 := by omega
    obtain ⟨i1, c1, e2, kc⟩ := slo_get w.1 hlt
    obtain ⟨i2, c2, e3, kd⟩ := slo_get w.1 hlt0
    rw [e2] at e3
    injection e3 with e3
    injection e3 with e3 e3'
    subst e3 e3'
    refine ⟨[0, 1, 2, 3, 4, 5, 6, 7, 8, 9, 10, 11], [0, 0, 2, 7, 15, 0, 0, 96, 224, 511, 1023, 2047], by kernel_rfl, ?_⟩
    conv => whnf
    refine ⟨i1, c1, j + 1, e2, hw, hlt, ?_⟩
    conv => whnf
    refine ⟨_, kc, ?_⟩
    conv => whnf
    refine ⟨i1, c1, j, e2, rfl, hlt0, ?_⟩
    conv => whnf
    refine ⟨_, kd, ?_⟩
    conv => whnf
    refine ⟨i1, c1, j + 1, e2, hw, hlt, ?_⟩
    conv => whnf
    have hle := cn_le (keyB ks j) g.es.length
    have hle2 := cn_le (keyC ks (j + 1)) g.es.length
    have hv : IntKind.i64.wrap ((tab (g.ns.length + 1) fun v => if v ≤ j then cn (keyB ks v) g.es.length else cn (keyC ks v) g.es.length).getD (j + 1) 0 + (tab (g.ns.length + 1) fun v => if v ≤ j then cn (keyB ks v) g.es.length else cn (keyC ks v) g.es.length).getD j 0) = ((cn (keyB ks (j + 1)) g.es.length : Nat) : Int) := by
      rw [tab_get hlt, tab_get hlt0, if_pos (Nat.le_refl j), if_neg (by omega), below_succ, wrap_i64 (by omega) (by omega)]
      omega
    rw [hv]
    obtain ⟨i2, c2, sz, cs, e3, e4, e5, w'⟩ := w.put hlt (cn (keyB ks (j + 1)) g.es.length : Nat)
    rw [e2] at e3
    injection e3 with e3
    injection e3 with e3 e3'
    subst e3 e3'
    refine ⟨_, _, e4, e5, ?_⟩
    conv => whnf
    have ht : (tab (g.ns.length + 1) fun v => if v ≤ j then cn (keyB ks v) g.es.length else cn (keyC ks v) g.es.length).set (j + 1) (cn (keyB ks (j + 1)) g.es.length : Nat) = tab (g.ns.length + 1) fun v => if v ≤ j + 1 then cn (keyB ks v) g.es.length else cn (keyC ks v) g.es.length := by
      have := tab_set (n := g.ns.length + 1) (F := fun v => if v ≤ j then cn (keyB ks v) g.es.length else cn (keyC ks v) g.es.length) (F' := fun v => if v ≤ j + 1 then cn (keyB ks v) g.es.length else cn (keyC ks v) g.es.length) hlt (fun v _ hv => by
        show (if v ≤ j + 1 then cn (keyB ks v) g.es.length else cn (keyC ks v) g.es.length) = if v ≤ j then cn (keyB ks v) g.es.length else cn (keyC ks v) g.es.length
        by_cases q : v ≤ j
        · rw [if_pos q, if_pos (by omega)]
        · rw [if_neg q, if_neg (by omega)])
      simpa using this
    rw [ht] at w'
    refine ⟨_, Forget.cons rfl (Forget.cons rfl (Forget.cons rfl (Forget.cons rfl (Forget.cons rfl (Forget.nil _))))), ⟨j + 1, _, p, by omega, hw, w', rfl⟩, ?_⟩
    show (g.ns.length - IntKind.i64.wrap ((j : Int) + 1)).toNat < (g.ns.length - (j : Int)).toNat
    rw [hw]
    omega
  conv => whnf
  simp at hd
  obtain rfl : j = g.ns.length := by omega
  have ht : (tab (g.ns.length + 1) fun v => if v ≤ g.ns.length then cn (keyB ks v) g.es.length else cn (keyC ks v) g.es.length) = tab (g.ns.length + 1) fun v => cn (keyB ks v) g.es.length := by
    unfold tab
    apply List.map_congr_left
    intro v hv
    rw [List.mem_range] at hv
    show (((if v ≤ g.ns.length then cn (keyB ks v) g.es.length else cn (keyC ks v) g.es.length : Nat)) : Int) = _
    rw [if_pos (by omega)]
  rw [ht] at w
  clear ht hj hd
  obtain ⟨w1, wf, m3⟩ := w
  have hw3 := m3.next
  have gb3 := m3.get gb (.inl (fun k => k))
  have mm := mod_none mm m3
  clear m3 gb
  refine ⟨_, Cell.mk gb3 rfl, ?_⟩
  conv => whnf
  refine ⟨g.es.length, rfl, rfl, by omega, by rw [show (T.at_ 3).bytes = 8 from rfl]; omega, ?_⟩
  rw [show zerosV g.es.length (vcells (T.at_ 3).zero) = ints .i64 (tab g.es.length fun _ => 0) from by rw [← tab_zero]; exact zeros_ints _ _]
  conv => whnf
  have m4 := Mod.push none_ h3 (.row true 1 (ints .i64 (tab g.es.length fun _ => 0)))
  have gr : (h3.push (.row true 1 (ints .i64 (tab g.es.length fun _ => 0)))).obj h3.next = some (.row true 1 (ints .i64 (tab g.es.length fun _ => 0))) := H.obj_push_new _ _
  have hn4 : (h3.push (.row true 1 (ints .i64 (tab g.es.length fun _ => 0)))).next = h3.next + 1 := rfl
  refine (clone46 (h := h3.push (.row true 1 (ints .i64 (tab g.es.length fun _ => 0)))) (SlIs.old w1.weak m4 (fun _ _ k => k)) (by omega)).mono ?_
  rintro _ h5 ⟨q, rfl, ⟨n1, n2⟩, m5⟩
  have gr := m5.get gr (.inl (fun k => k))
  have m5 := mod_none m4 m5
  have gb5 := m5.get gb3 (.inl (fun k => k))
  conv => whnf
  refine ⟨_, Cell.mk gb5 rfl, ?_⟩
  conv => whnf
  refine ⟨fun env hh => ∃ (j : Nat) (z : Int) (ys : List Int), j ≤ g.es.length ∧ z = j ∧ ys.length = g.es.length ∧ (∀ k, k < j → ys.getD (posK ks g.es.length k) 0 = k) ∧ hh.obj h3.next = some (.row true 1 (ints .i64 ys)) ∧ SlIs hh q (g.ns.length + 1) true 1 (ints .i64 (tab (g.ns.length + 1) fun v => cn (keyB ks v) g.es.length + cn (keyC ks (v + 1)) j)) ∧ Ab.Mod none_ h3 hh ∧ env = [(61, i64 z), (60, i64 g.es.length), (59, .sl g.ep g.es.length), (4, .sl (some (h3.next, 0)) g.es.length), (9, .sl q (g.ns.length + 1)), (5, .sl p (g.ns.length + 1)), (1, .fn f), (2, .ptr (some (h.next, 0)))],
    fun env _ => match get env 61 with
      | .int _ z => (g.es.length - z).toNat
      | _ => 0, ⟨_, Forget.cons rfl (Forget.cons rfl (Forget.cons rfl (Forget.cons rfl (Forget.cons rfl (Forget.cons rfl (Forget.cons rfl (Forget.cons rfl (Forget.nil _)))))))), 0, _, _, Nat.zero_le _, rfl, tab_len _ _, (fun k hk => absurd hk (Nat.not_lt_zero k)), gr, n1, m5, rfl⟩, ?_⟩
  clear n1 m5 gr gb5 m4
  rintro _ h6 ⟨j, z, ys, hj, rfl, hys, hps, gr, nx, m6, rfl⟩
  conv => whnf
  refine br_mk (fun hd => ?_) (fun hd => ?_)
  rotate_left
  · conv => whnf
    simp at hd
    obtain rfl : j = g.es.length := by omega
    have hh3 : h.next ≤ h3.next := Nat.le_trans (Nat.le_succ _) hw3
    refine ⟨⟨_, _, ys, rfl, ⟨⟨by rw [ints_length, hys, Nat.mul_one], .inr ⟨h3.next, 0, true, _, rfl, gr, fun e => e, by rw [ints_length, hys]; omega, by rw [List.drop_zero, Nat.mul_one, List.take_of_length_le (by rw [ints_length, hys]; omega)]⟩⟩, fun i o e => by
      injection e with e
      injection e with e
      omega⟩, ⟨SlIs.old w1 m6 (fun _ _ k => k), fun i o e => Nat.le_trans (Nat.le_succ _) (wf i o e)⟩, ⟨hys, hps⟩⟩, mod_none mm m6⟩
  conv => whnf
  simp at hd
  have hn6 := h6.lt _ _ gr
  obtain ⟨i, c, e1, k1, k2⟩ := sls_get eC_len (SlIs.old ok.e (mod_none mm m6) (fun _ _ k => k)) rfl hd
  refine ⟨i, c, j, e1, rfl, hd, ?_⟩
  conv => whnf
  refine ⟨_, k1, ?_⟩
  conv => whnf
  obtain ⟨g0, gx, mx⟩ := lay_row (h := h6) (sz := 3) [i64 0, i64 0, i64 0] (eC g.es[j])
  refine ⟨_, _, g0, Nat.le_of_ble_eq_true rfl, ?_⟩
  have gr := mx.get gr (.inl (fun k => k))
  have nx := SlIs.old nx mx (fun _ _ k => k)
  have m6 := mod_none m6 mx
  clear k1 k2 g0 mx
  conv => whnf
  refine ⟨_, Cells.mk gx (Nat.le_of_ble_eq_true rfl) rfl, ?_⟩
  conv => whnf
  refine (hk _ _).mono ?_
  rintro _ h7 ⟨rfl, m7⟩
  have gx := m7.get gx (.inl (fun k => k))
  have gr := m7.get gr (.inl (fun k => k))
  have nx := SlIs.old nx m7 (fun _ _ k => k)
  have m6 := mod_none m6 m7
  clear m7
  obtain ⟨k1, k2⟩ := hks j hd
  rw [k1]
  conv => whnf
  have hlt : ks j < g.ns.length + 1 := by omega
  obtain ⟨i1, c1, e2, kc⟩ := slo_get nx hlt
  refine ⟨i1, c1, ks j, e2, rfl, hlt, ?_⟩
  conv => whnf
  refine ⟨_, kc, ?_⟩
  conv => whnf
  have hnl := next_lt ks hd
  have hv : (tab (g.ns.length + 1) fun v => cn (keyB ks v) g.es.length + cn (keyC ks (v + 1)) j).getD (ks j) 0 = ((cn (keyB ks (ks j)) g.es.length + cn (keyC ks (ks j + 1)) j : Nat) : Int) := tab_get hlt
  rw [hv]
  refine ⟨h3.next, 0, _, rfl, rfl, hnl, ?_⟩
  conv => whnf
  refine ⟨_, _, gr, by rw [ints_length, hys, show (T.at_ 3).size = 1 from rfl]; omega, ?_⟩
  have hi0 := n2 i1 c1 e2
  have hi1 : h3.next < i1 := by omega
  have ms : Ab.Mod (one h3.next) h7 (h7.set h3.next (.row true 1 (splice (ints .i64 ys) (0 + (cn (keyB ks (ks j)) g.es.length + cn (keyC ks (ks j + 1)) j) * 1) [i64 j]))) := Mod.set (S := one h3.next) rfl gr rfl
  have nx := nx.get ms (fun i o e => .inl (by
    rw [e2] at e
    injection e with e
    injection e with e
    unfold one
    omega))
  have gx := ms.get gx (.inl (by unfold one; omega))
  have gr := H.obj_set_same gr (ob' := .row true 1 (splice (ints .i64 ys) (0 + (cn (keyB ks (ks j)) g.es.length + cn (keyC ks (ks j + 1)) j) * 1) [i64 j]))
  have hsp : splice (ints .i64 ys) (0 + (cn (keyB ks (ks j)) g.es.length + cn (keyC ks (ks j + 1)) j) * 1) [i64 j] = ints .i64 (ys.set (cn (keyB ks (ks j)) g.es.length + cn (keyC ks (ks j + 1)) j) j) := by
    rw [splice_one, Nat.zero_add, Nat.mul_one]
    simp [ints, List.map_set]
  rw (occs := .pos [2]) [hsp] at gr
  have m6 : Ab.Mod none_ h3 _ := m6.trans' ms (fun _ _ k => k) (fun i hi k => absurd hi (by unfold one at k; omega))
  clear ms
  conv => whnf
  refine ⟨_, Cells.mk gx (Nat.le_of_ble_eq_true rfl) rfl, ?_⟩
  conv => whnf
  refine (hk _ _).mono ?_
  rintro _ h8 ⟨rfl, m8⟩
  have gr := m8.get gr (.inl (fun k => k))
  have nx := SlIs.old nx m8 (fun _ _ k => k)
  have m6 := mod_none m6 m8
  clear m8 gx
  rw [k1]
  conv => whnf
  obtain ⟨i3, c3, e3, kc⟩ := slo_get nx hlt
  rw [e2] at e3
  injection e3 with e3
  injection e3 with e3 e3'
  subst e3 e3'
  refine ⟨i1, c1, ks j, e2, rfl, hlt, ?_⟩
  conv => whnf
  refine ⟨_, kc, ?_⟩
  conv => whnf
  refine ⟨i1, c1, ks j, e2, rfl, hlt, ?_⟩
  conv => whnf
  rw [hv]
  have hw : IntKind.i64.wrap (((cn (keyB ks (ks j)) g.es.length + cn (keyC ks (ks j + 1)) j : Nat) : Int) + 1) = ((cn (keyB ks (ks j)) g.es.length + cn (keyC ks (ks j + 1)) (j + 1) : Nat) : Int) := by
    rw [cn, show keyC ks (ks j + 1) j = true by simp [keyC], wrap_i64 (by omega) (by omega)]
    simp
    omega
  rw [hw]
  obtain ⟨i4, c4, sz, cs, e3, e4, e5, w'⟩ := own_put nx hlt (cn (keyB ks (ks j)) g.es.length + cn (keyC ks (ks j + 1)) (j + 1) : Nat)
  rw [e2] at e3
  injection e3 with e3
  injection e3 with e3 e3'
  subst e3 e3'
  refine ⟨_, _, e4, e5, ?_⟩
  have ms := Mod.set (S := one i1) (ob := .row true sz (splice cs (c1 + ks j * 1) [i64 (cn (keyB ks (ks j)) g.es.length + cn (keyC ks (ks j + 1)) (j + 1) : Nat)])) rfl e4 rfl
  have gr := ms.get gr (.inl (by unfold one; omega))
  have m6 := m6.trans' ms (S2 := none_) (fun _ _ k => k) (fun i hi k => absurd hi (by unfold one at k; omega))
  conv => whnf
  have hs2 := succ_i64 (j := j) (n := g.es.length) hd (by omega)
  have ht := tab_set (n := g.ns.length + 1) (F := fun v => cn (keyB ks v) g.es.length + cn (keyC ks (v + 1)) j) (F' := fun v => cn (keyB ks v) g.es.length + cn (keyC ks (v + 1)) (j + 1)) hlt (fun v _ hv => by
    show cn (keyB ks v) g.es.length + cn (keyC ks (v + 1)) (j + 1) = cn (keyB ks v) g.es.length + cn (keyC ks (v + 1)) j
    have : cn (keyC ks (v + 1)) (j + 1) = cn (keyC ks (v + 1)) j := by
      rw [cn, show keyC ks (v + 1) j = false by simp [keyC]; omega]
      rfl
    rw [this])
  rw [ht] at w'
  refine ⟨_, Forget.cons rfl (Forget.cons rfl (Forget.cons rfl (Forget.cons rfl (Forget.cons rfl (Forget.cons rfl (Forget.cons rfl (Forget.cons rfl (Forget.nil _)))))))), ⟨j + 1, _, _, by omega, hs2, ?_, ?_, gr, w', m6, rfl⟩, ?_⟩
  · rw [List.length_set, hys]
  · intro k hk
    have hne : k < j → posK ks g.es.length k ≠ posK ks g.es.length j := fun q => posK_ne ks hd q
    have hpl : posK ks g.es.length j < ys.length := by rw [hys]; exact hnl
    show (ys.set (posK ks g.es.length j) (j : Int)).getD (posK ks g.es.length k) 0 = k
    rw [List.getD_eq_getElem?_getD, List.getElem?_set]
    by_cases q : k = j
    · subst q
      rw [if_pos rfl, if_pos hpl]
      rfl
    · rw [if_neg (fun e => hne (by omega) e.symm), ← List.getD_eq_getElem?_getD]
      exact hps k (by omega)
  show (g.es.length - IntKind.i64.wrap ((j : Int) + 1)).toNat < (g.es.length - (j : Int)).toNat
  rw [hs2]
  omega
def frK (g : Gra) (k : Nat) : Nat := (g.es.getD k (0, 0, 0)).1.toNat
def toK (g : Gra) (k : Nat) : Nat := (g.es.getD k (0, 0, 0)).2.1.toNat
theorem es_get (g : Gra) {j : Nat} (hj : j < g.es.length) : g.es.getD j (0, 0, 0) = g.es[j] := by rw [List.getD_eq_getElem?_getD, List.getElem?_eq_getElem hj]; rfl
def RowsQ (g : Gra) (ks : Nat → Nat) (h : H) (r : V) (h' : H) : Prop := (∃ q q' ys, r = .tup [.sl q g.es.length, .sl q' (g.ns.length + 1)] ∧ NewSl h h' q g.es.length 1 (ints .i64 ys) ∧ NewSl h h' q' (g.ns.length + 1) 1 (ints .i64 (tab (g.ns.length + 1) fun v => cn (keyB ks v) g.es.length)) ∧ Rows ks g.es.length ys) ∧ Ab.Mod none_ h h'
theorem rows_out {h : H} {g : Gra} (ok : g.ok h) (hm : mayG g = true) : ACalls Tryz.prog 34 [.agg g.cells, .fn 35] h (RowsQ g (frK g) h) :=
  rows37 g ok (key := fun e => e.1) (fun hh e => key38 hh e) (frK g) fun j hj => by
    have := mayG_edge hm hj
    unfold frK
    rw [es_get g hj]
    show g.es[j].1 = ((g.es[j].1.toNat : Nat) : Int) ∧ _
    omega
theorem rows_in {h : H} {g : Gra} (ok : g.ok h) (hm : mayG g = true) : ACalls Tryz.prog 34 [.agg g.cells, .fn 36] h (RowsQ g (toK g) h) :=
  rows37 g ok (key := fun e => e.2.1) (fun hh e => key39 hh e) (toK g) fun j hj => by
    have := mayG_edge hm hj
    unfold toK
    rw [es_get g hj]
    show g.es[j].2.1 = ((g.es[j].2.1.toNat : Nat) : Int) ∧ _
    omega
/-! ## What lies below a bound -/
def InB (B : Nat) (q : Option (Nat × Nat)) : Prop := ∀ i o, q = some (i, o) → i < B
def SlB (h : H) (B : Nat) (q : Option (Nat × Nat)) (n sz : Nat) (cs : List V) : Prop := SlIs h q n false sz cs ∧ InB B q
theorem SlB.get {S : Nat → Prop} {h h' : H} {B : Nat} {q : Option (Nat × Nat)} {n sz : Nat} {cs : List V} (s : SlB h B q n sz cs) (m : Ab.Mod S h h') (hS : ∀ i, i < B → ¬ S i) : SlB h' B q n sz cs :=
  ⟨SlIs.get s.1 m fun i o e => .inl (hS i (s.2 i o e)), s.2⟩
theorem SlB.ro {h : H} {B : Nat} {q : Option (Nat × Nat)} {n sz : Nat} {cs : List V} (s : SlB h B q n sz cs) (i : Nat) : SlB (h.ro i) B q n sz cs := ⟨SlIs.ro_weak s.1 i, s.2⟩
theorem SlB.mono {h : H} {B B' : Nat} {q : Option (Nat × Nat)} {n sz : Nat} {cs : List V} (s : SlB h B q n sz cs) (hB : B ≤ B') : SlB h B' q n sz cs := ⟨s.1, fun i o e => Nat.lt_of_lt_of_le (s.2 i o e) hB⟩
theorem NewSl.slb {S : Nat → Prop} {h0 h h' : H} {q : Option (Nat × Nat)} {n sz : Nat} {cs : List V} (s : NewSl h0 h q n sz cs) (m : Ab.Mod S h h') (hS : ∀ i, h0.next ≤ i → i < h.next → ¬ S i) : SlB h' h'.next q n sz cs :=
  ⟨SlIs.get s.1.weak m fun i o e => .inl (hS i (s.2 i o e) (SlIs.own_lt s.1 (i := i) ⟨o, e⟩)), fun i o e => Nat.lt_of_lt_of_le (SlIs.own_lt s.1 (i := i) ⟨o, e⟩) m.next⟩
structure GrS (h : H) (B x : Nat) (g : Gra) : Prop where
  ok : mayG g = true
  lt : x < B
  is : ∃ o qn qe qb ro ri fo fi yo yi, h.obj x = some (.row o 7 [.sl qn g.ns.length, .sl qe g.es.length, .sl qb g.bs.length, .sl ro g.es.length, .sl ri g.es.length, .sl fo (g.ns.length + 1), .sl fi (g.ns.length + 1)]) ∧
    SlB h B qn g.ns.length 2 (g.ns.flatMap pC) ∧ SlB h B qe g.es.length 3 (g.es.flatMap eC) ∧ SlB h B qb g.bs.length 2 (g.bs.flatMap pC) ∧ SlB h B ro g.es.length 1 (ints .i64 yo) ∧ SlB h B ri g.es.length 1 (ints .i64 yi) ∧
    SlB h B fo (g.ns.length + 1) 1 (ints .i64 (tab (g.ns.length + 1) fun v => cn (keyB (frK g) v) g.es.length)) ∧ SlB h B fi (g.ns.length + 1) 1 (ints .i64 (tab (g.ns.length + 1) fun v => cn (keyB (toK g) v) g.es.length)) ∧ Rows (frK g) g.es.length yo ∧ Rows (toK g) g.es.length yi
theorem GrS.get {S : Nat → Prop} {h h' : H} {B x : Nat} {g : Gra} (s : GrS h B x g) (m : Ab.Mod S h h') (hS : ∀ i, i < B → ¬ S i) : GrS h' B x g := by
  obtain ⟨o, qn, qe, qb, ro, ri, fo, fi, yo, yi, e, s1, s2, s3, s4, s5, s6, s7, s8, s9⟩ := s.is
  exact ⟨s.ok, s.lt, o, qn, qe, qb, ro, ri, fo, fi, yo, yi, m.get e (.inl (hS x s.lt)), s1.get m hS, s2.get m hS, s3.get m hS, s4.get m hS, s5.get m hS, s6.get m hS, s7.get m hS, s8, s9⟩
theorem GrS.mono {h : H} {B B' x : Nat} {g : Gra} (s : GrS h B x g) (hB : B ≤ B') : GrS h B' x g := by
  obtain ⟨o, qn, qe, qb, ro, ri, fo, fi, yo, yi, e, s1, s2, s3, s4, s5, s6, s7, s8, s9⟩ := s.is
  exact ⟨s.ok, Nat.lt_of_lt_of_le s.lt hB, o, qn, qe, qb, ro, ri, fo, fi, yo, yi, e, s1.mono hB, s2.mono hB, s3.mono hB, s4.mono hB, s5.mono hB, s6.mono hB, s7.mono hB, s8, s9⟩
theorem GrS.ro {h : H} {B x : Nat} {g : Gra} (s : GrS h B x g) (i : Nat) : GrS (h.ro i) B x g := by
  obtain ⟨o, qn, qe, qb, ro, ri, fo, fi, yo, yi, e, s1, s2, s3, s4, s5, s6, s7, s8, s9⟩ := s.is
  by_cases q : x = i
  · subst q
    exact ⟨s.ok, s.lt, _, qn, qe, qb, ro, ri, fo, fi, yo, yi, H.ro_same e, s1.ro _, s2.ro _, s3.ro _, s4.ro _, s5.ro _, s6.ro _, s7.ro _, s8, s9⟩
  · exact ⟨s.ok, s.lt, o, qn, qe, qb, ro, ri, fo, fi, yo, yi, by rw [H.ro_ne _ q]; exact e, s1.ro _, s2.ro _, s3.ro _, s4.ro _, s5.ro _, s6.ro _, s7.ro _, s8, s9⟩
theorem new16 {h : H} (g : Gra) (ok : g.ok h) : ACalls Tryz.prog 16 [.agg g.cells] h (fun r h' => ((mayG g = false ∧ r = .tup [.ptr none, i64 1]) ∨ ∃ x, r = .tup [.ptr (some (x, 0)), i64 0] ∧ h.next ≤ x ∧ GrS h' h'.next x g) ∧ Ab.Mod none_ h h') := by
  have ln := ok.ln
  have le := ok.le
  have lb := ok.lb
  refine call_ Tryz.func16 rfl rfl (by kernel_rfl) ?_
  conv => whnf
  have mm := Mod.push none_ h (.row true 3 g.cells)
  have gb : (h.push (.row true 3 g.cells)).obj h.next = some (.row true 3 g.cells) := H.obj_push_new _ _
  refine ⟨_, Cells.mk gb (Nat.le_of_ble_eq_true rfl) rfl, ?_⟩
  conv => whnf
  refine (may33 g (ok.old mm (fun _ _ k => k))).mono ?_
  rintro _ h1 ⟨rfl, m1⟩
  have gb := m1.get gb (.inl (fun k => k))
  have mm := mod_none mm m1
  clear m1
  conv => whnf
  refine br_mk (fun hb => ?_) (fun hb => ?_)
  · conv => whnf
    have hb : mayG g = false := by simpa using hb
    exact ⟨.inl ⟨hb, rfl⟩, mm⟩
  conv => whnf
  have hb : mayG g = true := by simpa using hb
  have rdN {hh : H} (gb : hh.obj h.next = some (.row true 3 g.cells)) : Cell hh h.next 0 (.sl g.np g.ns.length) := Cell.mk gb rfl
  have rdE {hh : H} (gb : hh.obj h.next = some (.row true 3 g.cells)) : Cell hh h.next 1 (.sl g.ep g.es.length) := Cell.mk gb rfl
  have rdB {hh : H} (gb : hh.obj h.next = some (.row true 3 g.cells)) : Cell hh h.next 2 (.sl g.bp g.bs.length) := Cell.mk gb rfl
  refine ⟨[0, 1, 3, 4, 6, 7, 2, 5, 8, 9, 10, 11, 12], [0, 1, 3, 0, 8, 31, 0, 64, 255, 511, 1023, 2047, 4095], by kernel_rfl, ?_⟩
  conv => whnf
  refine ⟨_, rdN gb, ?_⟩
  conv => whnf
  refine ⟨_, rdE gb, ?_⟩
  conv => whnf
  refine ⟨_, rdB gb, ?_⟩
  conv => whnf
  refine (clone34 (ok.old mm (fun _ _ k => k)).n (by omega)).mono ?_
  rintro _ h2 ⟨q2, rfl, w2, m2⟩
  have gb := m2.get gb (.inl (fun k => k))
  have mm := mod_none mm m2
  have n2_ := m2.next
  conv => whnf
  refine ⟨?_, ?_⟩
  · conv => whnf
    exact ⟨_, rdB gb, rfl⟩
  refine ⟨?_, ?_⟩
  · conv => whnf
    exact ⟨_, rdE gb, rfl⟩
  conv => whnf
  refine (clone35 (ok.old mm (fun _ _ k => k)).e (by omega)).mono ?_
  rintro _ h3 ⟨q3, rfl, w3, m3⟩
  have gb := m3.get gb (.inl (fun k => k))
  have mm := mod_none mm m3
  have n3_ := m3.next
  conv => whnf
  refine ⟨?_, ?_⟩
  · conv => whnf
    exact ⟨_, rdB gb, rfl⟩
  conv => whnf
  refine (clone36 (ok.old mm (fun _ _ k => k)).b (by omega)).mono ?_
  rintro _ h4 ⟨q4, rfl, w4, m4⟩
  have gb := m4.get gb (.inl (fun k => k))
  have mm := mod_none mm m4
  have n4_ := m4.next
  conv => whnf
  have m5 := Mod.push none_ h4 (.row true 7 [.sl q2 g.ns.length, .sl q3 g.es.length, .sl q4 g.bs.length, .sl none 0, .sl none 0, .sl none 0, .sl none 0])
  have gx : (h4.push (.row true 7 [.sl q2 g.ns.length, .sl q3 g.es.length, .sl q4 g.bs.length, .sl none 0, .sl none 0, .sl none 0, .sl none 0])).obj h4.next = some (.row true 7 [.sl q2 g.ns.length, .sl q3 g.es.length, .sl q4 g.bs.length, .sl none 0, .sl none 0, .sl none 0, .sl none 0]) := H.obj_push_new _ _
  have gb5 := m5.get gb (.inl (fun k => k))
  refine ⟨_, Cells.mk gb5 (Nat.le_of_ble_eq_true rfl) rfl, ?_⟩
  conv => whnf
  have hn4 := h4.lt _ _ gb
  refine (rows_out (ok.old (mod_none mm m5) (fun _ _ k => k)) hb).mono ?_
  rintro _ h6 ⟨⟨r1, r2, yo, rfl, v1, v2, y1⟩, m6⟩
  have gx := m6.get gx (.inl (fun k => k))
  have gb6 := m6.get gb5 (.inl (fun k => k))
  have m6 := mod_none m5 m6
  clear m5 gb5
  conv => whnf
  refine ⟨_, rfl, ?_⟩
  conv => whnf
  refine ⟨_, rfl, ?_⟩
  conv => whnf
  refine ⟨_, _, gx, Nat.le_of_ble_eq_true rfl, ?_⟩
  have ms1 := Mod.set (S := one h4.next) (ob := .row true 7 [.sl q2 g.ns.length, .sl q3 g.es.length, .sl q4 g.bs.length, .sl r1 g.es.length, .sl none 0, .sl none 0, .sl none 0]) rfl gx rfl
  have gx := H.obj_set_same gx (ob' := .row true 7 [.sl q2 g.ns.length, .sl q3 g.es.length, .sl q4 g.bs.length, .sl r1 g.es.length, .sl none 0, .sl none 0, .sl none 0])
  have gb6 := ms1.get gb6 (.inl (by unfold one; omega))
  have m6 := m6.trans' ms1 (S2 := none_) (fun _ _ k => k) (fun i hi k => absurd hi (by unfold one at k; omega))
  conv => whnf
  refine ⟨_, _, gx, Nat.le_of_ble_eq_true rfl, ?_⟩
  have ms2 := Mod.set (S := one h4.next) (ob := .row true 7 [.sl q2 g.ns.length, .sl q3 g.es.length, .sl q4 g.bs.length, .sl r1 g.es.length, .sl none 0, .sl r2 (g.ns.length + 1), .sl none 0]) rfl gx rfl
  have gx := H.obj_set_same gx (ob' := .row true 7 [.sl q2 g.ns.length, .sl q3 g.es.length, .sl q4 g.bs.length, .sl r1 g.es.length, .sl none 0, .sl r2 (g.ns.length + 1), .sl none 0])
  have gb6 := ms2.get gb6 (.inl (by unfold one; omega))
  have m6 := m6.trans' ms2 (S2 := none_) (fun _ _ k => k) (fun i hi k => absurd hi (by unfold one at k; omega))
  conv => whnf
  refine ⟨_, Cells.mk gb6 (Nat.le_of_ble_eq_true rfl) rfl, ?_⟩
  conv => whnf
  have hx6 := H.lt _ _ _ gx
  refine (rows_in (ok.old (mod_none mm m6) (fun _ _ k => k)) hb).mono ?_
  rintro _ h7 ⟨⟨r3, r4, yi, rfl, v3, v4, y2⟩, m7⟩
  have gx := m7.get gx (.inl (fun k => k))
  have m6 := mod_none m6 m7
  conv => whnf
  refine ⟨_, rfl, ?_⟩
  conv => whnf
  refine ⟨_, rfl, ?_⟩
  conv => whnf
  refine ⟨_, _, gx, Nat.le_of_ble_eq_true rfl, ?_⟩
  have ms3 := Mod.set (S := one h4.next) (ob := .row true 7 [.sl q2 g.ns.length, .sl q3 g.es.length, .sl q4 g.bs.length, .sl r1 g.es.length, .sl r3 g.es.length, .sl r2 (g.ns.length + 1), .sl none 0]) rfl gx rfl
  have gx := H.obj_set_same gx (ob' := .row true 7 [.sl q2 g.ns.length, .sl q3 g.es.length, .sl q4 g.bs.length, .sl r1 g.es.length, .sl r3 g.es.length, .sl r2 (g.ns.length + 1), .sl none 0])
  have m6 := m6.trans' ms3 (S2 := none_) (fun _ _ k => k) (fun i hi k => absurd hi (by unfold one at k; omega))
  conv => whnf
  refine ⟨_, _, gx, Nat.le_of_ble_eq_true rfl, ?_⟩
  have ms4 := Mod.set (S := one h4.next) (ob := .row true 7 [.sl q2 g.ns.length, .sl q3 g.es.length, .sl q4 g.bs.length, .sl r1 g.es.length, .sl r3 g.es.length, .sl r2 (g.ns.length + 1), .sl r4 (g.ns.length + 1)]) rfl gx rfl
  have m6 := m6.trans' ms4 (S2 := none_) (fun _ _ k => k) (fun i hi k => absurd hi (by unfold one at k; omega))
  conv => whnf
  have gx := H.obj_set_same gx (ob' := .row true 7 [.sl q2 g.ns.length, .sl q3 g.es.length, .sl q4 g.bs.length, .sl r1 g.es.length, .sl r3 g.es.length, .sl r2 (g.ns.length + 1), .sl r4 (g.ns.length + 1)])
  have mB := ms3.trans' ms4 (S2 := one h4.next) (fun _ _ k => k) (fun _ _ k => k)
  have mA := ((ms1.trans' ms2 (S2 := one h4.next) (fun _ _ k => k) (fun _ _ k => k)).trans' m7 (S2 := one h4.next) (fun _ _ k => k) (fun _ _ k => False.elim k)).trans' mB (S2 := one h4.next) (fun _ _ k => k) (fun _ _ k => k)
  have o1 : ∀ i, (h4.push (.row true 7 [.sl q2 g.ns.length, .sl q3 g.es.length, .sl q4 g.bs.length, .sl none 0, .sl none 0, .sl none 0, .sl none 0])).next ≤ i → ¬ one h4.next i := fun i hi k => absurd hi (by
    unfold one at k
    subst k
    exact Nat.not_succ_le_self _)
  have hx := H.lt _ _ _ gx
  have o2 : ∀ i, ((h6.set h4.next (.row true 7 [.sl q2 g.ns.length, .sl q3 g.es.length, .sl q4 g.bs.length, .sl r1 g.es.length, .sl none 0, .sl none 0, .sl none 0])).set h4.next (.row true 7 [.sl q2 g.ns.length, .sl q3 g.es.length, .sl q4 g.bs.length, .sl r1 g.es.length, .sl none 0, .sl r2 (g.ns.length + 1), .sl none 0])).next ≤ i → ¬ one h4.next i := fun i hi k => by
    unfold one at k
    subst k
    exact absurd hx6 (Nat.not_lt_of_le hi)
  refine ⟨.inr ⟨h4.next, rfl, mm.next, ⟨hb, hx, _, q2, q3, q4, r1, r3, r2, r4, yo, yi, gx, NewSl.slb w2 (mod_none m3 (mod_none m4 m6)) (fun _ _ _ k => k), NewSl.slb w3 (mod_none m4 m6) (fun _ _ _ k => k), NewSl.slb w4 m6 (fun _ _ _ k => k), NewSl.slb v1 mA (fun i hi _ => o1 i hi), NewSl.slb v3 mB (fun i hi _ => o2 i hi), NewSl.slb v2 mA (fun i hi _ => o1 i hi), NewSl.slb v4 mB (fun i hi _ => o2 i hi), y1, y2⟩⟩, mod_none mm m6⟩
end Go.Proofs.YteapijoibimfnaaGreat

