/- The law FileRows. -/
import Derived.Test.YtjjcalkeodfokaaR19
set_option linter.unusedVariables false
namespace Go.Proofs.Ytjjcalkeodfokaa
open Go Go.Ab
theorem flat_getI {α : Type} {f : α → List Int} {sz : Nat} (hf : ∀ a, (f a).length = sz) {d : Nat} (hd : d < sz) : ∀ (es : List α) (j : Nat), (es.flatMap f)[j * sz + d]? = (es[j]?).bind fun e => (f e)[d]?
  | [], j => by simp
  | e :: es, 0 => by
    rw [List.flatMap_cons, Nat.zero_mul, Nat.zero_add, List.getElem?_append_left (by rw [hf]; exact hd)]
    rfl
  | e :: es, j + 1 => by
    rw [List.flatMap_cons, List.getElem?_append_right (by rw [hf, Nat.add_mul]; omega), hf]
    have : (j + 1) * sz + d - sz = j * sz + d := by
      rw [Nat.add_mul]
      omega
    rw [this, flat_getI hf hd es j]
    rfl
theorem two_octets {v : Int} (h0 : 0 ≤ v) (h1 : v < 65536) : shOr (IntKind.i64.wrap ((be v 2).getD 0 0)) ((be v 2).getD 1 0) = v := by
  have hf := be_fold (k := 2) (by decide) h0 (by rw [two16]; exact h1)
  have hb := be_bts v 2
  have hl := be_length v 2
  match h : be v 2, hl with
  | [a, b], _ =>
    rw [h] at hf hb
    have ha := hb a (by simp)
    have hbb := hb b (by simp)
    obtain ⟨x, rfl⟩ := Int.eq_ofNat_of_zero_le ha.1
    obtain ⟨y, rfl⟩ := Int.eq_ofNat_of_zero_le hbb.1
    have e1 : shOr 0 (x : Int) = ((0 * 256 + x : Nat) : Int) := shOr_eq (n := 0) (b := x) (by decide) (by omega)
    have e2 : ([(x : Int), (y : Int)] : List Int).foldl shOr 0 = shOr (shOr 0 x) y := rfl
    rw [e2, e1, Nat.zero_mul, Nat.zero_add] at hf
    show shOr (IntKind.i64.wrap (x : Int)) (y : Int) = v
    rw [wrap_i64 (by omega) (by omega), hf]
theorem EncF.at {b : List Int} {g : Gra} (e : EncF b g) {j : Nat} (hj : j < (numsF g).length) {d : Nat} (hd : d < 2) : b.getD (4 + 2 * j + d) 0 = (be ((numsF g).getD j 0) 2).getD d 0 := by
  have hl : (flatB 2 (numsF g)).length = (numsF g).length * 2 := flatB_length 2 _
  have hm : mile.length = 4 := rfl
  rw [e.split, List.getD_eq_getElem?_getD, List.getElem?_append_right (by omega), hm, List.getElem?_append_left (by omega), show 4 + 2 * j + d - 4 = j * 2 + d by omega]
  rw [flatB, flat_getI (f := fun v => be v 2) (sz := 2) (fun v => be_length v 2) hd, List.getD_eq_getElem?_getD, List.getD_eq_getElem?_getD, List.getElem?_eq_getElem hj]
  rfl
theorem file_num {b : List Int} {g : Gra} (e : EncF b g) {j : Nat} (hj : j < (numsF g).length) : shOr (IntKind.i64.wrap (b.getD (4 + 2 * j) 0)) (b.getD (4 + 2 * j + 1) 0) = (numsF g).getD j 0 := by
  have h1 := e.at hj (d := 0) (by decide)
  have h2 := e.at hj (d := 1) (by decide)
  rw [Nat.add_zero] at h1
  have hm : (numsF g).getD j 0 ∈ numsF g := by
    rw [List.getD_eq_getElem?_getD, List.getElem?_eq_getElem hj]
    exact List.getElem_mem hj
  have hf := fit_nums e.ok _ hm
  rw [two16] at hf
  rw [h1, h2]
  exact two_octets hf.1 hf.2
theorem numsF_len (g : Gra) : (numsF g).length = 3 + 2 * g.ns.length + 3 * g.es.length + 2 * g.bs.length := by
  have e : (headN g).length = 3 := rfl
  rw [numsF, List.length_append, List.length_append, List.length_append, pN_len, eN_len, pN_len, e]
theorem file_node {b : List Int} {g : Gra} (e : EncF b g) {j : Nat} (hj : j < g.ns.length) : shOr (IntKind.i64.wrap (b.getD (10 + 4 * j + 0) 0)) (b.getD (10 + 4 * j + 1) 0) = g.ns[j].1 := by
  have hl := numsF_len g
  have := file_num e (j := 3 + 2 * j) (by omega)
  rw [show 4 + 2 * (3 + 2 * j) = 10 + 4 * j + 0 by omega, show 10 + 4 * j + 0 + 1 = 10 + 4 * j + 1 by omega] at this
  rw [this]
  have e3 : (headN g).length = 3 := rfl
  have e4 : (g.ns.flatMap pN).length = 2 * g.ns.length := pN_len _
  rw [numsF, List.getD_eq_getElem?_getD, List.getElem?_append_left (by rw [List.length_append, List.length_append, e3, e4]; omega), List.getElem?_append_left (by rw [List.length_append, e3, e4]; omega), List.getElem?_append_right (by omega), e3, show 3 + 2 * j - 3 = j * 2 + 0 by omega, flat_getI (f := pN) (sz := 2) (fun _ => rfl) (by decide), List.getElem?_eq_getElem hj]
  rfl
theorem file_edge {b : List Int} {g : Gra} (e : EncF b g) {j : Nat} (hj : j < g.es.length) : shOr (IntKind.i64.wrap (b.getD (10 + 4 * g.ns.length + 6 * j + 2) 0)) (b.getD (10 + 4 * g.ns.length + 6 * j + 3) 0) = g.es[j].2.1 := by
  have hl := numsF_len g
  have := file_num e (j := 3 + 2 * g.ns.length + 3 * j + 1) (by omega)
  rw [show 4 + 2 * (3 + 2 * g.ns.length + 3 * j + 1) = 10 + 4 * g.ns.length + 6 * j + 2 by omega, show 10 + 4 * g.ns.length + 6 * j + 2 + 1 = 10 + 4 * g.ns.length + 6 * j + 3 by omega] at this
  rw [this]
  have e3 : (headN g).length = 3 := rfl
  have e4 : (g.ns.flatMap pN).length = 2 * g.ns.length := pN_len _
  have e5 : (g.es.flatMap eN).length = 3 * g.es.length := eN_len _
  rw [numsF, List.getD_eq_getElem?_getD, List.getElem?_append_left (by rw [List.length_append, List.length_append, e3, e4, e5]; omega), List.getElem?_append_right (by rw [List.length_append, e3, e4]; omega), List.length_append, e3, e4, show 3 + 2 * g.ns.length + 3 * j + 1 - (3 + 2 * g.ns.length) = j * 3 + 1 by omega, flat_getI (f := eN) (sz := 3) (fun _ => rfl) (by decide), List.getElem?_eq_getElem hj]
  rfl
theorem same_enc {g g' : Gra} (h : mayG g = true) (h' : mayG g' = true) : (encF g == encF g') = sameG g g' := by
  rw [Bool.eq_iff_iff, beq_iff_eq, sameG_iff]
  refine ⟨fun e => ?_, fun e => e.enc.symm⟩
  exact (encF_iff h e).inj (encF_iff h' rfl)
set_option maxHeartbeats 2000000 in
theorem frows5 {h : H} {p p' : Option (Nat × Nat)} {n n' : Nat} {vs vs' : List Int} (o : RoSl h p n 1 (ints .i64 vs)) (o' : RoSl h p' n' 1 (ints .i64 vs')) :
    ACalls Try.prog 5 [.sl p n, .sl p' n'] h (fun r _ => r = .bool true) := by
  refine call_ Try.func5 rfl rfl (by kernel_rfl) ?_
  conv => whnf
  refine br_mk (fun ha => ?_) (fun ha => ?_)
  · conv => whnf
    refine (awake7 _).mono ?_
    rintro _ h' ⟨rfl, _⟩
    conv => whnf
  conv => whnf
  refine br_mk (fun hb => ?_) (fun hb => ?_)
  · conv => whnf
    refine (awake7 _).mono ?_
    rintro _ h' ⟨rfl, _⟩
    conv => whnf
  conv => whnf
  simp at ha hb
  refine (town14 o.is (by omega)).mono ?_
  rintro _ h1 ⟨g, rfl, okg, m1, hm1⟩
  conv => whnf
  refine (town14 (o'.get m1).is (by omega)).mono ?_
  rintro _ h2 ⟨g', rfl, okg', m2, hm2⟩
  have okg := okg.old m2 (fun _ _ k => k)
  conv => whnf
  have m3 := Mod.push none_ h2 (.row true 3 gra0.cells)
  have m4 := Mod.push none_ (h2.push (.row true 3 gra0.cells)) (.row true 3 gra0.cells)
  have l1 : ((h2.push (.row true 3 gra0.cells)).push (.row true 3 gra0.cells)).obj h2.next = some (.row true 3 gra0.cells) := m4.get (H.obj_push_new _ _) (.inl (fun k => k))
  have l2 : ((h2.push (.row true 3 gra0.cells)).push (.row true 3 gra0.cells)).obj (h2.next + 1) = some (.row true 3 gra0.cells) := H.obj_push_new (h2.push (.row true 3 gra0.cells)) _
  have mm := mod_none m3 m4
  refine ⟨_, _, l1, Nat.le_of_ble_eq_true rfl, ?_⟩
  have ms := Mod.set (S := one h2.next) (ob := .row true 3 g.cells) rfl l1 rfl
  have lg := H.obj_set_same l1 (ob' := .row true 3 g.cells)
  have l2 := ms.get l2 (.inl (by unfold one; omega))
  have mm := mm.trans' ms (S2 := none_) (fun _ _ k => k) (fun i hi k => absurd hi (by unfold one at k; omega))
  clear m3 m4 l1 ms
  conv => whnf
  refine ⟨_, _, l2, Nat.le_of_ble_eq_true rfl, ?_⟩
  have ms := Mod.set (S := one (h2.next + 1)) (ob := .row true 3 g'.cells) rfl l2 rfl
  have lg' := H.obj_set_same l2 (ob' := .row true 3 g'.cells)
  have lg := ms.get lg (.inl (by unfold one; omega))
  have mm := mm.trans' ms (S2 := none_) (fun _ _ k => k) (fun i hi k => absurd hi (by unfold one at k; omega))
  clear l2 ms
  have okg := okg.old mm (fun _ _ k => k)
  have okg' := okg'.old mm (fun _ _ k => k)
  conv => whnf
  refine ⟨_, Cells.mk lg (Nat.le_of_ble_eq_true rfl) rfl, ?_⟩
  conv => whnf
  refine (encode9 g okg).mono ?_
  rintro _ h4 ⟨q4, rfl, o4, m4⟩
  rw [hm1]
  conv => whnf
  refine ⟨_, rfl, ?_⟩
  conv => whnf
  refine ⟨_, rfl, ?_⟩
  conv => whnf
  have okg := okg.old m4 (fun _ _ k => k)
  have okg' := okg'.old m4 (fun _ _ k => k)
  have lg := m4.get lg (.inl (fun k => k))
  have lg' := m4.get lg' (.inl (fun k => k))
  refine ⟨_, Cells.mk lg' (Nat.le_of_ble_eq_true rfl) rfl, ?_⟩
  conv => whnf
  refine (encode9 g' okg').mono ?_
  rintro _ h5 ⟨q5, rfl, o5, m5⟩
  rw [hm2]
  conv => whnf
  refine ⟨_, rfl, ?_⟩
  conv => whnf
  refine ⟨_, rfl, ?_⟩
  conv => whnf
  have okg := okg.old m5 (fun _ _ k => k)
  have okg' := okg'.old m5 (fun _ _ k => k)
  have lg := m5.get lg (.inl (fun k => k))
  have lg' := m5.get lg' (.inl (fun k => k))
  have o4 := o4.get m5
  have hsame := same_enc hm1 hm2
  have eB := encF_iff hm1 rfl
  have bB := encF_bts g
  have bB' := encF_bts g'
  have lB := encF_len g
  have lE := eB.len
  generalize encF g = b at *
  generalize encF g' = b' at *
  refine ⟨[0, 1, 2, 3, 4, 5, 6, 7, 8, 9, 10, 11, 12, 13, 14, 15, 16, 17, 18, 19, 20, 21], [0, 1, 3, 7, 15, 31, 63, 127, 255, 511, 1023, 2047, 4095, 8191, 4095, 20479, 65535, 4095, 4095, 397311, 1048575, 2097151], by kernel_rfl, ?_⟩
  conv => whnf
  have hlt : decide ((b.length : Int) < 14) = false := by
    simp
    omega
  rw [hlt]
  conv => whnf
  refine ⟨_, o4.is, bB, ?_⟩
  conv => whnf
  refine ⟨_, o5.is, bB', ?_⟩
  conv => whnf
  refine ⟨_, Cells.mk lg (Nat.le_of_ble_eq_true rfl) rfl, ?_⟩
  conv => whnf
  refine ⟨_, Cells.mk lg' (Nat.le_of_ble_eq_true rfl) rfl, ?_⟩
  conv => whnf
  refine (same13 g g' okg okg').mono ?_
  rintro _ h7 ⟨rfl, m7⟩
  conv => whnf
  have o4 := o4.get m7
  have o5 := o5.get m7
  have okg := okg.old m7 (fun _ _ k => k)
  have lg := m7.get lg (.inl (fun k => k))
  refine ⟨?_, ?_⟩
  · conv => whnf
    exact ⟨_, o5.is, bB', rfl⟩
  refine ⟨?_, ?_⟩
  · conv => whnf
    exact ⟨_, o4.is, bB, rfl⟩
  conv => whnf
  have hx : (!((b == b') == sameG g g')) = false := by
    rw [hsame, beq_self_eq_true]
    rfl
  rw [hx]
  conv => whnf
  clear hx hlt hsame lg' okg' m7
  have o5 := o4
  have ln := okg.ln
  have le := okg.le
  have lb := okg.lb
  refine ⟨fun env hh => ∃ (j : Nat) (z y : Int), j ≤ g.ns.length ∧ z = j ∧ y = ((10 + 4 * j : Nat) : Int) ∧ h7 = hh ∧ env = [(12, i64 z), (11, i64 y), (5, .ptr (some (h2.next, 0))), (7, .sl q4 b.length)],
    fun env _ => match get env 12 with
      | .int _ z => ((g.ns.length : Int) - z).toNat
      | _ => 0, ⟨_, Forget.cons rfl (Forget.cons rfl (Forget.cons rfl (Forget.cons rfl (Forget.nil _)))), 0, _, _, Nat.zero_le _, rfl, rfl, rfl, rfl⟩, ?_⟩
  rintro _ _ ⟨j, z, y, hj, rfl, rfl, rfl, rfl⟩
  conv => whnf
  refine ⟨_, Cell.mk lg rfl, ?_⟩
  conv => whnf
  refine br_mk (fun hd => ?_) (fun hd => ?_)
  · conv => whnf
    simp at hd
    refine ⟨[0, 1, 2, 3, 4, 5, 6, 7, 8, 9, 10, 11, 12, 13, 14, 15, 16, 17, 18, 19, 20, 21, 22, 23, 24, 25, 26], [0, 1, 0, 4, 15, 31, 63, 63, 255, 511, 1023, 2047, 63, 63, 8255, 28735, 61503, 127039, 262143, 63, 524351, 63, 3670079, 7864383, 16252991, 33554431, 67108863], by kernel_rfl, ?_⟩
    conv => whnf
    have hgt : decide (IntKind.i64.wrap (((10 + 4 * j : Nat) : Int) + 4) > (b.length : Int)) = false := by
      rw [wrap_i64 (by omega) (by omega)]
      simp
      omega
    rw [hgt]
    conv => whnf
    obtain ⟨i0, c0, e0, k0⟩ := slo_get o5.is (j := 10 + 4 * j + 0) (by omega)
    refine ⟨i0, c0, 10 + 4 * j + 0, e0, rfl, by omega, ?_⟩
    conv => whnf
    refine ⟨_, k0, ?_⟩
    conv => whnf
    refine ⟨by decide, ?_⟩
    conv => whnf
    obtain ⟨i1, c1, e1, k1⟩ := slo_get o5.is (j := 10 + 4 * j + 1) (by omega)
    refine ⟨i1, c1, 10 + 4 * j + 1, e1, (by rw [wrap_i64 (by omega) (by omega)]; omega), by omega, ?_⟩
    conv => whnf
    refine ⟨_, k1, ?_⟩
    conv => whnf
    refine ⟨_, Cell.mk lg rfl, ?_⟩
    conv => whnf
    obtain ⟨i, c, e9, _, k9⟩ := sls_get pC_len okg.n rfl hd
    refine ⟨i, c, j, e9, rfl, hd, ?_⟩
    conv => whnf
    refine ⟨_, k9 0 (i64 g.ns[j].1) rfl, ?_⟩
    conv => whnf
    have hv : (shOr (IntKind.i64.wrap (b.getD (10 + 4 * j + 0) 0)) (b.getD (10 + 4 * j + 1) 0) != g.ns[j].1) = false := by
      rw [file_node eB hd]
      simp
    have hv2 := congrArg (fun x => x) hv
    unfold shOr at hv
    rw [hv]
    conv => whnf
    have ha : IntKind.i64.wrap (((10 + 4 * j : Nat) : Int) + 4) = ((10 + 4 * (j + 1) : Nat) : Int) := by
      rw [wrap_i64 (by omega) (by omega)]
      omega
    have hs2 := succ_i64 (j := j) (n := g.ns.length) hd (by omega)
    refine ⟨_, Forget.cons rfl (Forget.cons rfl (Forget.cons rfl (Forget.cons rfl (Forget.nil _)))), ⟨j + 1, _, _, by omega, hs2, ha, rfl, rfl⟩, ?_⟩
    show ((g.ns.length : Int) - IntKind.i64.wrap ((j : Int) + 1)).toNat < ((g.ns.length : Int) - (j : Int)).toNat
    rw [hs2]
    omega
  conv => whnf
  simp at hd
  obtain rfl : j = g.ns.length := by omega
  clear hd hj
  refine ⟨fun env hh => ∃ (j : Nat) (z y : Int), j ≤ g.es.length ∧ z = j ∧ y = (((10 + 4 * g.ns.length) + 6 * j : Nat) : Int) ∧ h7 = hh ∧ env = [(13, i64 z), (11, i64 y), (5, .ptr (some (h2.next, 0))), (7, .sl q4 b.length)],
    fun env _ => match get env 13 with
      | .int _ z => ((g.es.length : Int) - z).toNat
      | _ => 0, ⟨_, Forget.cons rfl (Forget.cons rfl (Forget.cons rfl (Forget.cons rfl (Forget.nil _)))), 0, _, _, Nat.zero_le _, rfl, rfl, rfl, rfl⟩, ?_⟩
  rintro _ _ ⟨j, z, y, hj, rfl, rfl, rfl, rfl⟩
  conv => whnf
  refine ⟨_, Cell.mk lg rfl, ?_⟩
  conv => whnf
  refine br_mk (fun hd => ?_) (fun hd => ?_)
  · conv => whnf
    simp at hd
    refine ⟨[0, 1, 2, 3, 4, 5, 6, 7, 8, 9, 10, 11, 12, 13, 14, 15, 16, 17, 18, 19, 20, 21, 22, 23, 24, 25, 26, 27], [0, 1, 0, 4, 15, 31, 63, 63, 191, 511, 1023, 2047, 4095, 63, 63, 16447, 57407, 122943, 254015, 524287, 63, 1048639, 63, 7340095, 15728703, 32505919, 67108863, 134217727], by kernel_rfl, ?_⟩
    conv => whnf
    have hgt : decide (IntKind.i64.wrap ((((10 + 4 * g.ns.length) + 6 * j : Nat) : Int) + 6) > (b.length : Int)) = false := by
      rw [wrap_i64 (by omega) (by omega)]
      simp
      omega
    rw [hgt]
    conv => whnf
    obtain ⟨i0, c0, e0, k0⟩ := slo_get o5.is (j := (10 + 4 * g.ns.length) + 6 * j + 2) (by omega)
    refine ⟨i0, c0, (10 + 4 * g.ns.length) + 6 * j + 2, e0, (by rw [wrap_i64 (by omega) (by omega)]; omega), by omega, ?_⟩
    conv => whnf
    refine ⟨_, k0, ?_⟩
    conv => whnf
    refine ⟨by decide, ?_⟩
    conv => whnf
    obtain ⟨i1, c1, e1, k1⟩ := slo_get o5.is (j := (10 + 4 * g.ns.length) + 6 * j + 3) (by omega)
    refine ⟨i1, c1, (10 + 4 * g.ns.length) + 6 * j + 3, e1, (by rw [wrap_i64 (by omega) (by omega)]; omega), by omega, ?_⟩
    conv => whnf
    refine ⟨_, k1, ?_⟩
    conv => whnf
    refine ⟨_, Cell.mk lg rfl, ?_⟩
    conv => whnf
    obtain ⟨i, c, e9, _, k9⟩ := sls_get eC_len okg.e rfl hd
    refine ⟨i, c, j, e9, rfl, hd, ?_⟩
    conv => whnf
    refine ⟨_, k9 1 (i64 g.es[j].2.1) rfl, ?_⟩
    conv => whnf
    have hv : (shOr (IntKind.i64.wrap (b.getD ((10 + 4 * g.ns.length) + 6 * j + 2) 0)) (b.getD ((10 + 4 * g.ns.length) + 6 * j + 3) 0) != g.es[j].2.1) = false := by
      rw [file_edge eB hd]
      simp
    have hv2 := congrArg (fun x => x) hv
    unfold shOr at hv
    rw [hv]
    conv => whnf
    have ha : IntKind.i64.wrap ((((10 + 4 * g.ns.length) + 6 * j : Nat) : Int) + 6) = (((10 + 4 * g.ns.length) + 6 * (j + 1) : Nat) : Int) := by
      rw [wrap_i64 (by omega) (by omega)]
      omega
    have hs2 := succ_i64 (j := j) (n := g.es.length) hd (by omega)
    refine ⟨_, Forget.cons rfl (Forget.cons rfl (Forget.cons rfl (Forget.cons rfl (Forget.nil _)))), ⟨j + 1, _, _, by omega, hs2, ha, rfl, rfl⟩, ?_⟩
    show ((g.es.length : Int) - IntKind.i64.wrap ((j : Int) + 1)).toNat < ((g.es.length : Int) - (j : Int)).toNat
    rw [hs2]
    omega
  conv => whnf
  simp at hd
  obtain rfl : j = g.es.length := by omega
  clear hd hj
  refine ⟨_, Cell.mk lg rfl, ?_⟩
  conv => whnf
  have hsum : (IntKind.i64.wrap (IntKind.i64.wrap (((10 + 4 * g.ns.length + 6 * g.es.length : Nat) : Int) + IntKind.i64.wrap (4 * (g.bs.length : Int))) + 4) == (b.length : Int)) = true := by
    rw [wrap_i64 (x := 4 * (g.bs.length : Int)) (by omega) (by omega), wrap_i64 (x := ((10 + 4 * g.ns.length + 6 * g.es.length : Nat) : Int) + 4 * (g.bs.length : Int)) (by omega) (by omega), wrap_i64 (by omega) (by omega), beq_iff_eq]
    omega
  rw [hsum]
  conv => whnf
  refine (awake7 _).mono ?_
  rintro _ h' ⟨rfl, _⟩
  conv => whnf
end Go.Proofs.Ytjjcalkeodfokaa
