/- The law FileBack. -/
import Derived.Test.YtjjcalkeodfokaaR18
set_option linter.unusedVariables false
namespace Go.Proofs.Ytjjcalkeodfokaa
open Go Go.Ab
theorem foldl_flip_len (ks : List Nat) : ∀ c : List Int, (ks.foldl flip1 c).length = c.length := by
  induction ks with
  | nil => exact fun _ => rfl
  | cons k ks ih => exact fun c => by rw [List.foldl_cons, ih, flip1_length]
theorem foldl_flip_bts (ks : List Nat) : ∀ c : List Int, Bts c → Bts (ks.foldl flip1 c) := by
  induction ks with
  | nil => exact fun _ h => h
  | cons k ks ih => exact fun c h => ih _ (flip1_bts h k)
theorem foldl_take_succ {α : Type} (f : α → Nat → α) (z : α) {ks : List Nat} {j : Nat} (hj : j < ks.length) : (ks.take (j + 1)).foldl f z = f ((ks.take j).foldl f z) (ks.getD j 0) := by
  rw [List.take_add_one, List.foldl_append, List.getElem?_eq_getElem hj, List.getD_eq_getElem?_getD, List.getElem?_eq_getElem hj]
  rfl
theorem tdiv8 (k : Nat) (hk : k < 1000000) : IntKind.i64.wrap ((k : Int).tdiv 8) = ((k / 8 : Nat) : Int) := by
  have e : (k : Int).tdiv 8 = ((k / 8 : Nat) : Int) := rfl
  rw [e, wrap_i64 (by omega) (by omega)]
theorem tmod8 (k : Nat) : (k : Int).tmod 8 = ((k % 8 : Nat) : Int) := rfl
/-- Decode of what is of no graph -/
theorem decode_no {h : H} {p : Option (Nat × Nat)} {n : Nat} {b : List Int} (o : SlIs h p n false 1 (ints .u8 b)) (bb : Bts b) (hn : n ≤ 100000) (hno : ∀ g, ¬ EncF b g) : ACalls Try.prog 11 [.sl p n] h (fun r h' => r = .tup [.agg gra0.cells, i64 2] ∧ Ab.Mod none_ h h') :=
  (decode11 o bb hn).mono fun r h' ⟨g1, ok, e, k, m, d⟩ => by
    obtain ⟨rfl, rfl⟩ := d.no hno
    exact ⟨e, m⟩
set_option maxHeartbeats 2000000 in
theorem fback4 {h : H} {p : Option (Nat × Nat)} {n : Nat} {vs : List Int} (o : RoSl h p n 1 (ints .i64 vs)) (cut more l0 l1 l2 : Int) (hm0 : 0 ≤ more) (hm1 : more < 256) :
    ACalls Try.prog 4 [.sl p n, i64 cut, .int .u8 more, .agg [i64 l0, i64 l1, i64 l2]] h (fun r _ => r = .bool true) := by
  refine call_ Try.func4 rfl rfl (by kernel_rfl) ?_
  conv => whnf
  have mb := Mod.push none_ h (.row true 3 [i64 l0, i64 l1, i64 l2])
  have gb : (h.push (.row true 3 [i64 l0, i64 l1, i64 l2])).obj h.next = some (.row true 3 [i64 l0, i64 l1, i64 l2]) := H.obj_push_new _ _
  refine br_mk (fun ha => ?_) (fun ha => ?_)
  · conv => whnf
    refine (awake7 _).mono ?_
    rintro _ h' ⟨rfl, _⟩
    conv => whnf
  conv => whnf
  simp at ha
  refine (town14 (SlIs.old o.is mb (fun _ _ k => k)) (by omega)).mono ?_
  rintro _ h1 ⟨g, rfl, okg, m1, hmay⟩
  conv => whnf
  obtain ⟨g0, lg, m2⟩ := laid (h := h1) g
  refine ⟨_, _, g0, Nat.le_of_ble_eq_true rfl, ?_⟩
  conv => whnf
  have okg := okg.old m2 (fun _ _ k => k)
  have mm := mod_none m1 m2
  have gb := mm.get gb (.inl (fun k => k))
  clear m1 m2 g0 mm
  refine ⟨_, Cells.mk lg (Nat.le_of_ble_eq_true rfl) rfl, ?_⟩
  conv => whnf
  refine (encode9 g okg).mono ?_
  rintro _ h3 ⟨q3, rfl, o3, m3⟩
  have eB := encF_iff hmay rfl
  have bB := encF_bts g
  have lB := encF_len g
  have lE := eB.len
  rw [hmay]
  generalize encF g = b at *
  conv => whnf
  refine ⟨_, rfl, ?_⟩
  conv => whnf
  refine ⟨_, rfl, ?_⟩
  conv => whnf
  have okg := okg.old m3 (fun _ _ k => k)
  have lg := m3.get lg (.inl (fun k => k))
  have gb := m3.get gb (.inl (fun k => k))
  refine (decode11 o3.is bB (by omega)).mono ?_
  rintro _ h4 ⟨g1, ok1, rfl, k1, m4, d1⟩
  obtain ⟨rfl, eq1⟩ := d1.yes eB
  conv => whnf
  refine ⟨_, rfl, ?_⟩
  conv => whnf
  refine ⟨_, rfl, ?_⟩
  conv => whnf
  obtain ⟨g0, lx, m5⟩ := laid (h := h4) g1
  refine ⟨_, _, g0, Nat.le_of_ble_eq_true rfl, ?_⟩
  conv => whnf
  have mm := mod_none m4 m5
  have okg := okg.old mm (fun _ _ k => k)
  have k1 := k1.old m5 (fun _ _ k => k)
  have lg := mm.get lg (.inl (fun k => k))
  have gb := mm.get gb (.inl (fun k => k))
  have o3 := o3.get mm
  clear m4 m5 g0 mm
  have hz : ((b.length : Int) == 0) = false := by
    simp
    intro e
    rw [e] at lE
    simp at lE
    omega
  rw [hz]
  conv => whnf
  refine ⟨_, Cells.mk lx (Nat.le_of_ble_eq_true rfl) rfl, ?_⟩
  conv => whnf
  refine ⟨_, Cells.mk lg (Nat.le_of_ble_eq_true rfl) rfl, ?_⟩
  conv => whnf
  refine (same13 g1 g k1 okg).mono ?_
  rintro _ h6 ⟨rfl, m6⟩
  have hsame : sameG g1 g = true := sameG_iff.2 ⟨eq1.1.symm, eq1.2.1.symm, eq1.2.2.symm⟩
  rw [hsame]
  conv => whnf
  have okg := okg.old m6 (fun _ _ k => k)
  have lg := m6.get lg (.inl (fun k => k))
  have gb := m6.get gb (.inl (fun k => k))
  have o3 := o3.get m6
  clear m6 lx k1 hsame
  refine (round33 (m := (b.length : Int)) (by omega) (by omega) cut _).mono ?_
  rintro _ h' ⟨eh, rfl⟩
  subst h'
  conv => whnf
  have c0 := Int.emod_nonneg cut (show (b.length : Int) ≠ 0 by omega)
  have c1 := Int.emod_lt_of_pos cut (show (0 : Int) < (b.length : Int) by omega)
  obtain ⟨N, hN⟩ : ∃ N : Nat, cut % (b.length : Int) = N := ⟨(cut % (b.length : Int)).toNat, by omega⟩
  rw [hN] at c1 ⊢
  refine ⟨⟨_, o3.is⟩, ?_⟩
  conv => whnf
  refine ⟨N, rfl, Nat.zero_le _, by omega, ?_⟩
  conv => whnf
  have oc : Oct h6 (slp q3 0) (N - 0) (b.take N) := o3.cut (Nat.zero_le N) (by omega)
  refine (decode_no oc.is (bts_take bB N) (by omega) (eB.cut (by omega))).mono ?_
  rintro _ h7 ⟨rfl, m7⟩
  conv => whnf
  refine ⟨_, rfl, ?_⟩
  conv => whnf
  refine ⟨_, rfl, ?_⟩
  conv => whnf
  obtain ⟨g0, lx, m8⟩ := laid (h := h7) gra0
  refine ⟨_, _, g0, Nat.le_of_ble_eq_true rfl, ?_⟩
  conv => whnf
  have mm := mod_none m7 m8
  have okg := okg.old mm (fun _ _ k => k)
  have lg := mm.get lg (.inl (fun k => k))
  have gb := mm.get gb (.inl (fun k => k))
  have o3 := o3.get mm
  clear m7 m8 g0 mm lx oc
  have w0 := NewS.empty ((h7.push (.row true 3 gra0.cells)).set h7.next (.row true 3 gra0.cells)) .u8
  refine ⟨_, _, w0.1, SlIs.old o3.is w0.2.2 (fun _ _ k => k), by rw [T5b]; omega, by omega, fun p9 h9 hs hm hf => ?_⟩
  have w9 := w0.app hs hm hf
  rw [List.nil_append] at w9
  clear hs hm hf w0
  conv => whnf
  have w9 := w9.keep (Mod.push none_ h9 (.row true 1 (ints .u8 [more])))
  refine ⟨_, ints .u8 [more], w9.1, (SlIs.row (n := 1) (H.obj_push_new h9 (.row true 1 (ints .u8 [more]))) rfl).weak, by rw [T5b]; omega, by omega, fun p10 h10 hs hm hf => ?_⟩
  have w10 := w9.app hs hm hf
  clear hs hm hf w9
  conv => whnf
  have bM : Bts (b ++ [more]) := bB.append (fun x hx => by
    obtain rfl := List.mem_singleton.1 hx
    exact ⟨hm0, hm1⟩)
  refine (decode_no w10.1.weak bM (by omega) (eB.longer more)).mono ?_
  rintro _ h11 ⟨rfl, m11⟩
  conv => whnf
  refine ⟨_, rfl, ?_⟩
  conv => whnf
  refine ⟨_, rfl, ?_⟩
  conv => whnf
  obtain ⟨g0, lx, m12⟩ := laid (h := h11) gra0
  refine ⟨_, _, g0, Nat.le_of_ble_eq_true rfl, ?_⟩
  conv => whnf
  have mm := mod_none w10.2.2 (mod_none m11 m12)
  have okg := okg.old mm (fun _ _ k => k)
  have lg := mm.get lg (.inl (fun k => k))
  have gb := mm.get gb (.inl (fun k => k))
  have o3 := o3.get mm
  clear m11 m12 g0 mm lx w10 bM
  have w0 := NewS.empty ((h11.push (.row true 3 gra0.cells)).set h11.next (.row true 3 gra0.cells)) .u8
  refine ⟨_, _, w0.1, SlIs.old o3.is w0.2.2 (fun _ _ k => k), by rw [T5b]; omega, by omega, fun p13 h13 hs hm hf => ?_⟩
  have w13 := w0.app hs hm hf
  rw [List.nil_append] at w13
  clear hs hm hf w0
  conv => whnf
  rw [Nat.zero_add] at w13 ⊢
  let m : Int := ((8 * b.length : Nat) : Int)
  have hm : m = ((8 * b.length : Nat) : Int) := rfl
  have hmp : 0 < m := by omega
  let ks : List Nat := [(l0 % m).toNat, (l1 % m).toNat, (l2 % m).toNat]
  have hks : ∀ j, j < 3 → (([l0, l1, l2] : List Int).getD j 0 % m) = (ks.getD j 0 : Int) ∧ ks.getD j 0 < 8 * b.length := by
    have key : ∀ l : Int, l % m = ((l % m).toNat : Int) ∧ (l % m).toNat < 8 * b.length := fun l => by
      have e0 := Int.emod_nonneg l (show m ≠ 0 by omega)
      have e1 := Int.emod_lt_of_pos l hmp
      omega
    intro j hj
    match j, hj with
    | 0, _ => exact key l0
    | 1, _ => exact key l1
    | 2, _ => exact key l2
  refine ⟨fun env hh => ∃ (a : Nat) (z : Int), a ≤ 3 ∧ z = a ∧ NewS ((h11.push (.row true 3 gra0.cells)).set h11.next (.row true 3 gra0.cells)) hh .u8 p13 b.length ((ks.take a).foldl flip1 b) ∧ env = [(19, i64 z), (18, .sl p13 b.length), (10, .sl q3 b.length), (7, .ptr (some (h.next, 0))), (15, i64 2), (17, i64 2), (9, .ptr (some (h1.next, 0)))],
    fun env _ => match get env 19 with
      | .int _ z => ((3 : Int) - z).toNat
      | _ => 0, ⟨_, Forget.cons rfl (Forget.cons rfl (Forget.cons rfl (Forget.cons rfl (Forget.cons rfl (Forget.cons rfl (Forget.cons rfl (Forget.nil _))))))), 0, _, Nat.zero_le _, rfl, w13, rfl⟩, ?_⟩
  clear w13
  rintro _ h14 ⟨a, z, ha3, rfl, w, rfl⟩
  have gb6 := w.2.2.get gb (.inl (fun k => k))
  have hl6 := foldl_flip_len (ks.take a) b
  have bl6 := foldl_flip_bts (ks.take a) b bB
  conv => whnf
  refine br_mk (fun hc => ?_) (fun hc => ?_)
  · simp at hc
    conv => whnf
    refine ⟨a, rfl, by omega, ?_⟩
    conv => whnf
    refine ⟨_, Cell.mk (v := i64 (([l0, l1, l2] : List Int).getD a 0)) gb6 ?_, ?_⟩
    · match a, hc with
      | 0, _ => rfl
      | 1, _ => rfl
      | 2, _ => rfl
    conv => whnf
    rw [wrap_i64 (x := 8 * (b.length : Int)) (by omega) (by omega), show 8 * (b.length : Int) = m by omega]
    refine (round33 (m := m) hmp (by omega) _ h14).mono ?_
    rintro _ h' ⟨eh, rfl⟩
    subst h'
    obtain ⟨e1, e2⟩ := hks a (by omega)
    rw [e1]
    generalize hkn : ks.getD a 0 = kn at *
    conv => whnf
    have t8 := tdiv8 kn (by omega)
    have hr := foldl_take_succ flip1 b (ks := ks) (j := a) (by
      show a < 3
      omega)
    rw [hkn] at hr
    have hs2 := succ_i64 (j := a) (n := 3) (by omega) (by omega)
    have hmu : ((3 : Int) - ((a + 1 : Nat) : Int)).toNat < ((3 : Int) - (a : Int)).toNat := by omega
    refine ⟨[0, 1, 2, 3, 4, 5, 6, 7, 8, 9, 10], [0, 0, 2, 7, 15, 0, 32, 96, 255, 511, 1023], by kernel_rfl, ?_⟩
    conv => whnf
    refine ⟨by decide, ?_⟩
    conv => whnf
    obtain ⟨i, c, sz, ces, rfl, g7, l7, w7⟩ := w.put (j := kn / 8) (by omega) (tw (((ks.take a).foldl flip1 b).getD (kn / 8) 0) (kn % 8))
    refine ⟨i, c, kn / 8, rfl, t8, by omega, ?_⟩
    conv => whnf
    obtain ⟨i', c', e, k7⟩ := slo_get w.1.weak (j := kn / 8) (by omega)
    injection e with e
    injection e with e1' e2'
    subst e1' e2'
    refine ⟨_, k7, ?_⟩
    conv => whnf
    refine ⟨by decide, ?_⟩
    conv => whnf
    rw [tmod8]
    refine ⟨by omega, ?_⟩
    conv => whnf
    refine ⟨i, c, kn / 8, rfl, t8, by omega, ?_⟩
    conv => whnf
    refine ⟨_, _, g7, l7, ?_⟩
    conv => whnf
    rw [hs2]
    refine ⟨_, Forget.cons rfl (Forget.cons rfl (Forget.cons rfl (Forget.cons rfl (Forget.cons rfl (Forget.cons rfl (Forget.cons rfl (Forget.nil _))))))), ⟨a + 1, _, by omega, rfl, ?_, rfl⟩, hmu⟩
    rw [hr]
    exact w7
  conv => whnf
  simp at hc
  obtain rfl : a = 3 := by omega
  have e3 : (ks.take 3).foldl flip1 b = flip1 (flip1 (flip1 b (ks.getD 0 0)) (ks.getD 1 0)) (ks.getD 2 0) := rfl
  have h0 := (hks 0 (by decide)).2
  have h1' := (hks 1 (by decide)).2
  have h2' := (hks 2 (by decide)).2
  obtain ⟨f1, f2⟩ := eB.flip3 (a := ks.getD 0 0) (d := ks.getD 1 0) (f := ks.getD 2 0) (by omega) (by omega) (by omega)
  rw [← e3] at f1 f2
  clear e3 gb6
  generalize (ks.take 3).foldl flip1 b = C at *
  refine (decode_no w.1.weak bl6 (by omega) f2).mono ?_
  rintro _ h15 ⟨rfl, m15⟩
  conv => whnf
  refine ⟨_, rfl, ?_⟩
  conv => whnf
  refine ⟨_, rfl, ?_⟩
  conv => whnf
  obtain ⟨g0, lx, m16⟩ := laid (h := h15) gra0
  refine ⟨_, _, g0, Nat.le_of_ble_eq_true rfl, ?_⟩
  conv => whnf
  have w := (w.keep m15).keep m16
  have okg := okg.old w.2.2 (fun _ _ k => k)
  have lg := w.2.2.get lg (.inl (fun k => k))
  have o3 := o3.get w.2.2
  refine ⟨_, w.1.weak, bl6, ?_⟩
  conv => whnf
  refine ⟨_, o3.is, bB, ?_⟩
  conv => whnf
  have hne : (C == b) = false := by simpa using f1
  rw [hne]
  conv => whnf
  refine ⟨_, Cell.mk lg rfl, ?_⟩
  conv => whnf
  refine ⟨_, Cell.mk lg rfl, ?_⟩
  conv => whnf
  refine ⟨_, Cell.mk lg rfl, ?_⟩
  conv => whnf
  have hsum : ((b.length : Int) == IntKind.i64.wrap (IntKind.i64.wrap (IntKind.i64.wrap (14 + IntKind.i64.wrap (4 * (g.ns.length : Int))) + IntKind.i64.wrap (6 * (g.es.length : Int))) + IntKind.i64.wrap (4 * (g.bs.length : Int)))) = true := by
    rw [wrap_i64 (x := 4 * (g.ns.length : Int)) (by omega) (by omega), wrap_i64 (x := 6 * (g.es.length : Int)) (by omega) (by omega), wrap_i64 (x := 4 * (g.bs.length : Int)) (by omega) (by omega), wrap_i64 (x := 14 + 4 * (g.ns.length : Int)) (by omega) (by omega), wrap_i64 (x := 14 + 4 * (g.ns.length : Int) + 6 * (g.es.length : Int)) (by omega) (by omega), wrap_i64 (by omega) (by omega), beq_iff_eq]
    omega
  rw [hsum]
  conv => whnf
  refine (awake7 _).mono ?_
  rintro _ h' ⟨rfl, _⟩
  conv => whnf
end Go.Proofs.Ytjjcalkeodfokaa
