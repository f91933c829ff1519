/- The law GramBack. -/
import Derived.Test.YtnpfdppmpmnhbaaS47
set_option linter.unusedVariables false
namespace Go.Proofs.Ytnpfdppmpmnhbaa
open Go Go.Ab
theorem canonG_encG {m : Grm} (h : gOk m = true) : encG (canonG m) = encG m ∧ gOk (canonG m) = true := by
  have e := canonG_enc h
  have h2 := h
  simp only [gOk, Bool.and_eq_true, decide_eq_true_eq] at h2
  have ok := e.gOk h2.2
  refine ⟨?_, ok⟩
  rw [encG, encG, ok, h, e.is]
  rfl
set_option maxHeartbeats 1000000 in
theorem gback15 {h : H} (m : Grm) (sm : SlIs h m.bp m.bd.length false 1 (ints .u8 m.bd)) (bm : Bts m.bd) (l0 l1 l2 : Int) :
    ACalls Try.prog 15 [.agg m.cells, .agg [i64 l0, i64 l1, i64 l2]] h (fun r _ => r = .bool true) := by
  refine call_ Try.func15 rfl rfl (by kernel_rfl) ?_
  conv => whnf
  have m1 := Mod.push none_ h (.row true 6 m.cells)
  have m2 := Mod.push none_ (h.push (.row true 6 m.cells)) (.row true 3 [i64 l0, i64 l1, i64 l2])
  have g1 : ((h.push (.row true 6 m.cells)).push (.row true 3 [i64 l0, i64 l1, i64 l2])).obj h.next = some (.row true 6 m.cells) := m2.get (H.obj_push_new _ _) (.inl (fun k => k))
  have gb : ((h.push (.row true 6 m.cells)).push (.row true 3 [i64 l0, i64 l1, i64 l2])).obj (h.next + 1) = some (.row true 3 [i64 l0, i64 l1, i64 l2]) := H.obj_push_new (h.push (.row true 6 m.cells)) _
  have mm := mod_none m1 m2
  clear m1 m2
  refine ⟨_, Cell.mk g1 rfl, ?_⟩
  conv => whnf
  refine br_mk (fun ha => ?_) (fun ha => ?_)
  · conv => whnf
    refine (awake48 _).mono ?_
    rintro _ h' ⟨rfl, _⟩
    conv => whnf
  conv => whnf
  simp at ha
  have km : m.ok ((h.push (.row true 6 m.cells)).push (.row true 3 [i64 l0, i64 l1, i64 l2])) := ⟨SlIs.old sm mm (fun _ _ k => k), bm, by omega⟩
  refine ⟨m.cells, Cells.mk g1 (Nat.le_of_ble_eq_true rfl) rfl, ?_⟩
  conv => whnf
  refine (genc49 m km).mono ?_
  rintro _ h2 ⟨q2, rfl, o2, m2⟩
  conv => whnf
  refine ⟨_, rfl, ?_⟩
  conv => whnf
  refine ⟨_, rfl, ?_⟩
  conv => whnf
  have g1 := m2.get g1 (.inl (fun k => k))
  have gb := m2.get gb (.inl (fun k => k))
  have hB : gOk m = false → encG m = [] := fun e => by rw [encG, e]; rfl
  cases hE : gOk m with
  | false =>
    rw [hB hE]
    conv => whnf
    refine (awake48 _).mono ?_
    rintro _ h' ⟨rfl, _⟩
    conv => whnf
  | true =>
    have hE2 := hE
    simp only [gOk, Bool.and_eq_true, decide_eq_true_eq] at hE2
    have hk := gk_byte hE2.1.1
    have bF := encG_bts (m := m) bm
    have ec := canonG_enc hE
    have uF := un_encG hE
    have ecc := canonG_encG hE
    have hF : encG m = frm 77 3 m.k (gpay m) := by rw [encG, hE]; rfl
    have hfl : (encG m).length = (gpay m).length + 9 := by rw [hF, frm_length]
    have hpl := gpay_len m
    have bp := gpay_bts bm
    clear hB km
    have key0 : ∀ a b d : Nat, a / 8 < (gpay m).length + 9 → b / 8 < (gpay m).length + 9 → d / 8 < (gpay m).length + 9 → turn1 (turn1 (turn1 (encG m) a) b) d ≠ encG m → unV (turn1 (turn1 (turn1 (encG m) a) b) d) = (0, [], 2) := fun a b d ha hb hd hne => by
      rw [hF] at hne ⊢
      exact un_turn3 (by omega) hk.1 hk.2 bp ha hb hd hne
    clear hF
    generalize encG m = F at *
    generalize hxl : (gpay m).length = xl at *
    rw [hfl] at o2 ⊢
    conv => whnf
    refine (gdec51 o2.is bF (by omega)).mono ?_
    rintro _ h3 ⟨x, ex, rfl, kx, m3, dx⟩
    obtain ⟨rfl, eqx, _⟩ := dx.yes uF ec
    conv => whnf
    refine ⟨_, rfl, ?_⟩
    conv => whnf
    refine ⟨_, rfl, ?_⟩
    conv => whnf
    obtain ⟨g0, gx, m4⟩ := layG (h := h3) x
    refine ⟨_, _, g0, Nat.le_of_ble_eq_true rfl, ?_⟩
    conv => whnf
    have m34 := mod_none m3 m4
    have o2 := o2.get m34
    have g1 := m34.get g1 (.inl (fun k => k))
    have gb := m34.get gb (.inl (fun k => k))
    have kx := kx.old m4 (fun _ _ k => k)
    refine ⟨x.cells, Cells.mk gx (Nat.le_of_ble_eq_true rfl) rfl, ?_⟩
    conv => whnf
    refine (genc49 x kx).mono ?_
    rintro _ h5 ⟨q5, rfl, o5, m5⟩
    have hxB : encG x = F := by rw [eqx.encG]; exact ecc.1
    have hxE : gOk x = true := by rw [eqx.gOk]; exact ecc.2
    rw [hxB, hfl] at o5 ⊢
    rw [hxE]
    conv => whnf
    refine ⟨_, rfl, ?_⟩
    conv => whnf
    refine ⟨_, rfl, ?_⟩
    conv => whnf
    have o2 := o2.get m5
    have g1 := m5.get g1 (.inl (fun k => k))
    have gb := m5.get gb (.inl (fun k => k))
    have gx := m5.get gx (.inl (fun k => k))
    have w0 := NewS.empty h5 .u8
    refine ⟨_, _, w0.1, SlIs.old o2.is w0.2.2 (fun _ _ k => k), by rw [T5b]; omega, by omega, fun p6 h6 hs6 hm6 hf6 => ?_⟩
    have w6 : NewS h5 h6 .u8 p6 (0 + (xl + 9)) ([] ++ F) := w0.app hs6 hm6 hf6
    rw [List.nil_append] at w6
    clear hs6 hm6 hf6 w0 m3 m4 m34 m5 m2 mm
    conv => whnf
    rw [Nat.zero_add] at w6 ⊢
    let mq : Int := ((8 * (xl + 9) : Nat) : Int)
    have hmq : mq = ((8 * (xl + 9) : Nat) : Int) := rfl
    have hm0 : 0 < mq := by omega
    let ks : List Nat := [(l0 % mq).toNat, (l1 % mq).toNat, (l2 % mq).toNat]
    have hks : ∀ j, j < 3 → (([l0, l1, l2] : List Int).getD j 0 % mq) = (ks.getD j 0 : Int) ∧ ks.getD j 0 < 8 * (xl + 9) := by
      have key : ∀ l : Int, l % mq = ((l % mq).toNat : Int) ∧ (l % mq).toNat < 8 * (xl + 9) := fun l => by
        have e0 := Int.emod_nonneg l (show mq ≠ 0 by omega)
        have e1 := Int.emod_lt_of_pos l hm0
        omega
      intro j hj
      match j, hj with
      | 0, _ => exact key l0
      | 1, _ => exact key l1
      | 2, _ => exact key l2
    refine ⟨fun env hh => ∃ (a : Nat) (z : Int), a ≤ 3 ∧ z = a ∧ NewS h5 hh .u8 p6 (xl + 9) ((ks.take a).foldl turn1 F) ∧ env = [(12, i64 z), (11, .sl p6 (xl + 9)), (10, i64 0), (9, .sl q5 (xl + 9)), (8, i64 0), (7, .ptr (some (h3.next, 0))), (5, .sl q2 (xl + 9)), (3, .ptr (some (h.next + 1, 0))), (2, .ptr (some (h.next, 0)))],
      fun env _ => match get env 12 with
        | .int _ z => (3 - z).toNat
        | _ => 0, ⟨_, Forget.cons rfl (Forget.cons rfl (Forget.cons rfl (Forget.cons rfl (Forget.cons rfl (Forget.cons rfl (Forget.cons rfl (Forget.cons rfl (Forget.cons rfl (Forget.nil _))))))))), 0, _, Nat.zero_le _, rfl, w6, rfl⟩, ?_⟩
    clear w6
    rintro _ h7 ⟨a, z, ha3, rfl, w7, rfl⟩
    have gb7 := w7.2.2.get gb (.inl (fun k => k))
    have hl7 := foldl_turn_len (ks.take a) F
    have bl7 := foldl_turn_bts (ks.take a) F bF
    conv => whnf
    refine br_mk (fun hc => ?_) (fun hc => ?_)
    · simp at hc
      conv => whnf
      refine ⟨a, rfl, by omega, ?_⟩
      conv => whnf
      refine ⟨_, Cell.mk (v := i64 (([l0, l1, l2] : List Int).getD a 0)) gb7 ?_, ?_⟩
      · match a, hc with
        | 0, _ => rfl
        | 1, _ => rfl
        | 2, _ => rfl
      conv => whnf
      rw [wrap_i64 (x := 8 * ((xl + 9 : Nat) : Int)) (by omega) (by omega), show 8 * ((xl + 9 : Nat) : Int) = mq by omega]
      refine (round33 (m := mq) hm0 (by omega) _ h7).mono ?_
      rintro _ h' ⟨eh, rfl⟩
      subst h'
      obtain ⟨e1, e2⟩ := hks a (by omega)
      rw [e1]
      generalize hkn : ks.getD a 0 = kn at *
      conv => whnf
      have t8 := tdiv8 kn (by omega)
      refine ⟨by decide, ?_⟩
      conv => whnf
      rw [t8]
      have hr := foldl_take_succ turn1 F (ks := ks) (j := a) (by
        show a < 3
        omega)
      rw [hkn] at hr
      have hs2 := succ_i64 (j := a) (n := 3) (by omega) (by omega)
      have hmu : ((3 : Int) - ((a + 1 : Nat) : Int)).toNat < ((3 : Int) - (a : Int)).toNat := by omega
      refine br_mk (fun hd => ?_) (fun hd => ?_)
      rotate_left
      · conv => whnf
        have hsk : skips kn = true := by
          simp at hd
          exact skips_yes (by omega)
        have e6 : turn1 ((ks.take a).foldl turn1 F) kn = (ks.take a).foldl turn1 F := by
          unfold turn1
          rw [hsk]
          rfl
        rw [hs2]
        refine ⟨_, Forget.cons rfl (Forget.cons rfl (Forget.cons rfl (Forget.cons rfl (Forget.cons rfl (Forget.cons rfl (Forget.cons rfl (Forget.cons rfl (Forget.cons rfl (Forget.nil _))))))))), ⟨a + 1, _, by omega, rfl, ?_, rfl⟩, hmu⟩
        rw [hr, e6]
        exact w7
      conv => whnf
      refine ⟨by decide, ?_⟩
      conv => whnf
      rw [t8]
      refine br_mk (fun he => ?_) (fun he => ?_)
      rotate_left
      · conv => whnf
        have hsk : skips kn = true := by
          simp at he
          exact skips_yes (by omega)
        have e6 : turn1 ((ks.take a).foldl turn1 F) kn = (ks.take a).foldl turn1 F := by
          unfold turn1
          rw [hsk]
          rfl
        rw [hs2]
        refine ⟨_, Forget.cons rfl (Forget.cons rfl (Forget.cons rfl (Forget.cons rfl (Forget.cons rfl (Forget.cons rfl (Forget.cons rfl (Forget.cons rfl (Forget.cons rfl (Forget.nil _))))))))), ⟨a + 1, _, by omega, rfl, ?_, rfl⟩, hmu⟩
        rw [hr, e6]
        exact w7
      conv => whnf
      have hsk : skips kn = false := by
        simp at hd he
        exact skips_no (by omega) (by omega)
      refine ⟨[0, 1, 2, 3, 4, 5, 6, 7, 8, 9, 10], [0, 0, 2, 7, 15, 0, 32, 96, 255, 511, 1023], by kernel_rfl, ?_⟩
      conv => whnf
      refine ⟨by decide, ?_⟩
      conv => whnf
      obtain ⟨i, c, sz, ces, rfl, g7, l7, w8⟩ := w7.put (j := kn / 8) (by omega) (tw (((ks.take a).foldl turn1 F).getD (kn / 8) 0) (kn % 8))
      refine ⟨i, c, kn / 8, rfl, t8, by omega, ?_⟩
      conv => whnf
      obtain ⟨i', c', e, k7⟩ := slo_get w7.1.weak (j := kn / 8) (by omega)
      injection e with e
      injection e with e1' e2'
      subst e1' e2'
      refine ⟨_, k7, ?_⟩
      conv => whnf
      refine ⟨by decide, ?_⟩
      conv => whnf
      rw [tmod8]
      refine ⟨by omega, ?_⟩
      conv => whnf
      refine ⟨i, c, kn / 8, rfl, t8, by omega, ?_⟩
      conv => whnf
      refine ⟨_, _, g7, l7, ?_⟩
      conv => whnf
      rw [hs2]
      refine ⟨_, Forget.cons rfl (Forget.cons rfl (Forget.cons rfl (Forget.cons rfl (Forget.cons rfl (Forget.cons rfl (Forget.cons rfl (Forget.cons rfl (Forget.cons rfl (Forget.nil _))))))))), ⟨a + 1, _, by omega, rfl, ?_, rfl⟩, hmu⟩
      rw [hr]
      unfold turn1
      rw [hsk]
      exact w8
    conv => whnf
    simp at hc
    obtain rfl : a = 3 := by omega
    have e3 : (ks.take 3).foldl turn1 F = turn1 (turn1 (turn1 F (ks.getD 0 0)) (ks.getD 1 0)) (ks.getD 2 0) := rfl
    have h0 := (hks 0 (by decide)).2
    have h1 := (hks 1 (by decide)).2
    have h2' := (hks 2 (by decide)).2
    have key : (ks.take 3).foldl turn1 F ≠ F → unV ((ks.take 3).foldl turn1 F) = (0, [], 2) := by
      rw [e3]
      exact key0 _ _ _ (by omega) (by omega) (by omega)
    generalize (ks.take 3).foldl turn1 F = C at *
    refine (gdec51 w7.1.weak bl7 (by omega)).mono ?_
    rintro _ h8 ⟨y, ey, rfl, ky, m8, dy⟩
    conv => whnf
    refine ⟨_, rfl, ?_⟩
    conv => whnf
    refine ⟨_, rfl, ?_⟩
    conv => whnf
    obtain ⟨g0', _, m9⟩ := layG (h := h8) y
    refine ⟨_, _, g0', Nat.le_of_ble_eq_true rfl, ?_⟩
    conv => whnf
    have w9 := (w7.keep m8).keep m9
    have mA := w9.2.2
    have o2 := o2.get mA
    have o5 := o5.get mA
    have g1 := mA.get g1 (.inl (fun k => k))
    have gx := mA.get gx (.inl (fun k => k))
    refine ⟨_, Cell.mk gx rfl, ?_⟩
    conv => whnf
    refine ⟨_, Cell.mk g1 rfl, ?_⟩
    conv => whnf
    have hk1 : x.k = m.k := by rw [eqx]; rfl
    have hk2 : x.cn = m.cn := by rw [eqx]; rfl
    refine br_mk (fun _ => ?_) (fun hh => absurd hh (by simp [hk1]))
    conv => whnf
    refine ⟨_, Cell.mk gx rfl, ?_⟩
    conv => whnf
    refine ⟨_, Cell.mk g1 rfl, ?_⟩
    conv => whnf
    refine br_mk (fun _ => ?_) (fun hh => absurd hh (by simp [hk2]))
    conv => whnf
    refine ⟨_, o5.is, bF, ?_⟩
    conv => whnf
    refine ⟨_, o2.is, bF, ?_⟩
    conv => whnf
    refine br_mk (fun _ => ?_) (fun hh => absurd hh (by simp))
    conv => whnf
    refine ⟨_, w9.1.weak, bl7, ?_⟩
    conv => whnf
    refine ⟨_, o2.is, bF, ?_⟩
    conv => whnf
    have hey : (ey == 0) = (C == F) := by
      by_cases hCF : C = F
      · subst hCF
        obtain ⟨rfl, _⟩ := dy.yes uF ec
        have : (C == C) = true := beq_self_eq_true C
        rw [this]
        rfl
      · obtain ⟨rfl, _⟩ := dy.bad (key hCF) (by decide)
        have : (C == F) = false := by simp [hCF]
        rw [this]
        rfl
    refine br_mk (fun _ => ?_) (fun hh => ?_)
    rotate_left
    · have hh : ((ey == 0) == (C == F)) = false := hh
      rw [hey, beq_self_eq_true] at hh
      cases hh
    conv => whnf
    refine (awake48 _).mono ?_
    rintro _ h' ⟨rfl, _⟩
    conv => whnf
end Go.Proofs.Ytnpfdppmpmnhbaa
