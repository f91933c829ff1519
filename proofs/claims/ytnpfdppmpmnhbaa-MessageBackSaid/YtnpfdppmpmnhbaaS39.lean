/- The law MessageTells. -/
import Derived.Test.YtnpfdppmpmnhbaaS38
set_option linter.unusedVariables false
namespace Go.Proofs.Ytnpfdppmpmnhbaa
open Go Go.Ab
theorem i64_range {x : Int} (b : IntKind.i64.min ≤ x ∧ x ≤ IntKind.i64.max) : -9223372036854775808 ≤ x ∧ x ≤ 9223372036854775807 := by
  simp [IntKind.min, IntKind.max, IntKind.signed, IntKind.bits] at b
  omega
theorem rd_msg {D : Type} {h : H} {d : DataW D} {c : List V} (r : RD T h 21 74 d c) : ∃ m : Msg, c = m.cells ∧ RoSl h m.ep m.es.length 1 (ints .i64 m.es) ∧ -9223372036854775808 ≤ m.e ∧ m.e ≤ 9223372036854775807 := by
  obtain ⟨ds, css, rfl, q⟩ := rd_st (T := T) (n := 20) (fs := [(3, 0), (3, 1), (3, 2), (32, 3), (3, 4), (72, 5)]) rfl r
  obtain ⟨d1, c1, _, _, rfl, r1, q⟩ := rdf_cons q
  obtain ⟨d2, c2, _, _, rfl, r2, q⟩ := rdf_cons q
  obtain ⟨d3, c3, _, _, rfl, r3, q⟩ := rdf_cons q
  obtain ⟨d4, c4, _, _, rfl, r4, q⟩ := rdf_cons q
  obtain ⟨d5, c5, _, _, rfl, r5, q⟩ := rdf_cons q
  obtain ⟨d6, c6, _, _, rfl, r6, q⟩ := rdf_cons q
  obtain rfl := rdf_nil q
  obtain ⟨x1, rfl, _⟩ := rd_int (T := T) (n := 19) (k := .i64) rfl r1
  obtain ⟨x2, rfl, _⟩ := rd_int (T := T) (n := 19) (k := .i64) rfl r2
  obtain ⟨x3, rfl, _⟩ := rd_int (T := T) (n := 19) (k := .i64) rfl r3
  obtain ⟨p4, n4, vs, rfl, _, o4, _⟩ := rd_slice_ints (T := T) (n := 18) (e := 3) (k := .i64) rfl rfl rfl r4
  obtain ⟨x5, rfl, _⟩ := rd_int (T := T) (n := 19) (k := .i64) rfl r5
  obtain ⟨es, ess, rfl, qq⟩ := rd_st (T := T) (n := 19) (fs := [(3, 0), (3, 1), (3, 2), (3, 3)]) rfl r6
  obtain ⟨d1, c1, _, _, rfl, t1, qq⟩ := rdf_cons qq
  obtain ⟨d2, c2, _, _, rfl, t2, qq⟩ := rdf_cons qq
  obtain ⟨d3, c3, _, _, rfl, t3, qq⟩ := rdf_cons qq
  obtain ⟨d4, c4, _, _, rfl, t4, qq⟩ := rdf_cons qq
  obtain rfl := rdf_nil qq
  obtain ⟨y1, rfl, _⟩ := rd_int (T := T) (n := 18) (k := .i64) rfl t1
  obtain ⟨y2, rfl, b2⟩ := rd_int (T := T) (n := 18) (k := .i64) rfl t2
  obtain ⟨y3, rfl, _⟩ := rd_int (T := T) (n := 18) (k := .i64) rfl t3
  obtain ⟨y4, rfl, _⟩ := rd_int (T := T) (n := 18) (k := .i64) rfl t4
  have e4 : n4 = vs.length := by
    have := o4.1
    rw [ints_length] at this
    omega
  subst e4
  exact ⟨⟨x1, x2, x3, p4, vs, x5, y1, y2, y3, y4⟩, rfl, o4, (i64_range b2).1, (i64_range b2).2⟩
theorem tells11 {h : H} {p : Option (Nat × Nat)} {n : Nat} {b : List Int} (m o : Msg) (sm : SlIs h m.ep m.es.length false 1 (ints .i64 m.es)) (so : SlIs h o.ep o.es.length false 1 (ints .i64 o.es)) (em : -9223372036854775808 ≤ m.e ∧ m.e ≤ 9223372036854775807) (eo : -9223372036854775808 ≤ o.e ∧ o.e ≤ 9223372036854775807) (ob : Oct h p n b) (bb : Bts b) :
    ACalls Try.prog 11 [.agg m.cells, .agg o.cells, .sl p n] h (fun r _ => r = .bool true) := by
  have hl := ob.len
  subst hl
  refine call_ Try.func11 rfl rfl (by kernel_rfl) ?_
  conv => whnf
  have m1 := Mod.push none_ h (.row true 9 m.cells)
  have m2 := Mod.push none_ (h.push (.row true 9 m.cells)) (.row true 9 o.cells)
  have g1 : ((h.push (.row true 9 m.cells)).push (.row true 9 o.cells)).obj h.next = some (.row true 9 m.cells) := m2.get (H.obj_push_new _ _) (.inl (fun k => k))
  have g2 : ((h.push (.row true 9 m.cells)).push (.row true 9 o.cells)).obj (h.next + 1) = some (.row true 9 o.cells) := H.obj_push_new (h.push (.row true 9 m.cells)) _
  have mm := mod_none m1 m2
  refine ⟨_, Cell.mk g1 rfl, ?_⟩
  conv => whnf
  refine br_mk (fun ha => ?_) (fun ha => ?_)
  · conv => whnf
    refine (awake40 _).mono ?_
    rintro _ h' ⟨rfl, _⟩
    conv => whnf
  conv => whnf
  refine ⟨_, Cell.mk g2 rfl, ?_⟩
  conv => whnf
  refine br_mk (fun hb => ?_) (fun hb => ?_)
  · conv => whnf
    refine (awake40 _).mono ?_
    rintro _ h' ⟨rfl, _⟩
    conv => whnf
  conv => whnf
  refine br_mk (fun hc => ?_) (fun hc => ?_)
  · conv => whnf
    refine (awake40 _).mono ?_
    rintro _ h' ⟨rfl, _⟩
    conv => whnf
  conv => whnf
  simp at ha hb hc
  have km : m.ok ((h.push (.row true 9 m.cells)).push (.row true 9 o.cells)) := ⟨SlIs.old sm mm (fun _ _ k => k), em.1, em.2, by omega⟩
  have ko : o.ok ((h.push (.row true 9 m.cells)).push (.row true 9 o.cells)) := ⟨SlIs.old so mm (fun _ _ k => k), eo.1, eo.2, by omega⟩
  refine ⟨m.cells, Cells.mk g1 (Nat.le_of_ble_eq_true rfl) rfl, ?_⟩
  conv => whnf
  refine (enc41 m km).mono ?_
  rintro _ h3 ⟨q3, rfl, o3, m3⟩
  conv => whnf
  refine ⟨_, rfl, ?_⟩
  conv => whnf
  refine ⟨_, rfl, ?_⟩
  conv => whnf
  have km := km.old m3 (fun _ _ k => k)
  have ko := ko.old m3 (fun _ _ k => k)
  have g1 := m3.get g1 (.inl (fun k => k))
  have g2 := m3.get g2 (.inl (fun k => k))
  have mm := mod_none mm m3
  refine ⟨m.cells, Cells.mk g1 (Nat.le_of_ble_eq_true rfl) rfl, ?_⟩
  conv => whnf
  refine (ref42 m km).mono ?_
  rintro _ h4 ⟨q4, rfl, o4, m4⟩
  conv => whnf
  refine ⟨_, rfl, ?_⟩
  conv => whnf
  refine ⟨_, rfl, ?_⟩
  conv => whnf
  have km := km.old m4 (fun _ _ k => k)
  have ko := ko.old m4 (fun _ _ k => k)
  have g1 := m4.get g1 (.inl (fun k => k))
  have g2 := m4.get g2 (.inl (fun k => k))
  have o3 := o3.get m4
  have mm := mod_none mm m4
  refine (dec43 (ob.get mm).is bb (by omega)).mono ?_
  rintro _ h5 ⟨u, ou, rfl, ku, m5, du⟩
  conv => whnf
  refine ⟨_, rfl, ?_⟩
  conv => whnf
  refine ⟨_, rfl, ?_⟩
  conv => whnf
  obtain ⟨g0, gu, m6⟩ := lay_ (h := h5) u
  refine ⟨_, _, g0, Nat.le_of_ble_eq_true rfl, ?_⟩
  conv => whnf
  have m56 := mod_none m5 m6
  have km := km.old m56 (fun _ _ k => k)
  have ko := ko.old m56 (fun _ _ k => k)
  have g1 := m56.get g1 (.inl (fun k => k))
  have g2 := m56.get g2 (.inl (fun k => k))
  have o3 := o3.get m56
  have o4 := o4.get m56
  have mm := mod_none mm m56
  have ku := ku.old m6 (fun _ _ k => k)
  refine (dec44 (ob.get mm) bb (by omega)).mono ?_
  rintro _ h7 ⟨v, ov, rfl, kv, m7, dv⟩
  conv => whnf
  refine ⟨_, rfl, ?_⟩
  conv => whnf
  refine ⟨_, rfl, ?_⟩
  conv => whnf
  obtain ⟨g0', gv, m8⟩ := lay_ (h := h7) v
  refine ⟨_, _, g0', Nat.le_of_ble_eq_true rfl, ?_⟩
  conv => whnf
  have m78 := mod_none m7 m8
  have km := km.old m78 (fun _ _ k => k)
  have ko := ko.old m78 (fun _ _ k => k)
  have ku := ku.old m78 (fun _ _ k => k)
  have kv := kv.old m8 (fun _ _ k => k)
  have g1 := m78.get g1 (.inl (fun k => k))
  have g2 := m78.get g2 (.inl (fun k => k))
  have gu := m78.get gu (.inl (fun k => k))
  have o3 := o3.get m78
  have o4 := o4.get m78
  clear mm m1 m2 m3 m4 m5 m6 m7 m8 m56 m78
  obtain ⟨eo', suv⟩ := du.alike dv
  subst eo'
  refine ⟨[0, 1, 2, 3, 4, 5, 6, 7, 8, 9, 10, 11, 12, 13, 14, 15, 16, 17, 18, 19, 20, 21, 22, 23, 24, 25, 26, 27, 28, 29, 30, 31, 32, 33, 34, 35, 36, 37, 38, 39, 40, 41, 42, 43, 45, 46, 44, 47, 48, 49, 50, 51, 52, 53, 54, 55, 56, 57, 58], [0, 1, 0, 4, 15, 31, 63, 127, 63, 511, 1023, 2047, 4095, 8191, 16383, 32767, 65535, 131071, 262143, 524287, 1048575, 2097151, 4194303, 8388607, 16777215, 16777215, 67108863, 134217727, 268435455, 536870911, 1073741823, 536870911, 4294967295, 8589934591, 17179869183, 34359738367, 68719476735, 137438953471, 274877906943, 549755813887, 1099511627775, 2199023255551, 4398046511103, 4398046511103, 17592186044415, 4398046511103, 4398046511103, 140737488355327, 281474976710655, 562949953421311, 1125899906842623, 2251799813685247, 2251799813685247, 9007199254740991, 18014398509481983, 36028797018963967, 72057594037927935, 144115188075855871, 288230376151711743], by kernel_rfl, ?_⟩
  conv => whnf
  refine ⟨_, o3.is, encB_bts m, ?_⟩
  conv => whnf
  refine ⟨_, o4.is, encB_bts m, ?_⟩
  conv => whnf
  refine br_mk (fun _ => ?_) (fun hh => absurd hh (by simp))
  conv => whnf
  have hB : encOk m = false → encB m = [] := fun e => by rw [encB, e]; rfl
  cases hE : encOk m
  rw [hB hE]
  all_goals
    conv => whnf
    refine ⟨u.cells, Cells.mk gu (Nat.le_of_ble_eq_true rfl) rfl, ?_⟩
    conv => whnf
    refine ⟨v.cells, Cells.mk gv (Nat.le_of_ble_eq_true rfl) rfl, ?_⟩
    conv => whnf
    refine (sameMsg45 u v ku kv).mono ?_
    rintro _ h9 ⟨rfl, m9⟩
    rw [suv]
    conv => whnf
    have km := km.old m9 (fun _ _ k => k)
    have ko := ko.old m9 (fun _ _ k => k)
    have g1 := m9.get g1 (.inl (fun k => k))
    have g2 := m9.get g2 (.inl (fun k => k))
    cases ou
    all_goals
      conv => whnf
      refine ⟨m.cells, Cells.mk g1 (Nat.le_of_ble_eq_true rfl) rfl, ?_⟩
      conv => whnf
      refine ⟨o.cells, Cells.mk g2 (Nat.le_of_ble_eq_true rfl) rfl, ?_⟩
      conv => whnf
      refine ⟨m.cells, Cells.mk g1 (Nat.le_of_ble_eq_true rfl) rfl, ?_⟩
      conv => whnf
      refine ⟨o.cells, Cells.mk g2 (Nat.le_of_ble_eq_true rfl) rfl, ?_⟩
      conv => whnf
      refine (same46 m o km ko).mono ?_
      rintro _ h10 ⟨rfl, m10⟩
      have km := km.old m10 (fun _ _ k => k)
      have ko := ko.old m10 (fun _ _ k => k)
      have g1 := m10.get g1 (.inl (fun k => k))
      have g2 := m10.get g2 (.inl (fun k => k))
      conv => whnf
      refine ⟨?_, ?_⟩
      · conv => whnf
        exact ⟨o.cells, Cells.mk g2 (Nat.le_of_ble_eq_true rfl) rfl, rfl⟩
      refine ⟨?_, ?_⟩
      · conv => whnf
        exact ⟨m.cells, Cells.mk g1 (Nat.le_of_ble_eq_true rfl) rfl, rfl⟩
      conv => whnf
      refine (sameMsg45 m o km ko).mono ?_
      rintro _ h11 ⟨rfl, m11⟩
      have km := km.old m11 (fun _ _ k => k)
      have g1 := m11.get g1 (.inl (fun k => k))
      conv => whnf
      refine br_mk (fun _ => ?_) (fun hh => absurd hh (by simp))
      conv => whnf
      refine ⟨m.cells, Cells.mk g1 (Nat.le_of_ble_eq_true rfl) rfl, ?_⟩
      conv => whnf
      refine ⟨m.cells, Cells.mk g1 (Nat.le_of_ble_eq_true rfl) rfl, ?_⟩
      conv => whnf
      refine (same46 m m km km).mono ?_
      rintro _ h12 ⟨rfl, m12⟩
      rw [sameM_refl]
      conv => whnf
      refine (awake40 _).mono ?_
      rintro _ h' ⟨rfl, _⟩
      conv => whnf
end Go.Proofs.Ytnpfdppmpmnhbaa
