/- DriverActs: its walk. -/
import Derived.Test.YtmififfaljihgaaGreatG15
set_option linter.unusedVariables false
namespace Go.Proofs.YtmififfaljihgaaGreat
open Go Go.Ab
theorem dq_ne (x : Int) : (x != x) = false := by simp
theorem bq_ne (x : Bool) : (!(x == x)) = false := by simp
theorem encB_len30 (m : Msg) (h : m.es.length ≤ 1000) : (encB m).length ≤ 100000 := by
  rw [encB]
  split
  · rw [bytesP_length]
    have key : ∀ (ps : List (Nat × Int)), (∀ p ∈ ps, p.1 ≤ 5) → (ps.map (·.1)).sum ≤ 5 * ps.length := fun ps => by
      induction ps with
      | nil => intro _; exact Nat.le_refl _
      | cons p ps ih =>
        intro hp
        have h1 := hp p (by simp)
        have h2 := ih (fun x hx => hp x (by simp [hx]))
        rw [List.map_cons, List.sum_cons, List.length_cons]
        omega
    have h5 : ∀ p ∈ parts m, p.1 ≤ 5 := fun p hp => by
      have hp : p = (1, m.k) ∨ p ∈ tailP m := by simpa [parts] using hp
      rcases hp with rfl | hp
      · exact (by decide : 1 ≤ 5)
      · unfold tailP at hp
        split at hp
        · simp at hp
          rcases hp with rfl | rfl <;> exact (by decide : 2 ≤ 5)
        · split at hp
          · simp at hp
            subst hp
            exact (by decide : 2 ≤ 5)
          · split at hp
            · simp at hp
              rcases hp with rfl | rfl | ⟨x, _, rfl⟩
              · exact (by decide : 5 ≤ 5)
              · exact (by decide : 2 ≤ 5)
              · exact (by decide : 2 ≤ 5)
            · split at hp
              · simp at hp
                rcases hp with rfl | rfl | rfl | rfl
                · exact (by decide : 1 ≤ 5)
                · exact (by decide : 2 ≤ 5)
                · exact (by decide : 5 ≤ 5)
                · exact (by decide : 5 ≤ 5)
              · cases hp
    have := key (parts m) h5
    have := parts_len m
    omega
  · exact Nat.zero_le _
def dL53 : List Nat := [0, 1, 2, 3, 4, 5, 6, 7, 8, 9, 10, 12, 13, 14, 15, 11, 16, 17, 18, 19, 21, 22, 23, 24, 20, 25, 26, 27, 28, 30, 31, 32, 33, 29, 34, 35, 36, 37, 39, 40, 41, 42, 38, 43, 44, 45, 46, 47, 48, 49, 50, 51, 52, 53, 54, 55, 56, 57, 58, 59, 60, 61]
def dB53 : List Nat := [0, 0, 3, 7, 15, 31, 31, 127, 255, 511, 1023, 2047, 1023, 5119, 13311, 29695, 65535, 131071, 262143, 524287, 1048575, 524287, 2621439, 6815743, 15204351, 33554431, 67108863, 134217727, 268435455, 536870911, 268435455, 1342177279, 3489660927, 7784628223, 17179869183, 34359738367, 68719476735, 137438953471, 274877906943, 137438953471, 687194767359, 1786706395135, 3985729650687, 8796093022207, 17592186044415, 35184372088831, 70368744177663, 70368744177663, 211106232532991, 492581209243647, 1055531162664959, 2251799813685247, 4503599627370495, 9007199254740991, 18014398509481983, 18014398509481983, 54043195528445951, 126100789566373887, 270215977642229759, 576460752303423487, 1152921504606846975, 2305843009213693951]
set_option maxRecDepth 20000 in
set_option maxHeartbeats 40000000 in
theorem acts3 {h : H} {p0 p1 : Option (Nat × Nat)} {n0 : Nat} {l0 : List Int} {L : List ActV} (a0 : RoSl h p0 n0 1 (ints .i64 l0)) (a1 : ActL h p1 L) : ACalls Tryz.prog 3 [.sl p0 n0, .sl p1 L.length] h (fun r _ => r = .bool true) := by
  refine call_ Tryz.func3 rfl rfl (by kernel_rfl) ?_
  conv => whnf
  refine br_mk (fun ha => ?_) (fun ha => ?_)
  · conv => whnf
    refine (awake6 h).mono ?_
    rintro _ h1 rfl
    conv => whnf
  conv => whnf
  have ha : ¬ ((n0 : Int) > 20) := by simpa using ha
  refine br_mk (fun hb => ?_) (fun hb => ?_)
  · conv => whnf
    refine (awake6 h).mono ?_
    rintro _ h1 rfl
    conv => whnf
  conv => whnf
  have hb : ¬ ((L.length : Int) > 50) := by simpa using hb
  refine (small8 a0.is (by omega)).mono ?_
  rintro _ h1 ⟨c, rfl, ok, m1⟩
  conv => whnf
  obtain ⟨g0, gx, mx⟩ := lay_row (h := h1) (sz := 6) [i64 0, i64 0, i64 0, i64 0, i64 0, i64 0] c.cells
  refine ⟨_, _, g0, Nat.le_of_ble_eq_true rfl, ?_⟩
  conv => whnf
  refine ⟨c.cells, Cells.mk gx (Nat.le_of_ble_eq_true rfl) rfl, ?_⟩
  conv => whnf
  refine (dNew _ c).mono ?_
  rintro _ h2 (⟨q, _⟩ | ⟨_, di, rfl, s2, nd2, m2⟩)
  · rw [ok] at q
    cases q
  conv => whnf
  refine ⟨_, rfl, ?_⟩
  conv => whnf
  refine ⟨_, rfl, ?_⟩
  conv => whnf
  refine ⟨c.cells, Cells.mk (m2.get gx (.inl (fun k => k))) (Nat.le_of_ble_eq_true rfl) rfl, ?_⟩
  conv => whnf
  refine (rdNew h2 c).mono ?_
  rintro _ h3 (⟨q, _⟩ | ⟨_, ri, rfl, s3, nr3, m3⟩)
  · rw [ok] at q
    cases q
  have s2 := s2.get m3 (fun k => k)
  have a1 := (((a1.get m1).get mx).get m2).get m3
  have hdr : di ≠ ri := by
    obtain ⟨pw, b, _⟩ := s2
    intro e
    obtain ⟨pw', b', _⟩ := s3
    rw [e, b'] at b
    cases b
  clear m1 mx m2 m3 g0 gx
  conv => whnf
  refine ⟨fun env hh => ∃ (k : Nat) (z now : Int) (v : DV) (o : PO) (ro : RO), k ≤ L.length ∧ z = k ∧ 0 ≤ now ∧ now ≤ k ∧ DrA hh di v o ∧ RDrA hh ri v ro ∧ cvR ro = cvP o ∧ (∀ i, drA di o i → ¬ rdA ri ro i) ∧ VI v (cvP o) k ∧ ActL hh p1 L ∧ env = [(10, i64 z), (9, i64 now), (8, .ptr (some (ri, 0))), (6, .ptr (some (di, 0))), (1, .sl p1 L.length)],
    fun env _ => match get env 10 with
      | .int _ z => ((L.length : Int) - z).toNat
      | _ => 0, ⟨_, Forget.cons rfl (Forget.cons rfl (Forget.cons rfl (Forget.cons rfl (Forget.cons rfl (Forget.nil _))))), 0, _, 0, DV.new c, none, none, Nat.zero_le _, rfl, by decide, by decide, s2, s3, rfl, fun i k k2 => hdr (k.symm.trans k2), ⟨ok, ⟨Int.le_refl 0, Int.le_refl 0⟩, fun _ => rfl, Nat.zero_le _, fun _ => rfl, (fun cv e => by cases e)⟩, a1, rfl⟩, ?_⟩
  clear s2 s3 a1 nd2 nr3
  rintro _ hh ⟨k, z, now, v, o, ro, hk, rfl, hn0, hn1, s, t, er, dis, vi, al, rfl⟩
  conv => whnf
  refine br_mk (fun hd => ?_) (fun hd => ?_)
  rotate_left
  · conv => whnf
    refine (awake6 _).mono ?_
    rintro _ h8 rfl
    conv => whnf
  have hd : k < L.length := by simpa using hd
  have hK0 : (0 : Int) ≤ k := by omega
  have hK : (k : Int) ≤ 100 := by omega
  obtain ⟨i1, c1, f1, f2, _⟩ := sls_get ActV.cells_len al.row.is rfl hd
  have ak := al.all _ (List.getElem_mem hd)
  obtain ⟨a, ea⟩ : ∃ a, L[k] = a := ⟨_, rfl⟩
  rw [ea] at f2 ak
  conv => whnf
  refine ⟨i1, c1, k, f1, rfl, hd, ?_⟩
  conv => whnf
  refine ⟨_, f2, ?_⟩
  conv => whnf
  obtain ⟨g0, gx, mx⟩ := lay_row (h := hh) (sz := 14) [i64 0, i64 0, i64 0, i64 0, i64 0, i64 0, i64 0, .sl none 0, i64 0, i64 0, i64 0, i64 0, i64 0, .sl none 0] a.cells
  refine ⟨_, _, g0, Nat.le_of_ble_eq_true rfl, ?_⟩
  have sx := s.get mx (fun _ _ k => k)
  have tx := t.get mx (fun _ _ k => k)
  have al := al.get mx
  have ak := ak.get mx
  have gd : ∀ i, drA di o i → i ≠ hh.next := fun i k e => by have := s.lt k; omega
  have gr : ∀ i, rdA ri ro i → i ≠ hh.next := fun i k e => by have := t.lt k; omega
  have vir : VI v (cvR ro) k := by rw [er]; exact vi
  conv => whnf
  refine ⟨_, Cell.mk gx rfl, ?_⟩
  conv => whnf
  refine br_mk (fun hes => ?_) (fun hes => ?_)
  · conv => whnf
    refine (awake6 _).mono ?_
    rintro _ h8 rfl
    conv => whnf
  have hes : ¬ (a.w.es.length : Int) > 30 := by simpa using hes
  conv => whnf
  refine ⟨_, Cell.mk gx rfl, ?_⟩
  conv => whnf
  refine br_mk (fun hra => ?_) (fun hra => ?_)
  · conv => whnf
    refine (awake6 _).mono ?_
    rintro _ h8 rfl
    conv => whnf
  have hra : ¬ (a.raw.length : Int) > 100 := by simpa using hra
  conv => whnf
  refine ⟨_, Cell.mk gx rfl, ?_⟩
  conv => whnf
  refine br_mk (fun hk1 => ?_) (fun hk1 => ?_)
  · conv => whnf
    refine ⟨_, Cell.mk gx rfl, ?_⟩
    conv => whnf
    refine ⟨_, Cell.mk gx rfl, ?_⟩
    conv => whnf
    refine ((aStart sx vi hK (by omega) (by omega) a.n a.m)).mono ?_
    rintro _ h5 ⟨q5, o5, rfl, rw5, s5, c5, fr5, m5⟩
    have gx5 := m5.get gx (.inl (fun k => gd _ k rfl))
    have t5 := tx.get m5 (fun i k k2 => dis i k2 k)
    have al5 := al.get m5
    conv => whnf
    refine ⟨_, rfl, ?_⟩
    conv => whnf
    refine ⟨_, rfl, ?_⟩
    conv => whnf
    refine ⟨_, Cell.mk gx5 rfl, ?_⟩
    conv => whnf
    refine ⟨_, Cell.mk gx5 rfl, ?_⟩
    conv => whnf
    refine ((raStart t5 vir hK (by omega) (by omega) a.n a.m)).mono ?_
    rw [er]
    rintro _ h6 ⟨q6, o6, rfl, rw6, t6, c6, fr6, m6⟩
    conv => whnf
    refine ⟨_, rfl, ?_⟩
    conv => whnf
    refine ⟨_, rfl, ?_⟩
    conv => whnf
    have vi6 := (vi.start hK0 hK now a.n a.m)
    have ox := (vi.startX now a.n a.m)
    obtain ⟨s6, dis6⟩ := j_step dis s5 fr5 m6 fr6 (fun i k => tx.lt k)
    have rw56 := rw5.get m6
    have al6 := al5.get m6
    clear rw5 s5 t5 al5 gx5
    obtain ⟨⟨⟨X, cc⟩, v6, oc6⟩, eR⟩ : ∃ R, (stStart (v, cvP o) now a.n a.m) = R := ⟨_, rfl⟩
    rw [eR] at vi6 ox s6 t6 c5 c6 rw56 rw6 ⊢
    have vi6 : VI v6 oc6 (k + 1) := vi6
    have ox : OutOk X := ox
    have s6 : DrA h6 di v6 o5 := s6
    have t6 : RDrA h6 ri v6 o6 := t6
    have c5 : cvP o5 = oc6 := c5
    have c6 : cvR o6 = oc6 := c6
    have rw56 : Rws h6 q5 X := rw56
    have rw6 : Rws h6 q6 X := rw6
    conv => whnf
    refine (dWay s6.b (by have := vi6.len; omega)).mono ?_
    rintro _ h8 ⟨qw, rfl, ow, mw⟩
    have ew : wayOf v6 = v6.way := by
      unfold wayOf
      split
      · rfl
      · rename_i kk
        exact (vi6.has (by simpa using kk)).symm
    rw [ew] at ow ⊢
    have s8 := s6.get mw (fun _ _ k => k)
    have t8 := t6.get mw (fun _ _ k => k)
    have rw58 := rw56.get mw
    have rw68 := rw6.get mw
    have al8 := al6.get mw
    conv => whnf
    refine ⟨_, rfl, ?_⟩
    conv => whnf
    refine ⟨_, rfl, ?_⟩
    conv => whnf
    refine ⟨dL53, dB53, by kernel_rfl, ?_⟩
    conv => whnf
    refine (rows25 rw58 rw68 ox.1 (by have := ox.2; omega)).mono ?_
    rintro _ h9 ⟨eh, rfl⟩
    rw [eh]
    clear eh h9
    conv => whnf
    rw [dq_ne]
    conv => whnf
    obtain ⟨chR, pwR, bR, wR⟩ := t8.b
    refine ⟨_, Cell.mk bR rfl, ?_⟩
    conv => whnf
    refine (dConn s8.b).mono ?_
    rintro _ h9 ⟨eh, rfl⟩
    rw [eh]
    clear eh h9
    conv => whnf
    refine ⟨⟨_, Cell.mk bR rfl, rfl⟩, ?_⟩
    conv => whnf
    rw [dq_ne]
    conv => whnf
    refine ⟨_, Cell.mk bR rfl, ?_⟩
    conv => whnf
    refine (dLive s8.b).mono ?_
    rintro _ h9 ⟨eh, rfl⟩
    rw [eh]
    clear eh h9
    conv => whnf
    refine ⟨⟨_, Cell.mk bR rfl, rfl⟩, ?_⟩
    conv => whnf
    rw [bq_ne]
    conv => whnf
    refine ⟨_, Cell.mk bR rfl, ?_⟩
    conv => whnf
    refine (dWhy s8.b).mono ?_
    rintro _ h9 ⟨eh, rfl⟩
    rw [eh]
    clear eh h9
    conv => whnf
    refine ⟨⟨_, Cell.mk bR rfl, rfl⟩, ?_⟩
    conv => whnf
    rw [dq_ne]
    conv => whnf
    refine ⟨_, Cell.mk bR rfl, ?_⟩
    conv => whnf
    refine (dAt s8.b).mono ?_
    rintro _ h9 ⟨eh, rfl⟩
    rw [eh]
    clear eh h9
    conv => whnf
    refine ⟨⟨_, Cell.mk bR rfl, rfl⟩, ?_⟩
    conv => whnf
    rw [dq_ne]
    conv => whnf
    refine ⟨_, Cell.mk bR rfl, ?_⟩
    conv => whnf
    rw [bq_ne]
    conv => whnf
    refine ⟨_, Cell.mk bR rfl, ?_⟩
    conv => whnf
    refine (ints47 (n := v6.way.length) ow.is wR.is (by have := vi6.len; omega)).mono ?_
    rintro _ h9 ⟨eh, rfl⟩
    rw [eh]
    clear eh h9
    rw [show (v6.way == v6.way) = true by simp]
    conv => whnf
    rw [succ_i64 hd (by omega)]
    refine ⟨_, Forget.cons rfl (Forget.cons rfl (Forget.cons rfl (Forget.cons rfl (Forget.cons rfl (Forget.nil _))))), ⟨k + 1, _, now, v6, o5, o6, hd, rfl, by omega, by omega, s8, t8, c6.trans c5.symm, dis6, by rw [c5]; exact vi6, al8, rfl⟩, ?_⟩
    show ((L.length : Int) - ((k + 1 : Nat) : Int)).toNat < ((L.length : Int) - (k : Int)).toNat
    omega
  conv => whnf
  refine br_mk (fun hk2 => ?_) (fun hk2 => ?_)
  · conv => whnf
    refine ⟨_, Cell.mk gx rfl, ?_⟩
    conv => whnf
    refine ((aReport sx vi hK (by omega) (by omega) a.n)).mono ?_
    rintro _ h5 ⟨q5, o5, rfl, rw5, s5, c5, fr5, m5⟩
    have gx5 := m5.get gx (.inl (fun k => gd _ k rfl))
    have t5 := tx.get m5 (fun i k k2 => dis i k2 k)
    have al5 := al.get m5
    conv => whnf
    refine ⟨_, rfl, ?_⟩
    conv => whnf
    refine ⟨_, rfl, ?_⟩
    conv => whnf
    refine ⟨_, Cell.mk gx5 rfl, ?_⟩
    conv => whnf
    refine ((raReport t5 vir hK (by omega) (by omega) a.n)).mono ?_
    rw [er]
    rintro _ h6 ⟨q6, o6, rfl, rw6, t6, c6, fr6, m6⟩
    conv => whnf
    refine ⟨_, rfl, ?_⟩
    conv => whnf
    refine ⟨_, rfl, ?_⟩
    conv => whnf
    have vi6 := (vi.report hK0 hK now a.n)
    have ox := (vi.reportX hK0 hK now a.n)
    obtain ⟨s6, dis6⟩ := j_step dis s5 fr5 m6 fr6 (fun i k => tx.lt k)
    have rw56 := rw5.get m6
    have al6 := al5.get m6
    clear rw5 s5 t5 al5 gx5
    obtain ⟨⟨⟨X, cc⟩, v6, oc6⟩, eR⟩ : ∃ R, (stReport (v, cvP o) now a.n) = R := ⟨_, rfl⟩
    rw [eR] at vi6 ox s6 t6 c5 c6 rw56 rw6 ⊢
    have vi6 : VI v6 oc6 (k + 1) := vi6
    have ox : OutOk X := ox
    have s6 : DrA h6 di v6 o5 := s6
    have t6 : RDrA h6 ri v6 o6 := t6
    have c5 : cvP o5 = oc6 := c5
    have c6 : cvR o6 = oc6 := c6
    have rw56 : Rws h6 q5 X := rw56
    have rw6 : Rws h6 q6 X := rw6
    conv => whnf
    refine (dWay s6.b (by have := vi6.len; omega)).mono ?_
    rintro _ h8 ⟨qw, rfl, ow, mw⟩
    have ew : wayOf v6 = v6.way := by
      unfold wayOf
      split
      · rfl
      · rename_i kk
        exact (vi6.has (by simpa using kk)).symm
    rw [ew] at ow ⊢
    have s8 := s6.get mw (fun _ _ k => k)
    have t8 := t6.get mw (fun _ _ k => k)
    have rw58 := rw56.get mw
    have rw68 := rw6.get mw
    have al8 := al6.get mw
    conv => whnf
    refine ⟨_, rfl, ?_⟩
    conv => whnf
    refine ⟨_, rfl, ?_⟩
    conv => whnf
    refine ⟨dL53, dB53, by kernel_rfl, ?_⟩
    conv => whnf
    refine (rows25 rw58 rw68 ox.1 (by have := ox.2; omega)).mono ?_
    rintro _ h9 ⟨eh, rfl⟩
    rw [eh]
    clear eh h9
    conv => whnf
    rw [dq_ne]
    conv => whnf
    obtain ⟨chR, pwR, bR, wR⟩ := t8.b
    refine ⟨_, Cell.mk bR rfl, ?_⟩
    conv => whnf
    refine (dConn s8.b).mono ?_
    rintro _ h9 ⟨eh, rfl⟩
    rw [eh]
    clear eh h9
    conv => whnf
    refine ⟨⟨_, Cell.mk bR rfl, rfl⟩, ?_⟩
    conv => whnf
    rw [dq_ne]
    conv => whnf
    refine ⟨_, Cell.mk bR rfl, ?_⟩
    conv => whnf
    refine (dLive s8.b).mono ?_
    rintro _ h9 ⟨eh, rfl⟩
    rw [eh]
    clear eh h9
    conv => whnf
    refine ⟨⟨_, Cell.mk bR rfl, rfl⟩, ?_⟩
    conv => whnf
    rw [bq_ne]
    conv => whnf
    refine ⟨_, Cell.mk bR rfl, ?_⟩
    conv => whnf
    refine (dWhy s8.b).mono ?_
    rintro _ h9 ⟨eh, rfl⟩
    rw [eh]
    clear eh h9
    conv => whnf
    refine ⟨⟨_, Cell.mk bR rfl, rfl⟩, ?_⟩
    conv => whnf
    rw [dq_ne]
    conv => whnf
    refine ⟨_, Cell.mk bR rfl, ?_⟩
    conv => whnf
    refine (dAt s8.b).mono ?_
    rintro _ h9 ⟨eh, rfl⟩
    rw [eh]
    clear eh h9
    conv => whnf
    refine ⟨⟨_, Cell.mk bR rfl, rfl⟩, ?_⟩
    conv => whnf
    rw [dq_ne]
    conv => whnf
    refine ⟨_, Cell.mk bR rfl, ?_⟩
    conv => whnf
    rw [bq_ne]
    conv => whnf
    refine ⟨_, Cell.mk bR rfl, ?_⟩
    conv => whnf
    refine (ints47 (n := v6.way.length) ow.is wR.is (by have := vi6.len; omega)).mono ?_
    rintro _ h9 ⟨eh, rfl⟩
    rw [eh]
    clear eh h9
    rw [show (v6.way == v6.way) = true by simp]
    conv => whnf
    rw [succ_i64 hd (by omega)]
    refine ⟨_, Forget.cons rfl (Forget.cons rfl (Forget.cons rfl (Forget.cons rfl (Forget.cons rfl (Forget.nil _))))), ⟨k + 1, _, now, v6, o5, o6, hd, rfl, by omega, by omega, s8, t8, c6.trans c5.symm, dis6, by rw [c5]; exact vi6, al8, rfl⟩, ?_⟩
    show ((L.length : Int) - ((k + 1 : Nat) : Int)).toNat < ((L.length : Int) - (k : Int)).toNat
    omega
  conv => whnf
  refine br_mk (fun hk3 => ?_) (fun hk3 => ?_)
  · conv => whnf
    refine ((aFollow sx vi hK (by omega) (by omega))).mono ?_
    rintro _ h5 ⟨q5, o5, rfl, rw5, s5, c5, fr5, m5⟩
    have gx5 := m5.get gx (.inl (fun k => gd _ k rfl))
    have t5 := tx.get m5 (fun i k k2 => dis i k2 k)
    have al5 := al.get m5
    conv => whnf
    refine ⟨_, rfl, ?_⟩
    conv => whnf
    refine ⟨_, rfl, ?_⟩
    conv => whnf
    refine ((raFollow t5 vir hK (by omega) (by omega))).mono ?_
    rw [er]
    rintro _ h6 ⟨q6, o6, rfl, rw6, t6, c6, fr6, m6⟩
    conv => whnf
    refine ⟨_, rfl, ?_⟩
    conv => whnf
    refine ⟨_, rfl, ?_⟩
    conv => whnf
    have vi6 := (vi.follow hK0 hK now)
    have ox := (vi.followX hK0 hK now)
    obtain ⟨s6, dis6⟩ := j_step dis s5 fr5 m6 fr6 (fun i k => tx.lt k)
    have rw56 := rw5.get m6
    have al6 := al5.get m6
    clear rw5 s5 t5 al5 gx5
    obtain ⟨⟨⟨X, cc⟩, v6, oc6⟩, eR⟩ : ∃ R, (stFollow (v, cvP o) now) = R := ⟨_, rfl⟩
    rw [eR] at vi6 ox s6 t6 c5 c6 rw56 rw6 ⊢
    have vi6 : VI v6 oc6 (k + 1) := vi6
    have ox : OutOk X := ox
    have s6 : DrA h6 di v6 o5 := s6
    have t6 : RDrA h6 ri v6 o6 := t6
    have c5 : cvP o5 = oc6 := c5
    have c6 : cvR o6 = oc6 := c6
    have rw56 : Rws h6 q5 X := rw56
    have rw6 : Rws h6 q6 X := rw6
    conv => whnf
    refine (dWay s6.b (by have := vi6.len; omega)).mono ?_
    rintro _ h8 ⟨qw, rfl, ow, mw⟩
    have ew : wayOf v6 = v6.way := by
      unfold wayOf
      split
      · rfl
      · rename_i kk
        exact (vi6.has (by simpa using kk)).symm
    rw [ew] at ow ⊢
    have s8 := s6.get mw (fun _ _ k => k)
    have t8 := t6.get mw (fun _ _ k => k)
    have rw58 := rw56.get mw
    have rw68 := rw6.get mw
    have al8 := al6.get mw
    conv => whnf
    refine ⟨_, rfl, ?_⟩
    conv => whnf
    refine ⟨_, rfl, ?_⟩
    conv => whnf
    refine ⟨dL53, dB53, by kernel_rfl, ?_⟩
    conv => whnf
    refine (rows25 rw58 rw68 ox.1 (by have := ox.2; omega)).mono ?_
    rintro _ h9 ⟨eh, rfl⟩
    rw [eh]
    clear eh h9
    conv => whnf
    rw [dq_ne]
    conv => whnf
    obtain ⟨chR, pwR, bR, wR⟩ := t8.b
    refine ⟨_, Cell.mk bR rfl, ?_⟩
    conv => whnf
    refine (dConn s8.b).mono ?_
    rintro _ h9 ⟨eh, rfl⟩
    rw [eh]
    clear eh h9
    conv => whnf
    refine ⟨⟨_, Cell.mk bR rfl, rfl⟩, ?_⟩
    conv => whnf
    rw [dq_ne]
    conv => whnf
    refine ⟨_, Cell.mk bR rfl, ?_⟩
    conv => whnf
    refine (dLive s8.b).mono ?_
    rintro _ h9 ⟨eh, rfl⟩
    rw [eh]
    clear eh h9
    conv => whnf
    refine ⟨⟨_, Cell.mk bR rfl, rfl⟩, ?_⟩
    conv => whnf
    rw [bq_ne]
    conv => whnf
    refine ⟨_, Cell.mk bR rfl, ?_⟩
    conv => whnf
    refine (dWhy s8.b).mono ?_
    rintro _ h9 ⟨eh, rfl⟩
    rw [eh]
    clear eh h9
    conv => whnf
    refine ⟨⟨_, Cell.mk bR rfl, rfl⟩, ?_⟩
    conv => whnf
    rw [dq_ne]
    conv => whnf
    refine ⟨_, Cell.mk bR rfl, ?_⟩
    conv => whnf
    refine (dAt s8.b).mono ?_
    rintro _ h9 ⟨eh, rfl⟩
    rw [eh]
    clear eh h9
    conv => whnf
    refine ⟨⟨_, Cell.mk bR rfl, rfl⟩, ?_⟩
    conv => whnf
    rw [dq_ne]
    conv => whnf
    refine ⟨_, Cell.mk bR rfl, ?_⟩
    conv => whnf
    rw [bq_ne]
    conv => whnf
    refine ⟨_, Cell.mk bR rfl, ?_⟩
    conv => whnf
    refine (ints47 (n := v6.way.length) ow.is wR.is (by have := vi6.len; omega)).mono ?_
    rintro _ h9 ⟨eh, rfl⟩
    rw [eh]
    clear eh h9
    rw [show (v6.way == v6.way) = true by simp]
    conv => whnf
    rw [succ_i64 hd (by omega)]
    refine ⟨_, Forget.cons rfl (Forget.cons rfl (Forget.cons rfl (Forget.cons rfl (Forget.cons rfl (Forget.nil _))))), ⟨k + 1, _, now, v6, o5, o6, hd, rfl, by omega, by omega, s8, t8, c6.trans c5.symm, dis6, by rw [c5]; exact vi6, al8, rfl⟩, ?_⟩
    show ((L.length : Int) - ((k + 1 : Nat) : Int)).toNat < ((L.length : Int) - (k : Int)).toNat
    omega
  conv => whnf
  refine br_mk (fun hk4 => ?_) (fun hk4 => ?_)
  · conv => whnf
    refine ((aStop sx vi hK (by omega) (by omega))).mono ?_
    rintro _ h5 ⟨q5, o5, rfl, rw5, s5, c5, fr5, m5⟩
    have gx5 := m5.get gx (.inl (fun k => gd _ k rfl))
    have t5 := tx.get m5 (fun i k k2 => dis i k2 k)
    have al5 := al.get m5
    conv => whnf
    refine ⟨_, rfl, ?_⟩
    conv => whnf
    refine ⟨_, rfl, ?_⟩
    conv => whnf
    refine ((raStop t5 vir hK (by omega) (by omega))).mono ?_
    rw [er]
    rintro _ h6 ⟨q6, o6, rfl, rw6, t6, c6, fr6, m6⟩
    conv => whnf
    refine ⟨_, rfl, ?_⟩
    conv => whnf
    refine ⟨_, rfl, ?_⟩
    conv => whnf
    have vi6 := (vi.stop hK0 hK now)
    have ox := (vi.stopX hK0 hK now)
    obtain ⟨s6, dis6⟩ := j_step dis s5 fr5 m6 fr6 (fun i k => tx.lt k)
    have rw56 := rw5.get m6
    have al6 := al5.get m6
    clear rw5 s5 t5 al5 gx5
    obtain ⟨⟨⟨X, cc⟩, v6, oc6⟩, eR⟩ : ∃ R, (stStop (v, cvP o) now) = R := ⟨_, rfl⟩
    rw [eR] at vi6 ox s6 t6 c5 c6 rw56 rw6 ⊢
    have vi6 : VI v6 oc6 (k + 1) := vi6
    have ox : OutOk X := ox
    have s6 : DrA h6 di v6 o5 := s6
    have t6 : RDrA h6 ri v6 o6 := t6
    have c5 : cvP o5 = oc6 := c5
    have c6 : cvR o6 = oc6 := c6
    have rw56 : Rws h6 q5 X := rw56
    have rw6 : Rws h6 q6 X := rw6
    conv => whnf
    refine (dWay s6.b (by have := vi6.len; omega)).mono ?_
    rintro _ h8 ⟨qw, rfl, ow, mw⟩
    have ew : wayOf v6 = v6.way := by
      unfold wayOf
      split
      · rfl
      · rename_i kk
        exact (vi6.has (by simpa using kk)).symm
    rw [ew] at ow ⊢
    have s8 := s6.get mw (fun _ _ k => k)
    have t8 := t6.get mw (fun _ _ k => k)
    have rw58 := rw56.get mw
    have rw68 := rw6.get mw
    have al8 := al6.get mw
    conv => whnf
    refine ⟨_, rfl, ?_⟩
    conv => whnf
    refine ⟨_, rfl, ?_⟩
    conv => whnf
    refine ⟨dL53, dB53, by kernel_rfl, ?_⟩
    conv => whnf
    refine (rows25 rw58 rw68 ox.1 (by have := ox.2; omega)).mono ?_
    rintro _ h9 ⟨eh, rfl⟩
    rw [eh]
    clear eh h9
    conv => whnf
    rw [dq_ne]
    conv => whnf
    obtain ⟨chR, pwR, bR, wR⟩ := t8.b
    refine ⟨_, Cell.mk bR rfl, ?_⟩
    conv => whnf
    refine (dConn s8.b).mono ?_
    rintro _ h9 ⟨eh, rfl⟩
    rw [eh]
    clear eh h9
    conv => whnf
    refine ⟨⟨_, Cell.mk bR rfl, rfl⟩, ?_⟩
    conv => whnf
    rw [dq_ne]
    conv => whnf
    refine ⟨_, Cell.mk bR rfl, ?_⟩
    conv => whnf
    refine (dLive s8.b).mono ?_
    rintro _ h9 ⟨eh, rfl⟩
    rw [eh]
    clear eh h9
    conv => whnf
    refine ⟨⟨_, Cell.mk bR rfl, rfl⟩, ?_⟩
    conv => whnf
    rw [bq_ne]
    conv => whnf
    refine ⟨_, Cell.mk bR rfl, ?_⟩
    conv => whnf
    refine (dWhy s8.b).mono ?_
    rintro _ h9 ⟨eh, rfl⟩
    rw [eh]
    clear eh h9
    conv => whnf
    refine ⟨⟨_, Cell.mk bR rfl, rfl⟩, ?_⟩
    conv => whnf
    rw [dq_ne]
    conv => whnf
    refine ⟨_, Cell.mk bR rfl, ?_⟩
    conv => whnf
    refine (dAt s8.b).mono ?_
    rintro _ h9 ⟨eh, rfl⟩
    rw [eh]
    clear eh h9
    conv => whnf
    refine ⟨⟨_, Cell.mk bR rfl, rfl⟩, ?_⟩
    conv => whnf
    rw [dq_ne]
    conv => whnf
    refine ⟨_, Cell.mk bR rfl, ?_⟩
    conv => whnf
    rw [bq_ne]
    conv => whnf
    refine ⟨_, Cell.mk bR rfl, ?_⟩
    conv => whnf
    refine (ints47 (n := v6.way.length) ow.is wR.is (by have := vi6.len; omega)).mono ?_
    rintro _ h9 ⟨eh, rfl⟩
    rw [eh]
    clear eh h9
    rw [show (v6.way == v6.way) = true by simp]
    conv => whnf
    rw [succ_i64 hd (by omega)]
    refine ⟨_, Forget.cons rfl (Forget.cons rfl (Forget.cons rfl (Forget.cons rfl (Forget.cons rfl (Forget.nil _))))), ⟨k + 1, _, now, v6, o5, o6, hd, rfl, by omega, by omega, s8, t8, c6.trans c5.symm, dis6, by rw [c5]; exact vi6, al8, rfl⟩, ?_⟩
    show ((L.length : Int) - ((k + 1 : Nat) : Int)).toNat < ((L.length : Int) - (k : Int)).toNat
    omega
  conv => whnf
  refine br_mk (fun hk5 => ?_) (fun hk5 => ?_)
  · conv => whnf
    rw [wrap_i64 (x := now + 1) (by omega) (by omega)]
    refine (aTick (now := now + 1) sx vi hK (by omega) (by omega)).mono ?_
    rintro _ h5 ⟨q5, o5, rfl, rw5, s5, c5, fr5, m5⟩
    have t5 := tx.get m5 (fun i k k2 => dis i k2 k)
    have al5 := al.get m5
    conv => whnf
    refine (raTick (now := now + 1) t5 vir hK (by omega) (by omega)).mono ?_
    rw [er]
    rintro _ h6 ⟨q6, o6, rfl, rw6, t6, c6, fr6, m6⟩
    conv => whnf
    have vi6 := vi.tick hK0 hK (now + 1)
    have ox := vi.tickX hK0 hK (now + 1)
    obtain ⟨s6, dis6⟩ := j_step dis s5 fr5 m6 fr6 (fun i k => tx.lt k)
    have rw56 := rw5.get m6
    have al6 := al5.get m6
    clear rw5 s5 t5 al5
    obtain ⟨⟨X, v6, oc6⟩, eR⟩ : ∃ R, stTick (v, cvP o) (now + 1) = R := ⟨_, rfl⟩
    rw [eR] at vi6 ox s6 t6 c5 c6 rw56 rw6 ⊢
    have vi6 : VI v6 oc6 (k + 1) := vi6
    have ox : OutOk X := ox
    have s6 : DrA h6 di v6 o5 := s6
    have t6 : RDrA h6 ri v6 o6 := t6
    have c5 : cvP o5 = oc6 := c5
    have c6 : cvR o6 = oc6 := c6
    have rw56 : Rws h6 q5 X := rw56
    have rw6 : Rws h6 q6 X := rw6
    conv => whnf
    refine (dWay s6.b (by have := vi6.len; omega)).mono ?_
    rintro _ h8 ⟨qw, rfl, ow, mw⟩
    have ew : wayOf v6 = v6.way := by
      unfold wayOf
      split
      · rfl
      · rename_i kk
        exact (vi6.has (by simpa using kk)).symm
    rw [ew] at ow ⊢
    have s8 := s6.get mw (fun _ _ k => k)
    have t8 := t6.get mw (fun _ _ k => k)
    have rw58 := rw56.get mw
    have rw68 := rw6.get mw
    have al8 := al6.get mw
    conv => whnf
    refine ⟨_, rfl, ?_⟩
    conv => whnf
    refine ⟨_, rfl, ?_⟩
    conv => whnf
    refine ⟨dL53, dB53, by kernel_rfl, ?_⟩
    conv => whnf
    refine (rows25 rw58 rw68 ox.1 (by have := ox.2; omega)).mono ?_
    rintro _ h9 ⟨eh, rfl⟩
    rw [eh]
    clear eh h9
    conv => whnf
    skip
    obtain ⟨chR, pwR, bR, wR⟩ := t8.b
    refine ⟨_, Cell.mk bR rfl, ?_⟩
    conv => whnf
    refine (dConn s8.b).mono ?_
    rintro _ h9 ⟨eh, rfl⟩
    rw [eh]
    clear eh h9
    conv => whnf
    refine ⟨⟨_, Cell.mk bR rfl, rfl⟩, ?_⟩
    conv => whnf
    rw [dq_ne]
    conv => whnf
    refine ⟨_, Cell.mk bR rfl, ?_⟩
    conv => whnf
    refine (dLive s8.b).mono ?_
    rintro _ h9 ⟨eh, rfl⟩
    rw [eh]
    clear eh h9
    conv => whnf
    refine ⟨⟨_, Cell.mk bR rfl, rfl⟩, ?_⟩
    conv => whnf
    rw [bq_ne]
    conv => whnf
    refine ⟨_, Cell.mk bR rfl, ?_⟩
    conv => whnf
    refine (dWhy s8.b).mono ?_
    rintro _ h9 ⟨eh, rfl⟩
    rw [eh]
    clear eh h9
    conv => whnf
    refine ⟨⟨_, Cell.mk bR rfl, rfl⟩, ?_⟩
    conv => whnf
    rw [dq_ne]
    conv => whnf
    refine ⟨_, Cell.mk bR rfl, ?_⟩
    conv => whnf
    refine (dAt s8.b).mono ?_
    rintro _ h9 ⟨eh, rfl⟩
    rw [eh]
    clear eh h9
    conv => whnf
    refine ⟨⟨_, Cell.mk bR rfl, rfl⟩, ?_⟩
    conv => whnf
    rw [dq_ne]
    conv => whnf
    refine ⟨_, Cell.mk bR rfl, ?_⟩
    conv => whnf
    rw [bq_ne]
    conv => whnf
    refine ⟨_, Cell.mk bR rfl, ?_⟩
    conv => whnf
    refine (ints47 (n := v6.way.length) ow.is wR.is (by have := vi6.len; omega)).mono ?_
    rintro _ h9 ⟨eh, rfl⟩
    rw [eh]
    clear eh h9
    rw [show (v6.way == v6.way) = true by simp]
    conv => whnf
    rw [succ_i64 hd (by omega)]
    refine ⟨_, Forget.cons rfl (Forget.cons rfl (Forget.cons rfl (Forget.cons rfl (Forget.cons rfl (Forget.nil _))))), ⟨k + 1, _, (now + 1), v6, o5, o6, hd, rfl, by omega, by omega, s8, t8, c6.trans c5.symm, dis6, by rw [c5]; exact vi6, al8, rfl⟩, ?_⟩
    show ((L.length : Int) - ((k + 1 : Nat) : Int)).toNat < ((L.length : Int) - (k : Int)).toNat
    omega
  conv => whnf
  refine br_mk (fun hk6 => ?_) (fun hk6 => ?_)
  · conv => whnf
    rw [hk6]
    conv => whnf
    refine ⟨_, Cell.mk gx rfl, ?_⟩
    conv => whnf
    refine ⟨_, Cell.mk gx rfl, ?_⟩
    conv => whnf
    rw [hk6]
    conv => whnf
    refine ⟨a.w.cells, Cells.mk gx (Nat.le_of_ble_eq_true rfl) rfl, ?_⟩
    conv => whnf
    refine (ref42 a.w ⟨ak.es.is, ak.e.1, ak.e.2, by omega⟩).mono ?_
    rintro _ h7 ⟨q7, rfl, o7, m7⟩
    have gx7 := m7.get gx (.inl (fun k => k))
    have tx7 := tx.get m7 (fun _ _ k => k)
    have lw := encB_len30 a.w (by omega)
    conv => whnf
    refine ⟨_, rfl, ?_⟩
    conv => whnf
    refine ⟨_, rfl, ?_⟩
    conv => whnf
    obtain ⟨chS, pwS, bS, wS⟩ := tx7.b
    obtain ⟨u0, ux, mu⟩ := lay_row (h := h7) (sz := 6) [i64 0, i64 0, i64 0, i64 0, i64 0, .sl none 0] (Grm.cells (⟨v.conn, IntKind.i64.wrap (1 + IntKind.i64.wrap (a.s.tdiv 8) % 3), a.s % 4, a.m % 4, a.n % 5, q7, encB a.w⟩ : Grm))
    have mP := Mod.push none_ h7 (.row true 6 [i64 0, i64 0, i64 0, i64 0, i64 0, .sl none 0])
    have gP := mP.get gx7 (.inl (fun k => k))
    have bP := mP.get bS (.inl (fun k => k))
    have gx9 := mu.get gx7 (.inl (fun k => k))
    refine ⟨[], [20, 7], rfl, ⟨[0, 1, 2, 3, 4, 5, 6, 9, 10, 12, 13, 15, 16, 18, 20, 7, 8, 11, 14, 17, 19, 21], [0, 1, 3, 7, 0, 16, 48, 1048688, 1048816, 0, 512, 1050352, 0, 4096, 1064688, 0, 32768, 1179376, 0, 1572863, 0, 2097151], by kernel_rfl, ?_⟩, ?_⟩
    rotate_left
    refine ⟨[], [20, 11], rfl, ⟨[0, 1, 2, 3, 4, 5, 6, 9, 10, 12, 13, 15, 16, 18, 7, 8, 20, 11, 14, 17, 19, 21], [0, 1, 3, 7, 0, 16, 48, 112, 240, 0, 512, 1050352, 0, 4096, 1064688, 0, 32768, 1179376, 0, 1572863, 240, 2097151], by kernel_rfl, ?_⟩, ?_⟩
    rotate_left
    refine ⟨[], [20, 14], rfl, ⟨[0, 1, 2, 3, 4, 5, 6, 9, 10, 12, 13, 15, 16, 18, 7, 8, 11, 20, 14, 17, 19, 21], [0, 1, 3, 7, 0, 16, 48, 112, 240, 0, 512, 1776, 0, 4096, 1064688, 0, 32768, 1179376, 0, 1572863, 3824, 2097151], by kernel_rfl, ?_⟩, ?_⟩
    rotate_left
    refine ⟨[], [20, 17], rfl, ⟨[0, 1, 2, 3, 4, 5, 6, 9, 10, 12, 13, 15, 16, 18, 7, 8, 11, 14, 20, 17, 19, 21], [0, 1, 3, 7, 0, 16, 48, 112, 240, 0, 512, 1776, 0, 4096, 16112, 0, 32768, 1179376, 0, 1572863, 32496, 2097151], by kernel_rfl, ?_⟩, ?_⟩
    rotate_left
    refine ⟨[0, 1, 2, 3, 4, 5, 6, 9, 10, 12, 13, 15, 16, 18, 7, 8, 11, 14, 17, 19, 20, 21], [0, 1, 3, 7, 0, 16, 48, 112, 240, 0, 512, 1776, 0, 4096, 16112, 0, 32768, 130800, 0, 524287, 261872, 2097151], by kernel_rfl, ?_⟩
    all_goals
      conv => whnf
      refine ⟨_, Cell.mk bS rfl, ?_⟩
      conv => whnf
      refine ⟨_, Cell.mk gx7 rfl, ?_⟩
      conv => whnf
      refine ⟨by decide, ?_⟩
      conv => whnf
      refine ⟨_, Cell.mk gx7 rfl, ?_⟩
      conv => whnf
      refine ⟨_, Cell.mk gx7 rfl, ?_⟩
      conv => whnf
      refine ⟨_, Cell.mk gx7 rfl, ?_⟩
      conv => whnf
      repeat (first | (refine ⟨⟨_, Cell.mk gP rfl, rfl⟩, ?_⟩; conv => whnf) | (refine ⟨⟨_, Cell.mk bP rfl, rfl⟩, ?_⟩; conv => whnf) | (refine ⟨⟨_, Cell.mk gx7 rfl, rfl⟩, ?_⟩; conv => whnf) | (refine ⟨⟨_, Cell.mk bS rfl, rfl⟩, ?_⟩; conv => whnf))
      refine (round19 (m := 3) (by decide) (by decide) _ _).mono ?_
      rintro _ h9 ⟨eh, rfl⟩
      rw [eh]
      clear eh h9
      conv => whnf
      repeat (first | (refine ⟨⟨_, Cell.mk gP rfl, rfl⟩, ?_⟩; conv => whnf) | (refine ⟨⟨_, Cell.mk bP rfl, rfl⟩, ?_⟩; conv => whnf) | (refine ⟨⟨_, Cell.mk gx7 rfl, rfl⟩, ?_⟩; conv => whnf) | (refine ⟨⟨_, Cell.mk bS rfl, rfl⟩, ?_⟩; conv => whnf))
      refine (round19 (m := 4) (by decide) (by decide) _ _).mono ?_
      rintro _ h9 ⟨eh, rfl⟩
      rw [eh]
      clear eh h9
      conv => whnf
      repeat (first | (refine ⟨⟨_, Cell.mk gP rfl, rfl⟩, ?_⟩; conv => whnf) | (refine ⟨⟨_, Cell.mk bP rfl, rfl⟩, ?_⟩; conv => whnf) | (refine ⟨⟨_, Cell.mk gx7 rfl, rfl⟩, ?_⟩; conv => whnf) | (refine ⟨⟨_, Cell.mk bS rfl, rfl⟩, ?_⟩; conv => whnf))
      refine (round19 (m := 4) (by decide) (by decide) _ _).mono ?_
      rintro _ h9 ⟨eh, rfl⟩
      rw [eh]
      clear eh h9
      conv => whnf
      repeat (first | (refine ⟨⟨_, Cell.mk gP rfl, rfl⟩, ?_⟩; conv => whnf) | (refine ⟨⟨_, Cell.mk bP rfl, rfl⟩, ?_⟩; conv => whnf) | (refine ⟨⟨_, Cell.mk gx7 rfl, rfl⟩, ?_⟩; conv => whnf) | (refine ⟨⟨_, Cell.mk bS rfl, rfl⟩, ?_⟩; conv => whnf))
      refine (round19 (m := 5) (by decide) (by decide) _ _).mono ?_
      rintro _ h9 ⟨eh, rfl⟩
      rw [eh]
      clear eh h9
      conv => whnf
      repeat (first | (refine ⟨⟨_, Cell.mk gP rfl, rfl⟩, ?_⟩; conv => whnf) | (refine ⟨⟨_, Cell.mk bP rfl, rfl⟩, ?_⟩; conv => whnf) | (refine ⟨⟨_, Cell.mk gx7 rfl, rfl⟩, ?_⟩; conv => whnf) | (refine ⟨⟨_, Cell.mk bS rfl, rfl⟩, ?_⟩; conv => whnf))
      refine ⟨_, _, u0, Nat.le_of_ble_eq_true rfl, ?_⟩
      conv => whnf
      refine ⟨_, Cell.mk gx9 rfl, ?_⟩
      conv => whnf
      refine ⟨by decide, ?_⟩
      conv => whnf
      refine br_mk (fun hz => ?_) (fun hz => ?_)
      · conv => whnf
        refine ⟨_, Cell.mk gx9 rfl, ?_⟩
        conv => whnf
        refine (round19 (m := 5) (by decide) (by decide) _ _).mono ?_
        rintro _ h9 ⟨eh, rfl⟩
        rw [eh]
        clear eh h9
        conv => whnf
        repeat (first | (refine ⟨⟨_, Cell.mk gP rfl, rfl⟩, ?_⟩; conv => whnf) | (refine ⟨⟨_, Cell.mk bP rfl, rfl⟩, ?_⟩; conv => whnf) | (refine ⟨⟨_, Cell.mk gx7 rfl, rfl⟩, ?_⟩; conv => whnf) | (refine ⟨⟨_, Cell.mk bS rfl, rfl⟩, ?_⟩; conv => whnf))
        refine ⟨_, _, ux, Nat.le_of_ble_eq_true rfl, ?_⟩
        have mv := Mod.set (S := one h7.next) (ob := .row true 6 (Grm.cells (⟨a.m % 5, IntKind.i64.wrap (1 + IntKind.i64.wrap (a.s.tdiv 8) % 3), a.s % 4, a.m % 4, a.n % 5, q7, encB a.w⟩ : Grm))) rfl ux rfl
        have uy := H.obj_set_same (ob' := .row true 6 (Grm.cells (⟨a.m % 5, IntKind.i64.wrap (1 + IntKind.i64.wrap (a.s.tdiv 8) % 3), a.s % 4, a.m % 4, a.n % 5, q7, encB a.w⟩ : Grm))) ux
        have mw := mu.trans' mv (S2 := none_) (fun _ _ k => k) (fun i hi k => absurd hi (by unfold one at k; omega))
        conv => whnf
        refine ⟨_, Cells.mk uy (Nat.le_of_ble_eq_true rfl) rfl, ?_⟩
        conv => whnf
        refine (gref50 (⟨a.m % 5, IntKind.i64.wrap (1 + IntKind.i64.wrap (a.s.tdiv 8) % 3), a.s % 4, a.m % 4, a.n % 5, q7, encB a.w⟩ : Grm) ⟨RoSl.is (RoSl.get (show RoSl h7 q7 (encB a.w).length 1 (ints .u8 (encB a.w)) from o7) mw), encB_bts _, lw⟩).mono ?_
        rintro _ hX ⟨q16, rfl, o16, m16⟩
        have MM := mod_none m7 (mod_none mw m16)
        have sx := sx.get MM (fun _ _ k => k)
        have tx := tx.get MM (fun _ _ k => k)
        have al := al.get MM
        have bg : Bts (encG (⟨a.m % 5, IntKind.i64.wrap (1 + IntKind.i64.wrap (a.s.tdiv 8) % 3), a.s % 4, a.m % 4, a.n % 5, q7, encB a.w⟩ : Grm)) := encG_bts (encB_bts _)
        have lg : (encG (⟨a.m % 5, IntKind.i64.wrap (1 + IntKind.i64.wrap (a.s.tdiv 8) % 3), a.s % 4, a.m % 4, a.n % 5, q7, encB a.w⟩ : Grm)).length ≤ 800000 := Nat.le_trans (encG_len _) (show 21 + (encB a.w).length ≤ 800000 by omega)
        obtain ⟨B16, eB⟩ : ∃ B, encG (⟨a.m % 5, IntKind.i64.wrap (1 + IntKind.i64.wrap (a.s.tdiv 8) % 3), a.s % 4, a.m % 4, a.n % 5, q7, encB a.w⟩ : Grm) = B := ⟨_, rfl⟩
        have o16 : RoSl hX q16 (encG (⟨a.m % 5, IntKind.i64.wrap (1 + IntKind.i64.wrap (a.s.tdiv 8) % 3), a.s % 4, a.m % 4, a.n % 5, q7, encB a.w⟩ : Grm)).length 1 (ints .u8 (encG (⟨a.m % 5, IntKind.i64.wrap (1 + IntKind.i64.wrap (a.s.tdiv 8) % 3), a.s % 4, a.m % 4, a.n % 5, q7, encB a.w⟩ : Grm))) := o16
        rw [eB] at o16 bg lg ⊢
        conv => whnf
        refine ⟨_, rfl, ?_⟩
        conv => whnf
        refine ⟨_, rfl, ?_⟩
        conv => whnf
        refine (aRecv (now := now) sx vi hK (by omega) (by omega) (RoSl.is (o16)) (bg) (lg)).mono ?_
        rintro _ h5 ⟨q5, g5, o5, rfl, rw5, ms5, s5, c5, fr5, m5⟩
        have t5 := tx.get m5 (fun i k k2 => dis i k2 k)
        have al5 := al.get m5
        conv => whnf
        refine ⟨_, rfl, ?_⟩
        conv => whnf
        refine ⟨_, rfl, ?_⟩
        conv => whnf
        refine (raRecv (now := now) t5 vir hK (by omega) (by omega) (RoSl.is (RoSl.get (o16) m5)) (bg) (lg)).mono ?_
        rw [er]
        rintro _ h6 ⟨q6, g6, o6, rfl, rw6, ms6, t6, c6, fr6, m6⟩
        conv => whnf
        refine ⟨_, rfl, ?_⟩
        conv => whnf
        refine ⟨_, rfl, ?_⟩
        conv => whnf
        have vi6 := vi.recv hK0 hK now (bg)
        have ox := vi.recvXX hK0 hK now (bg)
        have oy := vi.gotN hK0 hK now (bg)
        obtain ⟨s6, dis6⟩ := j_step dis s5 fr5 m6 fr6 (fun i k => tx.lt k)
        have rw56 := rw5.get m6
        have al6 := al5.get m6
        have ms56 := ms5.get m6 (fun i k => tx.lt k)
        clear rw5 s5 t5 al5 ms5
        obtain ⟨⟨⟨X, Y⟩, v6, oc6⟩, eR⟩ : ∃ R, stRecv (v, cvP o) now (gOf (B16)) = R := ⟨_, rfl⟩
        rw [eR] at vi6 ox oy s6 t6 c5 c6 rw56 rw6 ms56 ms6 ⊢
        have vi6 : VI v6 oc6 (k + 1) := vi6
        have ox : OutOk X := ox
        have oy : Y.length ≤ 100000 := oy
        have s6 : DrA h6 di v6 o5 := s6
        have t6 : RDrA h6 ri v6 o6 := t6
        have c5 : cvP o5 = oc6 := c5
        have c6 : cvR o6 = oc6 := c6
        have rw56 : Rws h6 q5 X := rw56
        have rw6 : Rws h6 q6 X := rw6
        have ms56 : Msgs h6 _ g5 Y := ms56
        have ms6 : Msgs h6 _ g6 Y := ms6
        conv => whnf
        rw [dq_ne]
        conv => whnf
        refine ⟨fun env hk' => ∃ (j : Nat) (z2 : Int), j ≤ Y.length ∧ z2 = j ∧ Ab.Mod none_ h6 hk' ∧ env = [(24, i64 z2), (13, .sl q6 X.length), (12, .sl q5 X.length), (23, .sl g6 Y.length), (21, .sl g5 Y.length), (15, i64 0), (14, i64 0), (10, i64 k), (9, i64 now), (8, .ptr (some (ri, 0))), (6, .ptr (some (di, 0))), (1, .sl p1 L.length)],
          fun env _ => match get env 24 with
            | .int _ z => ((Y.length : Int) - z).toNat
            | _ => 0, ⟨_, Forget.cons rfl (Forget.cons rfl (Forget.cons rfl (Forget.cons rfl (Forget.cons rfl (Forget.cons rfl (Forget.cons rfl (Forget.cons rfl (Forget.cons rfl (Forget.cons rfl (Forget.cons rfl (Forget.cons rfl (Forget.nil _)))))))))))), 0, _, Nat.zero_le _, rfl, mod_refl _ _, rfl⟩, ?_⟩
        rintro _ hm ⟨j, z2, hj, rfl, mm, rfl⟩
        conv => whnf
        refine br_mk (fun hd2 => ?_) (fun hd2 => ?_)
        rotate_left
        · conv => whnf
          have s6 := s6.get mm (fun _ _ k => k)
          have t6 := t6.get mm (fun _ _ k => k)
          have rw56 := rw56.get mm
          have rw6 := rw6.get mm
          have al6 := al6.get mm
          refine (dWay s6.b (by have := vi6.len; omega)).mono ?_
          rintro _ h8 ⟨qw, rfl, ow, mw⟩
          have ew : wayOf v6 = v6.way := by
            unfold wayOf
            split
            · rfl
            · rename_i kk
              exact (vi6.has (by simpa using kk)).symm
          rw [ew] at ow ⊢
          have s8 := s6.get mw (fun _ _ k => k)
          have t8 := t6.get mw (fun _ _ k => k)
          have rw58 := rw56.get mw
          have rw68 := rw6.get mw
          have al8 := al6.get mw
          conv => whnf
          refine ⟨_, rfl, ?_⟩
          conv => whnf
          refine ⟨_, rfl, ?_⟩
          conv => whnf
          refine ⟨dL53, dB53, by kernel_rfl, ?_⟩
          conv => whnf
          refine (rows25 rw58 rw68 ox.1 (by have := ox.2; omega)).mono ?_
          rintro _ h9 ⟨eh, rfl⟩
          rw [eh]
          clear eh h9
          conv => whnf
          skip
          obtain ⟨chR, pwR, bR, wR⟩ := t8.b
          refine ⟨_, Cell.mk bR rfl, ?_⟩
          conv => whnf
          refine (dConn s8.b).mono ?_
          rintro _ h9 ⟨eh, rfl⟩
          rw [eh]
          clear eh h9
          conv => whnf
          refine ⟨⟨_, Cell.mk bR rfl, rfl⟩, ?_⟩
          conv => whnf
          rw [dq_ne]
          conv => whnf
          refine ⟨_, Cell.mk bR rfl, ?_⟩
          conv => whnf
          refine (dLive s8.b).mono ?_
          rintro _ h9 ⟨eh, rfl⟩
          rw [eh]
          clear eh h9
          conv => whnf
          refine ⟨⟨_, Cell.mk bR rfl, rfl⟩, ?_⟩
          conv => whnf
          rw [bq_ne]
          conv => whnf
          refine ⟨_, Cell.mk bR rfl, ?_⟩
          conv => whnf
          refine (dWhy s8.b).mono ?_
          rintro _ h9 ⟨eh, rfl⟩
          rw [eh]
          clear eh h9
          conv => whnf
          refine ⟨⟨_, Cell.mk bR rfl, rfl⟩, ?_⟩
          conv => whnf
          rw [dq_ne]
          conv => whnf
          refine ⟨_, Cell.mk bR rfl, ?_⟩
          conv => whnf
          refine (dAt s8.b).mono ?_
          rintro _ h9 ⟨eh, rfl⟩
          rw [eh]
          clear eh h9
          conv => whnf
          refine ⟨⟨_, Cell.mk bR rfl, rfl⟩, ?_⟩
          conv => whnf
          rw [dq_ne]
          conv => whnf
          refine ⟨_, Cell.mk bR rfl, ?_⟩
          conv => whnf
          rw [bq_ne]
          conv => whnf
          refine ⟨_, Cell.mk bR rfl, ?_⟩
          conv => whnf
          refine (ints47 (n := v6.way.length) ow.is wR.is (by have := vi6.len; omega)).mono ?_
          rintro _ h9 ⟨eh, rfl⟩
          rw [eh]
          clear eh h9
          rw [show (v6.way == v6.way) = true by simp]
          conv => whnf
          rw [succ_i64 hd (by omega)]
          refine ⟨_, Forget.cons rfl (Forget.cons rfl (Forget.cons rfl (Forget.cons rfl (Forget.cons rfl (Forget.nil _))))), ⟨k + 1, _, now, v6, o5, o6, hd, rfl, by omega, by omega, s8, t8, c6.trans c5.symm, dis6, by rw [c5]; exact vi6, al8, rfl⟩, ?_⟩
          show ((L.length : Int) - ((k + 1 : Nat) : Int)).toNat < ((L.length : Int) - (k : Int)).toNat
          omega
        have hd2 : j < Y.length := by simpa using hd2
        obtain ⟨i7, c7, i8, c8, m7, m8, p7, u7, ok7, p8, u8, ok8, sm⟩ := Msgs.two (ms56.get mm (fun _ k => k.elim)) (ms6.get mm (fun _ k => k.elim)) hd2
        conv => whnf
        refine ⟨[0, 1, 2, 3, 4, 5, 6, 7, 8, 9], [0, 0, 3, 7, 0, 0, 48, 112, 255, 511], by kernel_rfl, ?_⟩
        conv => whnf
        refine ⟨i7, c7, j, p7, rfl, hd2, ?_⟩
        conv => whnf
        refine ⟨_, u7, ?_⟩
        conv => whnf
        refine ⟨i8, c8, j, p8, rfl, hd2, ?_⟩
        conv => whnf
        refine ⟨_, u8, ?_⟩
        conv => whnf
        refine (sameMsg45 m7 m8 ok7 ok8).mono ?_
        rintro _ h9 ⟨rfl, m9⟩
        rw [sm]
        conv => whnf
        rw [succ_i64 hd2 (by omega)]
        refine ⟨_, Forget.cons rfl (Forget.cons rfl (Forget.cons rfl (Forget.cons rfl (Forget.cons rfl (Forget.cons rfl (Forget.cons rfl (Forget.cons rfl (Forget.cons rfl (Forget.cons rfl (Forget.cons rfl (Forget.cons rfl (Forget.nil _)))))))))))), ⟨j + 1, _, hd2, rfl, mod_none mm m9, rfl⟩, ?_⟩
        show ((Y.length : Int) - ((j + 1 : Nat) : Int)).toNat < ((Y.length : Int) - (j : Int)).toNat
        omega
      · conv => whnf
        refine ⟨_, Cells.mk ux (Nat.le_of_ble_eq_true rfl) rfl, ?_⟩
        conv => whnf
        refine (gref50 (⟨v.conn, IntKind.i64.wrap (1 + IntKind.i64.wrap (a.s.tdiv 8) % 3), a.s % 4, a.m % 4, a.n % 5, q7, encB a.w⟩ : Grm) ⟨RoSl.is (RoSl.get (show RoSl h7 q7 (encB a.w).length 1 (ints .u8 (encB a.w)) from o7) mu), encB_bts _, lw⟩).mono ?_
        rintro _ hX ⟨q16, rfl, o16, m16⟩
        have MM := mod_none m7 (mod_none mu m16)
        have sx := sx.get MM (fun _ _ k => k)
        have tx := tx.get MM (fun _ _ k => k)
        have al := al.get MM
        have bg : Bts (encG (⟨v.conn, IntKind.i64.wrap (1 + IntKind.i64.wrap (a.s.tdiv 8) % 3), a.s % 4, a.m % 4, a.n % 5, q7, encB a.w⟩ : Grm)) := encG_bts (encB_bts _)
        have lg : (encG (⟨v.conn, IntKind.i64.wrap (1 + IntKind.i64.wrap (a.s.tdiv 8) % 3), a.s % 4, a.m % 4, a.n % 5, q7, encB a.w⟩ : Grm)).length ≤ 800000 := Nat.le_trans (encG_len _) (show 21 + (encB a.w).length ≤ 800000 by omega)
        obtain ⟨B16, eB⟩ : ∃ B, encG (⟨v.conn, IntKind.i64.wrap (1 + IntKind.i64.wrap (a.s.tdiv 8) % 3), a.s % 4, a.m % 4, a.n % 5, q7, encB a.w⟩ : Grm) = B := ⟨_, rfl⟩
        have o16 : RoSl hX q16 (encG (⟨v.conn, IntKind.i64.wrap (1 + IntKind.i64.wrap (a.s.tdiv 8) % 3), a.s % 4, a.m % 4, a.n % 5, q7, encB a.w⟩ : Grm)).length 1 (ints .u8 (encG (⟨v.conn, IntKind.i64.wrap (1 + IntKind.i64.wrap (a.s.tdiv 8) % 3), a.s % 4, a.m % 4, a.n % 5, q7, encB a.w⟩ : Grm))) := o16
        rw [eB] at o16 bg lg ⊢
        conv => whnf
        refine ⟨_, rfl, ?_⟩
        conv => whnf
        refine ⟨_, rfl, ?_⟩
        conv => whnf
        refine (aRecv (now := now) sx vi hK (by omega) (by omega) (RoSl.is (o16)) (bg) (lg)).mono ?_
        rintro _ h5 ⟨q5, g5, o5, rfl, rw5, ms5, s5, c5, fr5, m5⟩
        have t5 := tx.get m5 (fun i k k2 => dis i k2 k)
        have al5 := al.get m5
        conv => whnf
        refine ⟨_, rfl, ?_⟩
        conv => whnf
        refine ⟨_, rfl, ?_⟩
        conv => whnf
        refine (raRecv (now := now) t5 vir hK (by omega) (by omega) (RoSl.is (RoSl.get (o16) m5)) (bg) (lg)).mono ?_
        rw [er]
        rintro _ h6 ⟨q6, g6, o6, rfl, rw6, ms6, t6, c6, fr6, m6⟩
        conv => whnf
        refine ⟨_, rfl, ?_⟩
        conv => whnf
        refine ⟨_, rfl, ?_⟩
        conv => whnf
        have vi6 := vi.recv hK0 hK now (bg)
        have ox := vi.recvXX hK0 hK now (bg)
        have oy := vi.gotN hK0 hK now (bg)
        obtain ⟨s6, dis6⟩ := j_step dis s5 fr5 m6 fr6 (fun i k => tx.lt k)
        have rw56 := rw5.get m6
        have al6 := al5.get m6
        have ms56 := ms5.get m6 (fun i k => tx.lt k)
        clear rw5 s5 t5 al5 ms5
        obtain ⟨⟨⟨X, Y⟩, v6, oc6⟩, eR⟩ : ∃ R, stRecv (v, cvP o) now (gOf (B16)) = R := ⟨_, rfl⟩
        rw [eR] at vi6 ox oy s6 t6 c5 c6 rw56 rw6 ms56 ms6 ⊢
        have vi6 : VI v6 oc6 (k + 1) := vi6
        have ox : OutOk X := ox
        have oy : Y.length ≤ 100000 := oy
        have s6 : DrA h6 di v6 o5 := s6
        have t6 : RDrA h6 ri v6 o6 := t6
        have c5 : cvP o5 = oc6 := c5
        have c6 : cvR o6 = oc6 := c6
        have rw56 : Rws h6 q5 X := rw56
        have rw6 : Rws h6 q6 X := rw6
        have ms56 : Msgs h6 _ g5 Y := ms56
        have ms6 : Msgs h6 _ g6 Y := ms6
        conv => whnf
        rw [dq_ne]
        conv => whnf
        refine ⟨fun env hk' => ∃ (j : Nat) (z2 : Int), j ≤ Y.length ∧ z2 = j ∧ Ab.Mod none_ h6 hk' ∧ env = [(24, i64 z2), (13, .sl q6 X.length), (12, .sl q5 X.length), (23, .sl g6 Y.length), (21, .sl g5 Y.length), (15, i64 0), (14, i64 0), (10, i64 k), (9, i64 now), (8, .ptr (some (ri, 0))), (6, .ptr (some (di, 0))), (1, .sl p1 L.length)],
          fun env _ => match get env 24 with
            | .int _ z => ((Y.length : Int) - z).toNat
            | _ => 0, ⟨_, Forget.cons rfl (Forget.cons rfl (Forget.cons rfl (Forget.cons rfl (Forget.cons rfl (Forget.cons rfl (Forget.cons rfl (Forget.cons rfl (Forget.cons rfl (Forget.cons rfl (Forget.cons rfl (Forget.cons rfl (Forget.nil _)))))))))))), 0, _, Nat.zero_le _, rfl, mod_refl _ _, rfl⟩, ?_⟩
        rintro _ hm ⟨j, z2, hj, rfl, mm, rfl⟩
        conv => whnf
        refine br_mk (fun hd2 => ?_) (fun hd2 => ?_)
        rotate_left
        · conv => whnf
          have s6 := s6.get mm (fun _ _ k => k)
          have t6 := t6.get mm (fun _ _ k => k)
          have rw56 := rw56.get mm
          have rw6 := rw6.get mm
          have al6 := al6.get mm
          refine (dWay s6.b (by have := vi6.len; omega)).mono ?_
          rintro _ h8 ⟨qw, rfl, ow, mw⟩
          have ew : wayOf v6 = v6.way := by
            unfold wayOf
            split
            · rfl
            · rename_i kk
              exact (vi6.has (by simpa using kk)).symm
          rw [ew] at ow ⊢
          have s8 := s6.get mw (fun _ _ k => k)
          have t8 := t6.get mw (fun _ _ k => k)
          have rw58 := rw56.get mw
          have rw68 := rw6.get mw
          have al8 := al6.get mw
          conv => whnf
          refine ⟨_, rfl, ?_⟩
          conv => whnf
          refine ⟨_, rfl, ?_⟩
          conv => whnf
          refine ⟨dL53, dB53, by kernel_rfl, ?_⟩
          conv => whnf
          refine (rows25 rw58 rw68 ox.1 (by have := ox.2; omega)).mono ?_
          rintro _ h9 ⟨eh, rfl⟩
          rw [eh]
          clear eh h9
          conv => whnf
          skip
          obtain ⟨chR, pwR, bR, wR⟩ := t8.b
          refine ⟨_, Cell.mk bR rfl, ?_⟩
          conv => whnf
          refine (dConn s8.b).mono ?_
          rintro _ h9 ⟨eh, rfl⟩
          rw [eh]
          clear eh h9
          conv => whnf
          refine ⟨⟨_, Cell.mk bR rfl, rfl⟩, ?_⟩
          conv => whnf
          rw [dq_ne]
          conv => whnf
          refine ⟨_, Cell.mk bR rfl, ?_⟩
          conv => whnf
          refine (dLive s8.b).mono ?_
          rintro _ h9 ⟨eh, rfl⟩
          rw [eh]
          clear eh h9
          conv => whnf
          refine ⟨⟨_, Cell.mk bR rfl, rfl⟩, ?_⟩
          conv => whnf
          rw [bq_ne]
          conv => whnf
          refine ⟨_, Cell.mk bR rfl, ?_⟩
          conv => whnf
          refine (dWhy s8.b).mono ?_
          rintro _ h9 ⟨eh, rfl⟩
          rw [eh]
          clear eh h9
          conv => whnf
          refine ⟨⟨_, Cell.mk bR rfl, rfl⟩, ?_⟩
          conv => whnf
          rw [dq_ne]
          conv => whnf
          refine ⟨_, Cell.mk bR rfl, ?_⟩
          conv => whnf
          refine (dAt s8.b).mono ?_
          rintro _ h9 ⟨eh, rfl⟩
          rw [eh]
          clear eh h9
          conv => whnf
          refine ⟨⟨_, Cell.mk bR rfl, rfl⟩, ?_⟩
          conv => whnf
          rw [dq_ne]
          conv => whnf
          refine ⟨_, Cell.mk bR rfl, ?_⟩
          conv => whnf
          rw [bq_ne]
          conv => whnf
          refine ⟨_, Cell.mk bR rfl, ?_⟩
          conv => whnf
          refine (ints47 (n := v6.way.length) ow.is wR.is (by have := vi6.len; omega)).mono ?_
          rintro _ h9 ⟨eh, rfl⟩
          rw [eh]
          clear eh h9
          rw [show (v6.way == v6.way) = true by simp]
          conv => whnf
          rw [succ_i64 hd (by omega)]
          refine ⟨_, Forget.cons rfl (Forget.cons rfl (Forget.cons rfl (Forget.cons rfl (Forget.cons rfl (Forget.nil _))))), ⟨k + 1, _, now, v6, o5, o6, hd, rfl, by omega, by omega, s8, t8, c6.trans c5.symm, dis6, by rw [c5]; exact vi6, al8, rfl⟩, ?_⟩
          show ((L.length : Int) - ((k + 1 : Nat) : Int)).toNat < ((L.length : Int) - (k : Int)).toNat
          omega
        have hd2 : j < Y.length := by simpa using hd2
        obtain ⟨i7, c7, i8, c8, m7, m8, p7, u7, ok7, p8, u8, ok8, sm⟩ := Msgs.two (ms56.get mm (fun _ k => k.elim)) (ms6.get mm (fun _ k => k.elim)) hd2
        conv => whnf
        refine ⟨[0, 1, 2, 3, 4, 5, 6, 7, 8, 9], [0, 0, 3, 7, 0, 0, 48, 112, 255, 511], by kernel_rfl, ?_⟩
        conv => whnf
        refine ⟨i7, c7, j, p7, rfl, hd2, ?_⟩
        conv => whnf
        refine ⟨_, u7, ?_⟩
        conv => whnf
        refine ⟨i8, c8, j, p8, rfl, hd2, ?_⟩
        conv => whnf
        refine ⟨_, u8, ?_⟩
        conv => whnf
        refine (sameMsg45 m7 m8 ok7 ok8).mono ?_
        rintro _ h9 ⟨rfl, m9⟩
        rw [sm]
        conv => whnf
        rw [succ_i64 hd2 (by omega)]
        refine ⟨_, Forget.cons rfl (Forget.cons rfl (Forget.cons rfl (Forget.cons rfl (Forget.cons rfl (Forget.cons rfl (Forget.cons rfl (Forget.cons rfl (Forget.cons rfl (Forget.cons rfl (Forget.cons rfl (Forget.cons rfl (Forget.nil _)))))))))))), ⟨j + 1, _, hd2, rfl, mod_none mm m9, rfl⟩, ?_⟩
        show ((Y.length : Int) - ((j + 1 : Nat) : Int)).toNat < ((Y.length : Int) - (j : Int)).toNat
        omega
  conv => whnf
  refine br_mk (fun hk7 => ?_) (fun hk7 => ?_)
  · conv => whnf
    rw [hk7]
    conv => whnf
    refine ⟨_, Cell.mk gx rfl, ?_⟩
    conv => whnf
    refine ⟨_, Cell.mk gx rfl, ?_⟩
    conv => whnf
    rw [hk6]
    conv => whnf
    refine (aRecv (now := now) sx vi hK (by omega) (by omega) (RoSl.is (ak.raw)) (ak.bts) ((by omega))).mono ?_
    rintro _ h5 ⟨q5, g5, o5, rfl, rw5, ms5, s5, c5, fr5, m5⟩
    have t5 := tx.get m5 (fun i k k2 => dis i k2 k)
    have al5 := al.get m5
    conv => whnf
    refine ⟨_, rfl, ?_⟩
    conv => whnf
    refine ⟨_, rfl, ?_⟩
    conv => whnf
    refine (raRecv (now := now) t5 vir hK (by omega) (by omega) (RoSl.is (RoSl.get (ak.raw) m5)) (ak.bts) ((by omega))).mono ?_
    rw [er]
    rintro _ h6 ⟨q6, g6, o6, rfl, rw6, ms6, t6, c6, fr6, m6⟩
    conv => whnf
    refine ⟨_, rfl, ?_⟩
    conv => whnf
    refine ⟨_, rfl, ?_⟩
    conv => whnf
    have vi6 := vi.recv hK0 hK now (ak.bts)
    have ox := vi.recvXX hK0 hK now (ak.bts)
    have oy := vi.gotN hK0 hK now (ak.bts)
    obtain ⟨s6, dis6⟩ := j_step dis s5 fr5 m6 fr6 (fun i k => tx.lt k)
    have rw56 := rw5.get m6
    have al6 := al5.get m6
    have ms56 := ms5.get m6 (fun i k => tx.lt k)
    clear rw5 s5 t5 al5 ms5
    obtain ⟨⟨⟨X, Y⟩, v6, oc6⟩, eR⟩ : ∃ R, stRecv (v, cvP o) now (gOf (a.raw)) = R := ⟨_, rfl⟩
    rw [eR] at vi6 ox oy s6 t6 c5 c6 rw56 rw6 ms56 ms6 ⊢
    have vi6 : VI v6 oc6 (k + 1) := vi6
    have ox : OutOk X := ox
    have oy : Y.length ≤ 100000 := oy
    have s6 : DrA h6 di v6 o5 := s6
    have t6 : RDrA h6 ri v6 o6 := t6
    have c5 : cvP o5 = oc6 := c5
    have c6 : cvR o6 = oc6 := c6
    have rw56 : Rws h6 q5 X := rw56
    have rw6 : Rws h6 q6 X := rw6
    have ms56 : Msgs h6 _ g5 Y := ms56
    have ms6 : Msgs h6 _ g6 Y := ms6
    conv => whnf
    rw [dq_ne]
    conv => whnf
    refine ⟨fun env hk' => ∃ (j : Nat) (z2 : Int), j ≤ Y.length ∧ z2 = j ∧ Ab.Mod none_ h6 hk' ∧ env = [(24, i64 z2), (13, .sl q6 X.length), (12, .sl q5 X.length), (23, .sl g6 Y.length), (21, .sl g5 Y.length), (15, i64 0), (14, i64 0), (10, i64 k), (9, i64 now), (8, .ptr (some (ri, 0))), (6, .ptr (some (di, 0))), (1, .sl p1 L.length)],
      fun env _ => match get env 24 with
        | .int _ z => ((Y.length : Int) - z).toNat
        | _ => 0, ⟨_, Forget.cons rfl (Forget.cons rfl (Forget.cons rfl (Forget.cons rfl (Forget.cons rfl (Forget.cons rfl (Forget.cons rfl (Forget.cons rfl (Forget.cons rfl (Forget.cons rfl (Forget.cons rfl (Forget.cons rfl (Forget.nil _)))))))))))), 0, _, Nat.zero_le _, rfl, mod_refl _ _, rfl⟩, ?_⟩
    rintro _ hm ⟨j, z2, hj, rfl, mm, rfl⟩
    conv => whnf
    refine br_mk (fun hd2 => ?_) (fun hd2 => ?_)
    rotate_left
    · conv => whnf
      have s6 := s6.get mm (fun _ _ k => k)
      have t6 := t6.get mm (fun _ _ k => k)
      have rw56 := rw56.get mm
      have rw6 := rw6.get mm
      have al6 := al6.get mm
      refine (dWay s6.b (by have := vi6.len; omega)).mono ?_
      rintro _ h8 ⟨qw, rfl, ow, mw⟩
      have ew : wayOf v6 = v6.way := by
        unfold wayOf
        split
        · rfl
        · rename_i kk
          exact (vi6.has (by simpa using kk)).symm
      rw [ew] at ow ⊢
      have s8 := s6.get mw (fun _ _ k => k)
      have t8 := t6.get mw (fun _ _ k => k)
      have rw58 := rw56.get mw
      have rw68 := rw6.get mw
      have al8 := al6.get mw
      conv => whnf
      refine ⟨_, rfl, ?_⟩
      conv => whnf
      refine ⟨_, rfl, ?_⟩
      conv => whnf
      refine ⟨dL53, dB53, by kernel_rfl, ?_⟩
      conv => whnf
      refine (rows25 rw58 rw68 ox.1 (by have := ox.2; omega)).mono ?_
      rintro _ h9 ⟨eh, rfl⟩
      rw [eh]
      clear eh h9
      conv => whnf
      skip
      obtain ⟨chR, pwR, bR, wR⟩ := t8.b
      refine ⟨_, Cell.mk bR rfl, ?_⟩
      conv => whnf
      refine (dConn s8.b).mono ?_
      rintro _ h9 ⟨eh, rfl⟩
      rw [eh]
      clear eh h9
      conv => whnf
      refine ⟨⟨_, Cell.mk bR rfl, rfl⟩, ?_⟩
      conv => whnf
      rw [dq_ne]
      conv => whnf
      refine ⟨_, Cell.mk bR rfl, ?_⟩
      conv => whnf
      refine (dLive s8.b).mono ?_
      rintro _ h9 ⟨eh, rfl⟩
      rw [eh]
      clear eh h9
      conv => whnf
      refine ⟨⟨_, Cell.mk bR rfl, rfl⟩, ?_⟩
      conv => whnf
      rw [bq_ne]
      conv => whnf
      refine ⟨_, Cell.mk bR rfl, ?_⟩
      conv => whnf
      refine (dWhy s8.b).mono ?_
      rintro _ h9 ⟨eh, rfl⟩
      rw [eh]
      clear eh h9
      conv => whnf
      refine ⟨⟨_, Cell.mk bR rfl, rfl⟩, ?_⟩
      conv => whnf
      rw [dq_ne]
      conv => whnf
      refine ⟨_, Cell.mk bR rfl, ?_⟩
      conv => whnf
      refine (dAt s8.b).mono ?_
      rintro _ h9 ⟨eh, rfl⟩
      rw [eh]
      clear eh h9
      conv => whnf
      refine ⟨⟨_, Cell.mk bR rfl, rfl⟩, ?_⟩
      conv => whnf
      rw [dq_ne]
      conv => whnf
      refine ⟨_, Cell.mk bR rfl, ?_⟩
      conv => whnf
      rw [bq_ne]
      conv => whnf
      refine ⟨_, Cell.mk bR rfl, ?_⟩
      conv => whnf
      refine (ints47 (n := v6.way.length) ow.is wR.is (by have := vi6.len; omega)).mono ?_
      rintro _ h9 ⟨eh, rfl⟩
      rw [eh]
      clear eh h9
      rw [show (v6.way == v6.way) = true by simp]
      conv => whnf
      rw [succ_i64 hd (by omega)]
      refine ⟨_, Forget.cons rfl (Forget.cons rfl (Forget.cons rfl (Forget.cons rfl (Forget.cons rfl (Forget.nil _))))), ⟨k + 1, _, now, v6, o5, o6, hd, rfl, by omega, by omega, s8, t8, c6.trans c5.symm, dis6, by rw [c5]; exact vi6, al8, rfl⟩, ?_⟩
      show ((L.length : Int) - ((k + 1 : Nat) : Int)).toNat < ((L.length : Int) - (k : Int)).toNat
      omega
    have hd2 : j < Y.length := by simpa using hd2
    obtain ⟨i7, c7, i8, c8, m7, m8, p7, u7, ok7, p8, u8, ok8, sm⟩ := Msgs.two (ms56.get mm (fun _ k => k.elim)) (ms6.get mm (fun _ k => k.elim)) hd2
    conv => whnf
    refine ⟨[0, 1, 2, 3, 4, 5, 6, 7, 8, 9], [0, 0, 3, 7, 0, 0, 48, 112, 255, 511], by kernel_rfl, ?_⟩
    conv => whnf
    refine ⟨i7, c7, j, p7, rfl, hd2, ?_⟩
    conv => whnf
    refine ⟨_, u7, ?_⟩
    conv => whnf
    refine ⟨i8, c8, j, p8, rfl, hd2, ?_⟩
    conv => whnf
    refine ⟨_, u8, ?_⟩
    conv => whnf
    refine (sameMsg45 m7 m8 ok7 ok8).mono ?_
    rintro _ h9 ⟨rfl, m9⟩
    rw [sm]
    conv => whnf
    rw [succ_i64 hd2 (by omega)]
    refine ⟨_, Forget.cons rfl (Forget.cons rfl (Forget.cons rfl (Forget.cons rfl (Forget.cons rfl (Forget.cons rfl (Forget.cons rfl (Forget.cons rfl (Forget.cons rfl (Forget.cons rfl (Forget.cons rfl (Forget.cons rfl (Forget.nil _)))))))))))), ⟨j + 1, _, hd2, rfl, mod_none mm m9, rfl⟩, ?_⟩
    show ((Y.length : Int) - ((j + 1 : Nat) : Int)).toNat < ((Y.length : Int) - (j : Int)).toNat
    omega
  · conv => whnf
    rw [hk7]
    conv => whnf
    have vi6 := vi.mono (show (k : Int) ≤ k + 1 by omega)
    have ox := out_nil
    have s6 := sx
    have t6 := tx
    have c5 : cvP o = cvP o := rfl
    have c6 := er
    have dis6 := dis
    have al6 := al
    have rw56 := rws_nil ((hh.push (.row true 14 [i64 0, i64 0, i64 0, i64 0, i64 0, i64 0, i64 0, .sl none 0, i64 0, i64 0, i64 0, i64 0, i64 0, .sl none 0])).set hh.next (.row true 14 a.cells))
    have rw6 := rw56
    obtain ⟨v6, rfl⟩ : ∃ v6, v6 = v := ⟨_, rfl⟩
    obtain ⟨o5, rfl⟩ : ∃ o5, o5 = o := ⟨_, rfl⟩
    obtain ⟨o6, rfl⟩ : ∃ o6, o6 = ro := ⟨_, rfl⟩
    refine (dWay s6.b (by have := vi6.len; omega)).mono ?_
    rintro _ h8 ⟨qw, rfl, ow, mw⟩
    have ew : wayOf v6 = v6.way := by
      unfold wayOf
      split
      · rfl
      · rename_i kk
        exact (vi6.has (by simpa using kk)).symm
    rw [ew] at ow ⊢
    have s8 := s6.get mw (fun _ _ k => k)
    have t8 := t6.get mw (fun _ _ k => k)
    have rw58 := rw56.get mw
    have rw68 := rw6.get mw
    have al8 := al6.get mw
    conv => whnf
    refine ⟨_, rfl, ?_⟩
    conv => whnf
    refine ⟨_, rfl, ?_⟩
    conv => whnf
    refine ⟨dL53, dB53, by kernel_rfl, ?_⟩
    conv => whnf
    refine (rows25 rw58 rw68 ox.1 (by have := ox.2; omega)).mono ?_
    rintro _ h9 ⟨eh, rfl⟩
    rw [eh]
    clear eh h9
    conv => whnf
    skip
    obtain ⟨chR, pwR, bR, wR⟩ := t8.b
    refine ⟨_, Cell.mk bR rfl, ?_⟩
    conv => whnf
    refine (dConn s8.b).mono ?_
    rintro _ h9 ⟨eh, rfl⟩
    rw [eh]
    clear eh h9
    conv => whnf
    refine ⟨⟨_, Cell.mk bR rfl, rfl⟩, ?_⟩
    conv => whnf
    rw [dq_ne]
    conv => whnf
    refine ⟨_, Cell.mk bR rfl, ?_⟩
    conv => whnf
    refine (dLive s8.b).mono ?_
    rintro _ h9 ⟨eh, rfl⟩
    rw [eh]
    clear eh h9
    conv => whnf
    refine ⟨⟨_, Cell.mk bR rfl, rfl⟩, ?_⟩
    conv => whnf
    rw [bq_ne]
    conv => whnf
    refine ⟨_, Cell.mk bR rfl, ?_⟩
    conv => whnf
    refine (dWhy s8.b).mono ?_
    rintro _ h9 ⟨eh, rfl⟩
    rw [eh]
    clear eh h9
    conv => whnf
    refine ⟨⟨_, Cell.mk bR rfl, rfl⟩, ?_⟩
    conv => whnf
    rw [dq_ne]
    conv => whnf
    refine ⟨_, Cell.mk bR rfl, ?_⟩
    conv => whnf
    refine (dAt s8.b).mono ?_
    rintro _ h9 ⟨eh, rfl⟩
    rw [eh]
    clear eh h9
    conv => whnf
    refine ⟨⟨_, Cell.mk bR rfl, rfl⟩, ?_⟩
    conv => whnf
    rw [dq_ne]
    conv => whnf
    refine ⟨_, Cell.mk bR rfl, ?_⟩
    conv => whnf
    rw [bq_ne]
    conv => whnf
    refine ⟨_, Cell.mk bR rfl, ?_⟩
    conv => whnf
    refine (ints47 (n := v6.way.length) ow.is wR.is (by have := vi6.len; omega)).mono ?_
    rintro _ h9 ⟨eh, rfl⟩
    rw [eh]
    clear eh h9
    rw [show (v6.way == v6.way) = true by simp]
    conv => whnf
    rw [succ_i64 hd (by omega)]
    refine ⟨_, Forget.cons rfl (Forget.cons rfl (Forget.cons rfl (Forget.cons rfl (Forget.cons rfl (Forget.nil _))))), ⟨k + 1, _, now, v6, o5, o6, hd, rfl, by omega, by omega, s8, t8, c6.trans c5.symm, dis6, by rw [c5]; exact vi6, al8, rfl⟩, ?_⟩
    show ((L.length : Int) - ((k + 1 : Nat) : Int)).toNat < ((L.length : Int) - (k : Int)).toNat
    omega
end Go.Proofs.YtmififfaljihgaaGreat
