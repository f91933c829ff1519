/- The law GramFields. -/
import Derived.Test.YtnpfdppmpmnhbaaS48
set_option linter.unusedVariables false
namespace Go.Proofs.Ytnpfdppmpmnhbaa
open Go Go.Ab
theorem gtail_0 {m : Grm} (h : m.k ≠ 1 ∧ m.k ≠ 2 ∧ m.k ≠ 3) : gtail m = [] := by rw [gtail, if_neg h.1, if_neg h.2.1, if_neg h.2.2]
set_option maxHeartbeats 2000000 in
theorem gfields16 {h : H} (m o : Grm) (sm : SlIs h m.bp m.bd.length false 1 (ints .u8 m.bd)) (bm : Bts m.bd) (so : SlIs h o.bp o.bd.length false 1 (ints .u8 o.bd)) (bo : Bts o.bd) :
    ACalls Try.prog 16 [.agg m.cells, .agg o.cells] h (fun r _ => r = .bool true) := by
  refine call_ Try.func16 rfl rfl (by kernel_rfl) ?_
  conv => whnf
  have m1 := Mod.push none_ h (.row true 6 m.cells)
  have m2 := Mod.push none_ (h.push (.row true 6 m.cells)) (.row true 6 o.cells)
  have g1 : ((h.push (.row true 6 m.cells)).push (.row true 6 o.cells)).obj h.next = some (.row true 6 m.cells) := m2.get (H.obj_push_new _ _) (.inl (fun k => k))
  have g2 : ((h.push (.row true 6 m.cells)).push (.row true 6 o.cells)).obj (h.next + 1) = some (.row true 6 o.cells) := H.obj_push_new (h.push (.row true 6 m.cells)) _
  have mm := mod_none m1 m2
  clear m1 m2
  refine ⟨_, Cell.mk g1 rfl, ?_⟩
  conv => whnf
  refine br_mk (fun ha => ?_) (fun ha => ?_)
  · conv => whnf
    refine (awake48 _).mono ?_
    rintro _ h' ⟨rfl, _⟩
    conv => whnf
  conv => whnf
  refine ⟨_, Cell.mk g2 rfl, ?_⟩
  conv => whnf
  refine br_mk (fun hb => ?_) (fun hb => ?_)
  · conv => whnf
    refine (awake48 _).mono ?_
    rintro _ h' ⟨rfl, _⟩
    conv => whnf
  conv => whnf
  simp at ha hb
  have km : m.ok ((h.push (.row true 6 m.cells)).push (.row true 6 o.cells)) := ⟨SlIs.old sm mm (fun _ _ k => k), bm, by omega⟩
  have ko : o.ok ((h.push (.row true 6 m.cells)).push (.row true 6 o.cells)) := ⟨SlIs.old so mm (fun _ _ k => k), bo, by omega⟩
  refine ⟨m.cells, Cells.mk g1 (Nat.le_of_ble_eq_true rfl) rfl, ?_⟩
  conv => whnf
  refine (genc49 m km).mono ?_
  rintro _ h3 ⟨q4, rfl, o4, m3⟩
  conv => whnf
  refine ⟨_, rfl, ?_⟩
  conv => whnf
  refine ⟨_, rfl, ?_⟩
  conv => whnf
  have km := km.old m3 (fun _ _ k => k)
  have ko := ko.old m3 (fun _ _ k => k)
  have g1 := m3.get g1 (.inl (fun k => k))
  have g2 := m3.get g2 (.inl (fun k => k))
  refine ⟨o.cells, Cells.mk g2 (Nat.le_of_ble_eq_true rfl) rfl, ?_⟩
  conv => whnf
  have mp := Mod.push none_ h3 (.row true 6 grm0.cells)
  have gx : (h3.push (.row true 6 grm0.cells)).obj h3.next = some (.row true 6 grm0.cells) := H.obj_push_new _ _
  have h1x : ¬ one h3.next h.next := Nat.ne_of_lt (h3.lt _ _ g1)
  have hbm : ∀ i c, m.bp = some (i, c) → ¬ one h3.next i ∨ m.bd.length = 0 := fun i c e => (km.lt i c e).imp Nat.ne_of_lt id
  have hbo : ∀ i c, o.bp = some (i, c) → ¬ one h3.next i ∨ o.bd.length = 0 := fun i c e => (ko.lt i c e).imp Nat.ne_of_lt id
  have km := km.old mp (fun _ _ k => k)
  have ko := ko.old mp (fun _ _ k => k)
  have g1 := mp.get g1 (.inl (fun k => k))
  have o4 := o4.get mp
  clear mp m3 mm g2
  generalize h3.next = bx at *
  refine ⟨_, _, gx, Nat.le_of_ble_eq_true rfl, ?_⟩
  have ms := Mod.set (S := one bx) (ob := .row true 6 [i64 o.cn, i64 o.k, i64 o.sq, i64 o.ak, i64 o.cd, .sl o.bp o.bd.length]) rfl gx rfl
  have g1 := ms.get g1 (.inl h1x)
  have gx := H.obj_set_same (ob' := .row true 6 [i64 o.cn, i64 o.k, i64 o.sq, i64 o.ak, i64 o.cd, .sl o.bp o.bd.length]) gx
  have o4 := o4.get ms
  have km := Grm.ok.by km ms hbm
  have ko := Grm.ok.by ko ms hbo
  clear ms
  conv => whnf
  refine ⟨[0, 1, 2, 3, 4, 5, 6, 7], [0, 1, 0, 4, 3, 19, 63, 127], by kernel_rfl, ?_⟩
  conv => whnf
  refine ⟨_, Cell.mk g1 rfl, ?_⟩
  conv => whnf
  refine ⟨_, Cell.mk g1 rfl, ?_⟩
  conv => whnf
  refine ⟨_, _, gx, Nat.le_of_ble_eq_true rfl, ?_⟩
  have ms := Mod.set (S := one bx) (ob := .row true 6 [i64 o.cn, i64 m.k, i64 o.sq, i64 o.ak, i64 o.cd, .sl o.bp o.bd.length]) rfl gx rfl
  have g1 := ms.get g1 (.inl h1x)
  have gx := H.obj_set_same (ob' := .row true 6 [i64 o.cn, i64 m.k, i64 o.sq, i64 o.ak, i64 o.cd, .sl o.bp o.bd.length]) gx
  have o4 := o4.get ms
  have km := Grm.ok.by km ms hbm
  have ko := Grm.ok.by ko ms hbo
  clear ms
  conv => whnf
  refine ⟨?_, ?_⟩
  · conv => whnf
    exact ⟨_, Cell.mk g1 rfl, rfl⟩
  conv => whnf
  refine ⟨_, _, gx, Nat.le_of_ble_eq_true rfl, ?_⟩
  have ms := Mod.set (S := one bx) (ob := .row true 6 [i64 m.cn, i64 m.k, i64 o.sq, i64 o.ak, i64 o.cd, .sl o.bp o.bd.length]) rfl gx rfl
  have g1 := ms.get g1 (.inl h1x)
  have gx := H.obj_set_same (ob' := .row true 6 [i64 m.cn, i64 m.k, i64 o.sq, i64 o.ak, i64 o.cd, .sl o.bp o.bd.length]) gx
  have o4 := o4.get ms
  have km := Grm.ok.by km ms hbm
  have ko := Grm.ok.by ko ms hbo
  clear ms
  conv => whnf
  refine ⟨_, Cell.mk g1 rfl, ?_⟩
  conv => whnf
  refine br_mk (fun h1 => ?_) (fun h1 => ?_)
  conv => whnf
  simp at h1
  refine ⟨[0, 1, 2, 3, 4, 5, 6, 7, 8, 9, 10, 11], [0, 1, 0, 4, 0, 16, 3, 67, 207, 463, 1023, 2047], by kernel_rfl, ?_⟩
  conv => whnf
  refine ⟨_, Cell.mk g1 rfl, ?_⟩
  conv => whnf
  refine ⟨_, Cell.mk g1 rfl, ?_⟩
  conv => whnf
  refine ⟨_, Cell.mk g1 rfl, ?_⟩
  conv => whnf
  refine ⟨_, _, gx, Nat.le_of_ble_eq_true rfl, ?_⟩
  have ms := Mod.set (S := one bx) (ob := .row true 6 [i64 m.cn, i64 m.k, i64 m.sq, i64 o.ak, i64 o.cd, .sl o.bp o.bd.length]) rfl gx rfl
  have g1 := ms.get g1 (.inl h1x)
  have gx := H.obj_set_same (ob' := .row true 6 [i64 m.cn, i64 m.k, i64 m.sq, i64 o.ak, i64 o.cd, .sl o.bp o.bd.length]) gx
  have o4 := o4.get ms
  have km := Grm.ok.by km ms hbm
  have ko := Grm.ok.by ko ms hbo
  clear ms
  conv => whnf
  refine ⟨?_, ?_⟩
  · conv => whnf
    exact ⟨_, Cell.mk g1 rfl, rfl⟩
  refine ⟨?_, ?_⟩
  · conv => whnf
    exact ⟨_, Cell.mk g1 rfl, rfl⟩
  conv => whnf
  refine ⟨_, _, gx, Nat.le_of_ble_eq_true rfl, ?_⟩
  have ms := Mod.set (S := one bx) (ob := .row true 6 [i64 m.cn, i64 m.k, i64 m.sq, i64 m.ak, i64 o.cd, .sl o.bp o.bd.length]) rfl gx rfl
  have g1 := ms.get g1 (.inl h1x)
  have gx := H.obj_set_same (ob' := .row true 6 [i64 m.cn, i64 m.k, i64 m.sq, i64 m.ak, i64 o.cd, .sl o.bp o.bd.length]) gx
  have o4 := o4.get ms
  have km := Grm.ok.by km ms hbm
  have ko := Grm.ok.by ko ms hbo
  clear ms
  conv => whnf
  refine ⟨?_, ?_⟩
  · conv => whnf
    exact ⟨_, Cell.mk g1 rfl, rfl⟩
  conv => whnf
  refine ⟨_, _, gx, Nat.le_of_ble_eq_true rfl, ?_⟩
  have ms := Mod.set (S := one bx) (ob := .row true 6 [i64 m.cn, i64 m.k, i64 m.sq, i64 m.ak, i64 o.cd, .sl m.bp m.bd.length]) rfl gx rfl
  have g1 := ms.get g1 (.inl h1x)
  have gx := H.obj_set_same (ob' := .row true 6 [i64 m.cn, i64 m.k, i64 m.sq, i64 m.ak, i64 o.cd, .sl m.bp m.bd.length]) gx
  have o4 := o4.get ms
  have km := Grm.ok.by km ms hbm
  have ko := Grm.ok.by ko ms hbo
  clear ms
  conv => whnf
  obtain ⟨x, hx⟩ : ∃ x : Grm, (⟨m.cn, m.k, m.sq, m.ak, o.cd, m.bp, m.bd⟩ : Grm) = x := ⟨_, rfl⟩
  have kx := okg_mk gx hx ⟨km.1, km.2⟩
  have gx := gx.trans (congrArg (fun x : Grm => some (Ab.Obj.row true 6 x.cells)) hx)
  have ht : gparts x = gparts m := by
    rw [← hx]
    exact congrArg (List.cons (4, m.cn)) ((gtail_1 (m := (⟨m.cn, m.k, m.sq, m.ak, o.cd, m.bp, m.bd⟩ : Grm)) h1).trans (gtail_1 h1).symm)
  have hgb : gbody x = gbody m := by
    rw [← hx]
    exact (gbody_1 (m := (⟨m.cn, m.k, m.sq, m.ak, o.cd, m.bp, m.bd⟩ : Grm)) h1).trans (gbody_1 h1).symm
  have hkk : x.k = m.k := by
    rw [← hx]
  clear hx
  rotate_left
  conv => whnf
  refine br_mk (fun h2 => ?_) (fun h2 => ?_)
  conv => whnf
  simp at h2
  refine ⟨_, Cell.mk g1 rfl, ?_⟩
  conv => whnf
  refine ⟨_, _, gx, Nat.le_of_ble_eq_true rfl, ?_⟩
  have ms := Mod.set (S := one bx) (ob := .row true 6 [i64 m.cn, i64 m.k, i64 o.sq, i64 m.ak, i64 o.cd, .sl o.bp o.bd.length]) rfl gx rfl
  have g1 := ms.get g1 (.inl h1x)
  have gx := H.obj_set_same (ob' := .row true 6 [i64 m.cn, i64 m.k, i64 o.sq, i64 m.ak, i64 o.cd, .sl o.bp o.bd.length]) gx
  have o4 := o4.get ms
  have km := Grm.ok.by km ms hbm
  have ko := Grm.ok.by ko ms hbo
  clear ms
  conv => whnf
  obtain ⟨x, hx⟩ : ∃ x : Grm, (⟨m.cn, m.k, o.sq, m.ak, o.cd, o.bp, o.bd⟩ : Grm) = x := ⟨_, rfl⟩
  have kx := okg_mk gx hx ⟨ko.1, ko.2⟩
  have gx := gx.trans (congrArg (fun x : Grm => some (Ab.Obj.row true 6 x.cells)) hx)
  have ht : gparts x = gparts m := by
    rw [← hx]
    exact congrArg (List.cons (4, m.cn)) ((gtail_2 (m := (⟨m.cn, m.k, o.sq, m.ak, o.cd, o.bp, o.bd⟩ : Grm)) h2).trans (gtail_2 h2).symm)
  have hgb : gbody x = gbody m := by
    rw [← hx]
    exact (gbody_n (m := (⟨m.cn, m.k, o.sq, m.ak, o.cd, o.bp, o.bd⟩ : Grm)) (show m.k ≠ 1 by omega)).trans (gbody_n (show m.k ≠ 1 by omega)).symm
  have hkk : x.k = m.k := by
    rw [← hx]
  clear hx
  rotate_left
  conv => whnf
  refine br_mk (fun h3 => ?_) (fun h3 => ?_)
  conv => whnf
  simp at h3
  refine ⟨_, Cell.mk g1 rfl, ?_⟩
  conv => whnf
  refine ⟨_, _, gx, Nat.le_of_ble_eq_true rfl, ?_⟩
  have ms := Mod.set (S := one bx) (ob := .row true 6 [i64 m.cn, i64 m.k, i64 o.sq, i64 o.ak, i64 m.cd, .sl o.bp o.bd.length]) rfl gx rfl
  have g1 := ms.get g1 (.inl h1x)
  have gx := H.obj_set_same (ob' := .row true 6 [i64 m.cn, i64 m.k, i64 o.sq, i64 o.ak, i64 m.cd, .sl o.bp o.bd.length]) gx
  have o4 := o4.get ms
  have km := Grm.ok.by km ms hbm
  have ko := Grm.ok.by ko ms hbo
  clear ms
  conv => whnf
  obtain ⟨x, hx⟩ : ∃ x : Grm, (⟨m.cn, m.k, o.sq, o.ak, m.cd, o.bp, o.bd⟩ : Grm) = x := ⟨_, rfl⟩
  have kx := okg_mk gx hx ⟨ko.1, ko.2⟩
  have gx := gx.trans (congrArg (fun x : Grm => some (Ab.Obj.row true 6 x.cells)) hx)
  have ht : gparts x = gparts m := by
    rw [← hx]
    exact congrArg (List.cons (4, m.cn)) ((gtail_3 (m := (⟨m.cn, m.k, o.sq, o.ak, m.cd, o.bp, o.bd⟩ : Grm)) h3).trans (gtail_3 h3).symm)
  have hgb : gbody x = gbody m := by
    rw [← hx]
    exact (gbody_n (m := (⟨m.cn, m.k, o.sq, o.ak, m.cd, o.bp, o.bd⟩ : Grm)) (show m.k ≠ 1 by omega)).trans (gbody_n (show m.k ≠ 1 by omega)).symm
  have hkk : x.k = m.k := by
    rw [← hx]
  clear hx
  rotate_left
  conv => whnf
  simp at h1 h2 h3
  obtain ⟨x, hx⟩ : ∃ x : Grm, (⟨m.cn, m.k, o.sq, o.ak, o.cd, o.bp, o.bd⟩ : Grm) = x := ⟨_, rfl⟩
  have kx := okg_mk gx hx ⟨ko.1, ko.2⟩
  have gx := gx.trans (congrArg (fun x : Grm => some (Ab.Obj.row true 6 x.cells)) hx)
  have ht : gparts x = gparts m := by
    rw [← hx]
    exact congrArg (List.cons (4, m.cn)) ((gtail_0 (m := (⟨m.cn, m.k, o.sq, o.ak, o.cd, o.bp, o.bd⟩ : Grm)) ⟨h1, h2, h3⟩).trans (gtail_0 ⟨h1, h2, h3⟩).symm)
  have hgb : gbody x = gbody m := by
    rw [← hx]
    exact (gbody_n (m := (⟨m.cn, m.k, o.sq, o.ak, o.cd, o.bp, o.bd⟩ : Grm)) (show m.k ≠ 1 by omega)).trans (gbody_n (show m.k ≠ 1 by omega)).symm
  have hkk : x.k = m.k := by
    rw [← hx]
  clear hx
  rotate_left
  all_goals
    have hP : gpay x = gpay m := by rw [gpay, gpay, ht, hgb]
    have hE : gOk x = gOk m := by rw [gOk, gOk, ht, hP, gknd, gknd, hkk]
    have hB : encG x = encG m := by rw [encG, encG, hE, hP, hkk]
    refine ⟨x.cells, Cells.mk gx (Nat.le_of_ble_eq_true rfl) rfl, ?_⟩
    conv => whnf
    refine (genc49 x kx).mono ?_
    rintro _ h6 ⟨q6, rfl, o6, m6⟩
    rw [hB] at o6 ⊢
    rw [hE]
    conv => whnf
    refine ⟨_, rfl, ?_⟩
    conv => whnf
    refine ⟨_, rfl, ?_⟩
    conv => whnf
    have o4 := o4.get m6
    have km := km.old m6 (fun _ _ k => k)
    have g1 := m6.get g1 (.inl (fun k => k))
    have bE := encG_bts (m := m) km.2.1
    refine br_mk (fun hh => absurd hh (by simp)) (fun _ => ?_)
    conv => whnf
    refine ⟨_, o4.is, bE, ?_⟩
    conv => whnf
    refine ⟨_, o6.is, bE, ?_⟩
    conv => whnf
    refine br_mk (fun hh => absurd hh (by simp)) (fun _ => ?_)
    conv => whnf
    cases hM : gOk m with
    | false =>
      conv => whnf
      refine (awake48 _).mono ?_
      rintro _ h' ⟨rfl, _⟩
      conv => whnf
    | true =>
      have ec := canonG_enc hM
      have uF := un_encG hM
      have lB := encG_len m
      have hl : (encG m).length = (gpay m).length + 9 := by rw [encG, hM, if_pos rfl, frm_length]
      have hk3 : 1 ≤ m.k ∧ m.k ≤ 3 := by
        simp only [gOk, Bool.and_eq_true] at hM
        simpa [gknd] using hM.1.1
      conv => whnf
      refine (gdec51 o6.is bE (by omega)).mono ?_
      rintro _ h7 ⟨y, ey', rfl, ky, m7, dy⟩
      obtain ⟨rfl, ey, _⟩ := dy.yes uF ec
      conv => whnf
      refine ⟨_, rfl, ?_⟩
      conv => whnf
      refine ⟨_, rfl, ?_⟩
      conv => whnf
      obtain ⟨g0, gy, m8⟩ := layG (h := h7) y
      refine ⟨_, _, g0, Nat.le_of_ble_eq_true rfl, ?_⟩
      conv => whnf
      have m78 := mod_none m7 m8
      have km := km.old m78 (fun _ _ k => k)
      have g1 := m78.get g1 (.inl (fun k => k))
      have ky := ky.old m8 (fun _ _ k => k)
      by_cases k1 : m.k = 1
      · have e1 : y.bd = m.bd := by rw [ey]; simp [canonG, k1]
        have e2 : y.sq = m.sq := by rw [ey]; simp [canonG, k1]
        have e3 : y.ak = m.ak := by rw [ey]; simp [canonG, k1]
        have hlen : (encG m).length = 21 + m.bd.length := by
          rw [hl, gpay, List.length_append, gbody_1 k1, bytesP_length, gparts, gtail_1 k1]
          show 4 + (4 + (4 + 0)) + m.bd.length + 9 = _
          omega
        simp only [Grm.cells, k1] at g1
        refine ⟨_, Cell.mk g1 rfl, ?_⟩
        conv => whnf
        refine ⟨_, Cell.mk gy rfl, ?_⟩
        conv => whnf
        refine ⟨_, ky.1, ky.2.1, ?_⟩
        conv => whnf
        refine ⟨_, Cell.mk g1 rfl, ?_⟩
        conv => whnf
        refine ⟨_, km.1, km.2.1, ?_⟩
        conv => whnf
        refine br_mk (fun _ => ?_) (fun hh => absurd hh (by simp [e1]))
        conv => whnf
        refine ⟨_, Cell.mk gy rfl, ?_⟩
        conv => whnf
        refine ⟨_, Cell.mk g1 rfl, ?_⟩
        conv => whnf
        refine br_mk (fun _ => ?_) (fun hh => absurd hh (by simp [e2]))
        conv => whnf
        refine ⟨_, Cell.mk gy rfl, ?_⟩
        conv => whnf
        refine ⟨_, Cell.mk g1 rfl, ?_⟩
        conv => whnf
        refine br_mk (fun _ => ?_) (fun hh => absurd hh (by simp [e3]))
        conv => whnf
        refine ⟨_, Cell.mk g1 rfl, ?_⟩
        conv => whnf
        have hw : IntKind.i64.wrap (21 + (m.bd.length : Int)) = ((encG m).length : Int) := by
          rw [wrap_i64 (by omega) (by omega), hlen]
          omega
        rw [hw]
        refine br_mk (fun _ => ?_) (fun hh => absurd hh (by simp))
        conv => whnf
        refine ⟨_, Cell.mk g1 rfl, ?_⟩
        conv => whnf
        refine ⟨_, Cell.mk g1 rfl, ?_⟩
        conv => whnf
        refine (awake48 _).mono ?_
        rintro _ h' ⟨rfl, _⟩
        conv => whnf
      by_cases k2 : m.k = 2
      · have e1 : y.ak = m.ak := by rw [ey]; simp [canonG, k2]
        have hlen : (encG m).length = 17 := by
          rw [hl, gpay, List.length_append, gbody_n k1, bytesP_length, gparts, gtail_2 k2]
          rfl
        simp only [Grm.cells, k2] at g1
        refine ⟨_, Cell.mk g1 rfl, ?_⟩
        conv => whnf
        refine ⟨_, Cell.mk g1 rfl, ?_⟩
        conv => whnf
        refine ⟨_, Cell.mk gy rfl, ?_⟩
        conv => whnf
        refine ⟨_, Cell.mk g1 rfl, ?_⟩
        conv => whnf
        refine br_mk (fun _ => ?_) (fun hh => absurd hh (by simp [e1]))
        conv => whnf
        refine br_mk (fun _ => ?_) (fun hh => absurd hh (by simp [hlen]))
        conv => whnf
        refine ⟨_, Cell.mk g1 rfl, ?_⟩
        conv => whnf
        refine (awake48 _).mono ?_
        rintro _ h' ⟨rfl, _⟩
        conv => whnf
      have k3 : m.k = 3 := by omega
      have e1 : y.cd = m.cd := by rw [ey]; simp [canonG, k3]
      have hlen : (encG m).length = 14 := by
        rw [hl, gpay, List.length_append, gbody_n k1, bytesP_length, gparts, gtail_3 k3]
        rfl
      simp only [Grm.cells, k3] at g1
      refine ⟨_, Cell.mk g1 rfl, ?_⟩
      conv => whnf
      refine ⟨_, Cell.mk g1 rfl, ?_⟩
      conv => whnf
      refine ⟨_, Cell.mk g1 rfl, ?_⟩
      conv => whnf
      refine ⟨_, Cell.mk gy rfl, ?_⟩
      conv => whnf
      refine ⟨_, Cell.mk g1 rfl, ?_⟩
      conv => whnf
      refine br_mk (fun _ => ?_) (fun hh => absurd hh (by simp [e1]))
      conv => whnf
      refine br_mk (fun _ => ?_) (fun hh => absurd hh (by simp [hlen]))
      conv => whnf
      refine (awake48 _).mono ?_
      rintro _ h' ⟨rfl, _⟩
      conv => whnf
end Go.Proofs.Ytnpfdppmpmnhbaa
