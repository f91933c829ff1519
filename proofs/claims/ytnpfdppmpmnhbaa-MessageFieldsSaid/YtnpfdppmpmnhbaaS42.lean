/- The law MessageFields. -/
import Derived.Test.YtnpfdppmpmnhbaaS41
set_option linter.unusedVariables false
namespace Go.Proofs.Ytnpfdppmpmnhbaa
open Go Go.Ab
/-- carried on, by where its row lies -/
theorem Msg.ok.by {S : Nat → Prop} {h h' : H} {m : Msg} (o : m.ok h) (k : Ab.Mod S h h') (hS : ∀ i o, m.ep = some (i, o) → ¬ S i ∨ m.es.length = 0) : m.ok h' := by
  refine ⟨?_, o.2⟩
  obtain ⟨⟨l, r⟩, _⟩ := o
  refine ⟨l, ?_⟩
  rcases r with r | ⟨i, c, b, cs, e1, e2, e3⟩
  · exact .inl r
  · rcases hS i c e1 with s | s
    · exact .inr ⟨i, c, b, cs, e1, k.get e2 (.inl s), e3⟩
    · exact .inl ⟨s, .inr rfl⟩
theorem Msg.ok.lt {h : H} {m : Msg} (o : m.ok h) : ∀ i c, m.ep = some (i, c) → i < h.next ∨ m.es.length = 0 := fun i c e => by
  rcases o.1.2 with ⟨r, _⟩ | ⟨i', c', b, cs, e1, e2, _⟩
  · exact .inr r
  · rw [e] at e1
    injection e1 with e1
    injection e1 with e1
    subst e1
    exact .inl (h.lt _ _ e2)
theorem knd_es {m : Msg} (h : m.k ≠ 5) : knd m = decide (1 ≤ m.k ∧ m.k ≤ 9) := by
  have e : (m.k != 5) = true := by simp [h]
  rw [knd, e, Bool.true_or, Bool.and_true]
set_option maxHeartbeats 2000000 in
theorem fields13 {h : H} (m o : Msg) (sm : SlIs h m.ep m.es.length false 1 (ints .i64 m.es)) (so : SlIs h o.ep o.es.length false 1 (ints .i64 o.es)) (em : -9223372036854775808 ≤ m.e ∧ m.e ≤ 9223372036854775807) (eo : -9223372036854775808 ≤ o.e ∧ o.e ≤ 9223372036854775807) :
    ACalls Try.prog 13 [.agg m.cells, .agg o.cells] h (fun r _ => r = .bool true) := by
  refine call_ Try.func13 rfl rfl (by kernel_rfl) ?_
  conv => whnf
  have m1 := Mod.push none_ h (.row true 9 m.cells)
  have m2 := Mod.push none_ (h.push (.row true 9 m.cells)) (.row true 9 o.cells)
  have g1 : ((h.push (.row true 9 m.cells)).push (.row true 9 o.cells)).obj h.next = some (.row true 9 m.cells) := m2.get (H.obj_push_new _ _) (.inl (fun k => k))
  have g2 : ((h.push (.row true 9 m.cells)).push (.row true 9 o.cells)).obj (h.next + 1) = some (.row true 9 o.cells) := H.obj_push_new (h.push (.row true 9 m.cells)) _
  have mm := mod_none m1 m2
  clear m1 m2
  refine ⟨_, Cell.mk g1 rfl, ?_⟩
  conv => whnf
  refine br_mk (fun ha => ?_) (fun ha => ?_)
  · conv => whnf
    refine (awake40 _).mono ?_
    rintro _ h' ⟨rfl, _⟩
    conv => whnf
  conv => whnf
  refine ⟨_, Cell.mk g2 rfl, ?_⟩
  conv => whnf
  refine br_mk (fun hb => ?_) (fun hb => ?_)
  · conv => whnf
    refine (awake40 _).mono ?_
    rintro _ h' ⟨rfl, _⟩
    conv => whnf
  conv => whnf
  simp at ha hb
  have km : m.ok ((h.push (.row true 9 m.cells)).push (.row true 9 o.cells)) := ⟨SlIs.old sm mm (fun _ _ k => k), em.1, em.2, by omega⟩
  have ko : o.ok ((h.push (.row true 9 m.cells)).push (.row true 9 o.cells)) := ⟨SlIs.old so mm (fun _ _ k => k), eo.1, eo.2, by omega⟩
  refine ⟨m.cells, Cells.mk g1 (Nat.le_of_ble_eq_true rfl) rfl, ?_⟩
  conv => whnf
  refine (enc41 m km).mono ?_
  rintro _ h3 ⟨q4, rfl, o4, m3⟩
  conv => whnf
  refine ⟨_, rfl, ?_⟩
  conv => whnf
  refine ⟨_, rfl, ?_⟩
  conv => whnf
  have km := km.old m3 (fun _ _ k => k)
  have ko := ko.old m3 (fun _ _ k => k)
  have g1 := m3.get g1 (.inl (fun k => k))
  have g2 := m3.get g2 (.inl (fun k => k))
  refine ⟨o.cells, Cells.mk g2 (Nat.le_of_ble_eq_true rfl) rfl, ?_⟩
  conv => whnf
  have mp := Mod.push none_ h3 (.row true 9 msg0.cells)
  have gx : (h3.push (.row true 9 msg0.cells)).obj h3.next = some (.row true 9 msg0.cells) := H.obj_push_new _ _
  have h1x : ¬ one h3.next h.next := Nat.ne_of_lt (h3.lt _ _ g1)
  have hbm : ∀ i c, m.ep = some (i, c) → ¬ one h3.next i ∨ m.es.length = 0 := fun i c e => (km.lt i c e).imp Nat.ne_of_lt id
  have hbo : ∀ i c, o.ep = some (i, c) → ¬ one h3.next i ∨ o.es.length = 0 := fun i c e => (ko.lt i c e).imp Nat.ne_of_lt id
  have km := km.old mp (fun _ _ k => k)
  have ko := ko.old mp (fun _ _ k => k)
  have g1 := mp.get g1 (.inl (fun k => k))
  have o4 := o4.get mp
  clear mp m3 mm g2
  generalize h3.next = bx at *
  refine ⟨_, _, gx, Nat.le_of_ble_eq_true rfl, ?_⟩
  have ms := Mod.set (S := one bx) (ob := .row true 9 [i64 o.k, i64 o.p, i64 o.d, .sl o.ep o.es.length, i64 o.w, i64 o.c, i64 o.e, i64 o.f, i64 o.l]) rfl gx rfl
  have g1 := ms.get g1 (.inl h1x)
  have gx := H.obj_set_same (ob' := .row true 9 [i64 o.k, i64 o.p, i64 o.d, .sl o.ep o.es.length, i64 o.w, i64 o.c, i64 o.e, i64 o.f, i64 o.l]) gx
  have o4 := o4.get ms
  have km := Msg.ok.by km ms hbm
  have ko := Msg.ok.by ko ms hbo
  clear ms
  conv => whnf
  refine ⟨_, Cell.mk g1 rfl, ?_⟩
  conv => whnf
  refine ⟨_, _, gx, Nat.le_of_ble_eq_true rfl, ?_⟩
  have ms := Mod.set (S := one bx) (ob := .row true 9 [i64 m.k, i64 o.p, i64 o.d, .sl o.ep o.es.length, i64 o.w, i64 o.c, i64 o.e, i64 o.f, i64 o.l]) rfl gx rfl
  have g1 := ms.get g1 (.inl h1x)
  have gx := H.obj_set_same (ob' := .row true 9 [i64 m.k, i64 o.p, i64 o.d, .sl o.ep o.es.length, i64 o.w, i64 o.c, i64 o.e, i64 o.f, i64 o.l]) gx
  have o4 := o4.get ms
  have km := Msg.ok.by km ms hbm
  have ko := Msg.ok.by ko ms hbo
  clear ms
  conv => whnf
  refine ⟨_, Cell.mk g1 rfl, ?_⟩
  conv => whnf
  refine br_mk (fun h1 => ?_) (fun h1 => ?_)
  conv => whnf
  simp at h1
  refine ⟨[0, 1, 2, 3, 4, 5, 6, 7], [0, 1, 0, 4, 3, 19, 63, 127], by kernel_rfl, ?_⟩
  conv => whnf
  refine ⟨_, Cell.mk g1 rfl, ?_⟩
  conv => whnf
  refine ⟨_, Cell.mk g1 rfl, ?_⟩
  conv => whnf
  refine ⟨_, _, gx, Nat.le_of_ble_eq_true rfl, ?_⟩
  have ms := Mod.set (S := one bx) (ob := .row true 9 [i64 m.k, i64 m.p, i64 o.d, .sl o.ep o.es.length, i64 o.w, i64 o.c, i64 o.e, i64 o.f, i64 o.l]) rfl gx rfl
  have g1 := ms.get g1 (.inl h1x)
  have gx := H.obj_set_same (ob' := .row true 9 [i64 m.k, i64 m.p, i64 o.d, .sl o.ep o.es.length, i64 o.w, i64 o.c, i64 o.e, i64 o.f, i64 o.l]) gx
  have o4 := o4.get ms
  have km := Msg.ok.by km ms hbm
  have ko := Msg.ok.by ko ms hbo
  clear ms
  conv => whnf
  refine ⟨?_, ?_⟩
  · conv => whnf
    exact ⟨_, Cell.mk g1 rfl, rfl⟩
  conv => whnf
  refine ⟨_, _, gx, Nat.le_of_ble_eq_true rfl, ?_⟩
  have ms := Mod.set (S := one bx) (ob := .row true 9 [i64 m.k, i64 m.p, i64 m.d, .sl o.ep o.es.length, i64 o.w, i64 o.c, i64 o.e, i64 o.f, i64 o.l]) rfl gx rfl
  have g1 := ms.get g1 (.inl h1x)
  have gx := H.obj_set_same (ob' := .row true 9 [i64 m.k, i64 m.p, i64 m.d, .sl o.ep o.es.length, i64 o.w, i64 o.c, i64 o.e, i64 o.f, i64 o.l]) gx
  have o4 := o4.get ms
  have km := Msg.ok.by km ms hbm
  have ko := Msg.ok.by ko ms hbo
  clear ms
  conv => whnf
  obtain ⟨x, hx⟩ : ∃ x : Msg, (⟨m.k, m.p, m.d, o.ep, o.es, o.w, o.c, o.e, o.f, o.l⟩ : Msg) = x := ⟨_, rfl⟩
  have kx := okm_mk gx hx ⟨ko.1, ko.2⟩
  have gx := gx.trans (congrArg (fun x : Msg => some (Ab.Obj.row true 9 x.cells)) hx)
  have ht : parts x = parts m := by
    rw [← hx]
    exact congrArg (List.cons (1, m.k)) ((tailP_1 (m := (⟨m.k, m.p, m.d, o.ep, o.es, o.w, o.c, o.e, o.f, o.l⟩ : Msg)) h1).trans (tailP_1 h1).symm)
  have hkn : knd x = knd m := by
    rw [← hx]
    exact (knd_es (m := (⟨m.k, m.p, m.d, o.ep, o.es, o.w, o.c, o.e, o.f, o.l⟩ : Msg)) (show m.k ≠ 5 by omega)).trans (knd_es (show m.k ≠ 5 by omega)).symm
  clear hx
  rotate_left
  conv => whnf
  refine br_mk (fun h2 => ?_) (fun h2 => ?_)
  conv => whnf
  simp at h2
  refine br_mk (fun _ => ?_) (fun hz => absurd hz (by simp [h2]))
  conv => whnf
  refine ⟨_, Cell.mk g1 rfl, ?_⟩
  conv => whnf
  refine ⟨_, _, gx, Nat.le_of_ble_eq_true rfl, ?_⟩
  have ms := Mod.set (S := one bx) (ob := .row true 9 [i64 m.k, i64 m.p, i64 o.d, .sl o.ep o.es.length, i64 o.w, i64 o.c, i64 o.e, i64 o.f, i64 o.l]) rfl gx rfl
  have g1 := ms.get g1 (.inl h1x)
  have gx := H.obj_set_same (ob' := .row true 9 [i64 m.k, i64 m.p, i64 o.d, .sl o.ep o.es.length, i64 o.w, i64 o.c, i64 o.e, i64 o.f, i64 o.l]) gx
  have o4 := o4.get ms
  have km := Msg.ok.by km ms hbm
  have ko := Msg.ok.by ko ms hbo
  clear ms
  conv => whnf
  obtain ⟨x, hx⟩ : ∃ x : Msg, (⟨m.k, m.p, o.d, o.ep, o.es, o.w, o.c, o.e, o.f, o.l⟩ : Msg) = x := ⟨_, rfl⟩
  have kx := okm_mk gx hx ⟨ko.1, ko.2⟩
  have gx := gx.trans (congrArg (fun x : Msg => some (Ab.Obj.row true 9 x.cells)) hx)
  have ht : parts x = parts m := by
    rw [← hx]
    exact congrArg (List.cons (1, m.k)) ((tailP_2 (m := (⟨m.k, m.p, o.d, o.ep, o.es, o.w, o.c, o.e, o.f, o.l⟩ : Msg)) (.inl h2)).trans (tailP_2 (.inl h2)).symm)
  have hkn : knd x = knd m := by
    rw [← hx]
    exact (knd_es (m := (⟨m.k, m.p, o.d, o.ep, o.es, o.w, o.c, o.e, o.f, o.l⟩ : Msg)) (show m.k ≠ 5 by omega)).trans (knd_es (show m.k ≠ 5 by omega)).symm
  clear hx
  rotate_left
  conv => whnf
  refine br_mk (fun h9 => ?_) (fun h9 => ?_)
  conv => whnf
  simp at h9
  refine ⟨_, Cell.mk g1 rfl, ?_⟩
  conv => whnf
  refine ⟨_, _, gx, Nat.le_of_ble_eq_true rfl, ?_⟩
  have ms := Mod.set (S := one bx) (ob := .row true 9 [i64 m.k, i64 m.p, i64 o.d, .sl o.ep o.es.length, i64 o.w, i64 o.c, i64 o.e, i64 o.f, i64 o.l]) rfl gx rfl
  have g1 := ms.get g1 (.inl h1x)
  have gx := H.obj_set_same (ob' := .row true 9 [i64 m.k, i64 m.p, i64 o.d, .sl o.ep o.es.length, i64 o.w, i64 o.c, i64 o.e, i64 o.f, i64 o.l]) gx
  have o4 := o4.get ms
  have km := Msg.ok.by km ms hbm
  have ko := Msg.ok.by ko ms hbo
  clear ms
  conv => whnf
  obtain ⟨x, hx⟩ : ∃ x : Msg, (⟨m.k, m.p, o.d, o.ep, o.es, o.w, o.c, o.e, o.f, o.l⟩ : Msg) = x := ⟨_, rfl⟩
  have kx := okm_mk gx hx ⟨ko.1, ko.2⟩
  have gx := gx.trans (congrArg (fun x : Msg => some (Ab.Obj.row true 9 x.cells)) hx)
  have ht : parts x = parts m := by
    rw [← hx]
    exact congrArg (List.cons (1, m.k)) ((tailP_2 (m := (⟨m.k, m.p, o.d, o.ep, o.es, o.w, o.c, o.e, o.f, o.l⟩ : Msg)) (.inr h9)).trans (tailP_2 (.inr h9)).symm)
  have hkn : knd x = knd m := by
    rw [← hx]
    exact (knd_es (m := (⟨m.k, m.p, o.d, o.ep, o.es, o.w, o.c, o.e, o.f, o.l⟩ : Msg)) (show m.k ≠ 5 by omega)).trans (knd_es (show m.k ≠ 5 by omega)).symm
  clear hx
  rotate_left
  conv => whnf
  refine br_mk (fun h5 => ?_) (fun h5 => ?_)
  conv => whnf
  simp at h5
  refine ⟨[0, 1, 2, 3, 4, 5, 6, 7], [0, 1, 0, 4, 3, 19, 63, 127], by kernel_rfl, ?_⟩
  conv => whnf
  refine ⟨_, Cell.mk g1 rfl, ?_⟩
  conv => whnf
  refine ⟨_, Cell.mk g1 rfl, ?_⟩
  conv => whnf
  refine ⟨_, _, gx, Nat.le_of_ble_eq_true rfl, ?_⟩
  have ms := Mod.set (S := one bx) (ob := .row true 9 [i64 m.k, i64 o.p, i64 o.d, .sl m.ep m.es.length, i64 o.w, i64 o.c, i64 o.e, i64 o.f, i64 o.l]) rfl gx rfl
  have g1 := ms.get g1 (.inl h1x)
  have gx := H.obj_set_same (ob' := .row true 9 [i64 m.k, i64 o.p, i64 o.d, .sl m.ep m.es.length, i64 o.w, i64 o.c, i64 o.e, i64 o.f, i64 o.l]) gx
  have o4 := o4.get ms
  have km := Msg.ok.by km ms hbm
  have ko := Msg.ok.by ko ms hbo
  clear ms
  conv => whnf
  refine ⟨?_, ?_⟩
  · conv => whnf
    exact ⟨_, Cell.mk g1 rfl, rfl⟩
  conv => whnf
  refine ⟨_, _, gx, Nat.le_of_ble_eq_true rfl, ?_⟩
  have ms := Mod.set (S := one bx) (ob := .row true 9 [i64 m.k, i64 o.p, i64 o.d, .sl m.ep m.es.length, i64 m.w, i64 o.c, i64 o.e, i64 o.f, i64 o.l]) rfl gx rfl
  have g1 := ms.get g1 (.inl h1x)
  have gx := H.obj_set_same (ob' := .row true 9 [i64 m.k, i64 o.p, i64 o.d, .sl m.ep m.es.length, i64 m.w, i64 o.c, i64 o.e, i64 o.f, i64 o.l]) gx
  have o4 := o4.get ms
  have km := Msg.ok.by km ms hbm
  have ko := Msg.ok.by ko ms hbo
  clear ms
  conv => whnf
  obtain ⟨x, hx⟩ : ∃ x : Msg, (⟨m.k, o.p, o.d, m.ep, m.es, m.w, o.c, o.e, o.f, o.l⟩ : Msg) = x := ⟨_, rfl⟩
  have kx := okm_mk gx hx ⟨km.1, ko.2.1, ko.2.2.1, km.2.2.2⟩
  have gx := gx.trans (congrArg (fun x : Msg => some (Ab.Obj.row true 9 x.cells)) hx)
  have ht : parts x = parts m := by
    rw [← hx]
    exact congrArg (List.cons (1, m.k)) ((tailP_5 (m := (⟨m.k, o.p, o.d, m.ep, m.es, m.w, o.c, o.e, o.f, o.l⟩ : Msg)) h5).trans (tailP_5 h5).symm)
  have hkn : knd x = knd m := by
    rw [← hx]
    exact rfl
  clear hx
  rotate_left
  conv => whnf
  refine br_mk (fun h7 => ?_) (fun h7 => ?_)
  conv => whnf
  simp at h7
  refine ⟨[i64 m.c, i64 m.e, i64 m.f, i64 m.l], Cells.mk g1 (Nat.le_of_ble_eq_true rfl) rfl, ?_⟩
  conv => whnf
  refine ⟨_, _, gx, Nat.le_of_ble_eq_true rfl, ?_⟩
  have ms := Mod.set (S := one bx) (ob := .row true 9 [i64 m.k, i64 o.p, i64 o.d, .sl o.ep o.es.length, i64 o.w, i64 m.c, i64 m.e, i64 m.f, i64 m.l]) rfl gx rfl
  have g1 := ms.get g1 (.inl h1x)
  have gx := H.obj_set_same (ob' := .row true 9 [i64 m.k, i64 o.p, i64 o.d, .sl o.ep o.es.length, i64 o.w, i64 m.c, i64 m.e, i64 m.f, i64 m.l]) gx
  have o4 := o4.get ms
  have km := Msg.ok.by km ms hbm
  have ko := Msg.ok.by ko ms hbo
  clear ms
  conv => whnf
  obtain ⟨x, hx⟩ : ∃ x : Msg, (⟨m.k, o.p, o.d, o.ep, o.es, o.w, m.c, m.e, m.f, m.l⟩ : Msg) = x := ⟨_, rfl⟩
  have kx := okm_mk gx hx ⟨ko.1, em.1, em.2, ko.2.2.2⟩
  have gx := gx.trans (congrArg (fun x : Msg => some (Ab.Obj.row true 9 x.cells)) hx)
  have ht : parts x = parts m := by
    rw [← hx]
    exact congrArg (List.cons (1, m.k)) ((tailP_7 (m := (⟨m.k, o.p, o.d, o.ep, o.es, o.w, m.c, m.e, m.f, m.l⟩ : Msg)) h7).trans (tailP_7 h7).symm)
  have hkn : knd x = knd m := by
    rw [← hx]
    exact (knd_es (m := (⟨m.k, o.p, o.d, o.ep, o.es, o.w, m.c, m.e, m.f, m.l⟩ : Msg)) (show m.k ≠ 5 by omega)).trans (knd_es (show m.k ≠ 5 by omega)).symm
  clear hx
  rotate_left
  conv => whnf
  simp at h1 h2 h9 h5 h7
  obtain ⟨x, hx⟩ : ∃ x : Msg, (⟨m.k, o.p, o.d, o.ep, o.es, o.w, o.c, o.e, o.f, o.l⟩ : Msg) = x := ⟨_, rfl⟩
  have kx := okm_mk gx hx ⟨ko.1, ko.2⟩
  have gx := gx.trans (congrArg (fun x : Msg => some (Ab.Obj.row true 9 x.cells)) hx)
  have ht : parts x = parts m := by
    rw [← hx]
    exact congrArg (List.cons (1, m.k)) ((tailP_0 (m := (⟨m.k, o.p, o.d, o.ep, o.es, o.w, o.c, o.e, o.f, o.l⟩ : Msg)) h1 h2 h9 h5 h7).trans (tailP_0 h1 h2 h9 h5 h7).symm)
  have hkn : knd x = knd m := by
    rw [← hx]
    exact (knd_es (m := (⟨m.k, o.p, o.d, o.ep, o.es, o.w, o.c, o.e, o.f, o.l⟩ : Msg)) (show m.k ≠ 5 by omega)).trans (knd_es (show m.k ≠ 5 by omega)).symm
  clear hx
  rotate_left
  all_goals
    have hE : encOk x = encOk m := by rw [encOk, encOk, ht, hkn]
    have hB : encB x = encB m := by rw [encB, encB, ht, hE]
    refine ⟨x.cells, Cells.mk gx (Nat.le_of_ble_eq_true rfl) rfl, ?_⟩
    conv => whnf
    refine (enc41 x kx).mono ?_
    rintro _ h6 ⟨q6, rfl, o6, m6⟩
    rw [hB] at o6 ⊢
    rw [hE]
    conv => whnf
    refine ⟨_, rfl, ?_⟩
    conv => whnf
    refine ⟨_, rfl, ?_⟩
    conv => whnf
    have o4 := o4.get m6
    have km := km.old m6 (fun _ _ k => k)
    have g1 := m6.get g1 (.inl (fun k => k))
    refine br_mk (fun hh => absurd hh (by simp)) (fun _ => ?_)
    conv => whnf
    refine ⟨_, o4.is, encB_bts m, ?_⟩
    conv => whnf
    refine ⟨_, o6.is, encB_bts m, ?_⟩
    conv => whnf
    refine br_mk (fun hh => absurd hh (by simp)) (fun _ => ?_)
    conv => whnf
    have ec := canon_enc m
    cases hM : encOk m with
    | false =>
      conv => whnf
      refine (awake40 _).mono ?_
      rintro _ h' ⟨rfl, _⟩
      conv => whnf
    | true =>
      have ec := ec hM em.1 em.2
      have lB := encB_len m
      conv => whnf
      refine (dec43 o6.is (encB_bts m) (by omega)).mono ?_
      rintro _ h7 ⟨y, oy, rfl, ky, m7, dy⟩
      obtain ⟨rfl, ey, _⟩ := dy.yes ec
      conv => whnf
      refine ⟨_, rfl, ?_⟩
      conv => whnf
      refine ⟨_, rfl, ?_⟩
      conv => whnf
      obtain ⟨g0, gy, m8⟩ := lay_ (h := h7) y
      refine ⟨_, _, g0, Nat.le_of_ble_eq_true rfl, ?_⟩
      conv => whnf
      have m78 := mod_none m7 m8
      have km := km.old m78 (fun _ _ k => k)
      have g1 := m78.get g1 (.inl (fun k => k))
      have ky := ky.old m8 (fun _ _ k => k)
      by_cases k1 : m.k = 1
      · have e1 : y.p = m.p := by rw [ey]; simp [canonM, k1]
        have e2 : y.d = m.d := by rw [ey]; simp [canonM, k1]
        simp only [Msg.cells, k1] at g1
        refine ⟨_, Cell.mk g1 rfl, ?_⟩
        conv => whnf
        refine ⟨_, Cell.mk gy rfl, ?_⟩
        conv => whnf
        refine ⟨_, Cell.mk g1 rfl, ?_⟩
        conv => whnf
        refine br_mk (fun _ => ?_) (fun hh => absurd hh (by simp [e1]))
        conv => whnf
        refine ⟨_, Cell.mk gy rfl, ?_⟩
        conv => whnf
        refine ⟨_, Cell.mk g1 rfl, ?_⟩
        conv => whnf
        refine br_mk (fun _ => ?_) (fun hh => absurd hh (by simp [e2]))
        conv => whnf
        refine ⟨_, Cell.mk g1 rfl, ?_⟩
        conv => whnf
        refine ⟨_, Cell.mk g1 rfl, ?_⟩
        conv => whnf
        refine ⟨_, Cell.mk g1 rfl, ?_⟩
        conv => whnf
        refine (awake40 _).mono ?_
        rintro _ h' ⟨rfl, _⟩
        conv => whnf
      by_cases k5 : m.k = 5
      · have e1 : y.es = m.es := by rw [ey]; simp [canonM, k5]
        have e2 : y.w = m.w := by rw [ey]; simp [canonM, k5]
        simp only [Msg.cells, k5] at g1
        refine ⟨_, Cell.mk g1 rfl, ?_⟩
        conv => whnf
        refine ⟨_, Cell.mk g1 rfl, ?_⟩
        conv => whnf
        refine ⟨_, Cell.mk gy rfl, ?_⟩
        conv => whnf
        refine ⟨_, Cell.mk g1 rfl, ?_⟩
        conv => whnf
        refine (ints47 ky.1 km.1 (by have := ky.2.2.2; omega)).mono ?_
        rintro _ h' ⟨eh, rfl⟩
        subst h'
        conv => whnf
        refine br_mk (fun _ => ?_) (fun hh => absurd hh (by simp [e1]))
        conv => whnf
        refine ⟨_, Cell.mk gy rfl, ?_⟩
        conv => whnf
        refine ⟨_, Cell.mk g1 rfl, ?_⟩
        conv => whnf
        refine br_mk (fun _ => ?_) (fun hh => absurd hh (by simp [e2]))
        conv => whnf
        refine ⟨_, Cell.mk g1 rfl, ?_⟩
        conv => whnf
        refine ⟨_, Cell.mk g1 rfl, ?_⟩
        conv => whnf
        refine (awake40 _).mono ?_
        rintro _ h' ⟨rfl, _⟩
        conv => whnf
      by_cases k7 : m.k = 7
      · have e1 : hintL y = hintL m := by rw [ey]; simp [canonM, hintL, k7]
        simp only [Msg.cells, k7] at g1
        refine ⟨_, Cell.mk g1 rfl, ?_⟩
        conv => whnf
        refine ⟨_, Cell.mk g1 rfl, ?_⟩
        conv => whnf
        refine ⟨_, Cell.mk g1 rfl, ?_⟩
        conv => whnf
        refine ⟨[i64 y.c, i64 y.e, i64 y.f, i64 y.l], Cells.mk gy (Nat.le_of_ble_eq_true rfl) rfl, ?_⟩
        conv => whnf
        refine ⟨[i64 m.c, i64 m.e, i64 m.f, i64 m.l], Cells.mk g1 (Nat.le_of_ble_eq_true rfl) rfl, ?_⟩
        conv => whnf
        refine ⟨_, _, rfl, rfl, ?_⟩
        conv => whnf
        refine br_mk (fun _ => ?_) (fun hh => ?_)
        rotate_left
        · have hh : (hintL y == hintL m) = false := hh
          rw [e1, beq_self_eq_true] at hh
          cases hh
        conv => whnf
        refine ⟨_, Cell.mk g1 rfl, ?_⟩
        conv => whnf
        refine (awake40 _).mono ?_
        rintro _ h' ⟨rfl, _⟩
        conv => whnf
      by_cases k2 : m.k = 2
      · have e1 : y.p = m.p := by rw [ey]; simp [canonM, k2]
        have e2 : y.es = [] := by rw [ey]; simp [canonM, k2]
        simp only [Msg.cells, k2] at g1
        refine ⟨_, Cell.mk g1 rfl, ?_⟩
        conv => whnf
        refine ⟨_, Cell.mk g1 rfl, ?_⟩
        conv => whnf
        refine ⟨_, Cell.mk g1 rfl, ?_⟩
        conv => whnf
        refine ⟨_, Cell.mk g1 rfl, ?_⟩
        conv => whnf
        refine ⟨_, Cell.mk gy rfl, ?_⟩
        conv => whnf
        refine ⟨_, Cell.mk g1 rfl, ?_⟩
        conv => whnf
        refine br_mk (fun _ => ?_) (fun hh => absurd hh (by simp [e1]))
        conv => whnf
        refine ⟨_, Cell.mk gy rfl, ?_⟩
        conv => whnf
        refine br_mk (fun _ => ?_) (fun hh => absurd hh (by simp [e2]))
        conv => whnf
        refine (awake40 _).mono ?_
        rintro _ h' ⟨rfl, _⟩
        conv => whnf
      refine ⟨_, Cell.mk g1 rfl, ?_⟩
      conv => whnf
      refine br_mk (fun _ => ?_) (fun hh => absurd hh (by simp [k1]))
      conv => whnf
      refine ⟨_, Cell.mk g1 rfl, ?_⟩
      conv => whnf
      refine br_mk (fun _ => ?_) (fun hh => absurd hh (by simp [k5]))
      conv => whnf
      refine ⟨_, Cell.mk g1 rfl, ?_⟩
      conv => whnf
      refine br_mk (fun _ => ?_) (fun hh => absurd hh (by simp [k7]))
      conv => whnf
      refine ⟨_, Cell.mk g1 rfl, ?_⟩
      conv => whnf
      refine br_mk (fun _ => ?_) (fun hh => absurd hh (by simp [k2]))
      conv => whnf
      refine (awake40 _).mono ?_
      rintro _ h' ⟨rfl, _⟩
      conv => whnf
end Go.Proofs.Ytnpfdppmpmnhbaa
