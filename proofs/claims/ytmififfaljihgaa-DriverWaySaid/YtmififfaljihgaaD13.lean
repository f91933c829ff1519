/- The driver: hears. -/
import Derived.Test.YtmififfaljihgaaD12
set_option linter.unusedVariables false
namespace Go.Proofs.Ytmififfaljihgaa
open Go Go.Ab
def hearD (v : DV) (m : Msg) : DV := if m.k = 5 then { v with way := m.es, has := true } else if m.k = 6 then { v with way := [], has := false } else v
theorem dHears {h : H} {di : Nat} {d : CId} {po : Option (Nat × Nat)} {v : DV} {cv : CV} (s : DrS h di d po v cv) (m : Msg) (ok : m.ok h) : ACalls Try.prog 40 [.ptr (some (di, 0)), .agg m.cells] h (fun r h' => DrS h' di d po (hearD v m) cv ∧ Ab.Mod (one di) h h') := by
  refine call_ Try.func40 rfl rfl (by kernel_rfl) ?_
  conv => whnf
  have mb := Mod.push none_ h (.row true 9 m.cells)
  have gb : (h.push (.row true 9 m.cells)).obj h.next = some (.row true 9 m.cells) := H.obj_push_new _ _
  have s1 := s.old mb
  have ok1 := ok.old mb (fun _ _ k => k)
  refine ⟨_, Cell.mk gb rfl, ?_⟩
  conv => whnf
  refine br_mk (fun h5 => ?_) (fun h5 => ?_)
  · have h5 : m.k = 5 := by simpa using h5
    have ed : hearD v m = { v with way := m.es, has := true } := if_pos h5
    conv => whnf
    refine ⟨_, Cell.mk gb rfl, ?_⟩
    conv => whnf
    refine (clone42 ok1.1 (by have := ok.2.2.2; omega)).mono ?_
    rintro _ h2 ⟨q, rfl, o, m2⟩
    have s2 := s1.old m2
    obtain ⟨pw, b2, w2⟩ := s2.box
    conv => whnf
    refine ⟨_, _, b2, Nat.le_of_ble_eq_true rfl, ?_⟩
    conv => whnf
    obtain ⟨s4, m4, b4, w4⟩ := s2.set b2 (v' := { v with way := m.es }) (pw' := q) o
    refine ⟨_, _, b4, Nat.le_of_ble_eq_true rfl, ?_⟩
    conv => whnf
    obtain ⟨s5, m5, b5, w5⟩ := s4.set b4 (v' := { v with way := m.es, has := true }) (pw' := q) w4
    rw [ed]
    exact ⟨s5, (mod_none mb m2).trans' (m4.trans' m5 (S2 := one di) (fun _ _ k => k) (fun _ _ k => k)) (fun _ _ k => k.elim) (fun _ _ k => k)⟩
  have h5 : ¬ m.k = 5 := by simpa using h5
  obtain ⟨pw, b2, w2⟩ := s1.box
  conv => whnf
  refine br_mk (fun h6 => ?_) (fun h6 => ?_)
  · have h6 : m.k = 6 := by simpa using h6
    have ed : hearD v m = { v with way := [], has := false } := by rw [hearD, if_neg h5, if_pos h6]
    conv => whnf
    refine ⟨_, _, b2, Nat.le_of_ble_eq_true rfl, ?_⟩
    conv => whnf
    obtain ⟨s4, m4, b4, w4⟩ := s1.set b2 (v' := { v with way := [] }) (pw' := none) ⟨rfl, .inl rfl⟩
    refine ⟨_, _, b4, Nat.le_of_ble_eq_true rfl, ?_⟩
    conv => whnf
    obtain ⟨s5, m5, b5, w5⟩ := s4.set b4 (v' := { v with way := [], has := false }) (pw' := none) w4
    rw [ed]
    exact ⟨s5, mb.trans' (m4.trans' m5 (S2 := one di) (fun _ _ k => k) (fun _ _ k => k)) (fun _ _ k => k.elim) (fun _ _ k => k)⟩
  · have h6 : ¬ m.k = 6 := by simpa using h6
    have ed : hearD v m = v := by rw [hearD, if_neg h5, if_neg h6]
    conv => whnf
    rw [ed]
    exact ⟨s1, mb.mono (fun _ _ k => k.elim)⟩
end Go.Proofs.Ytmififfaljihgaa
