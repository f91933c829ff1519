/- The law MessageBack. -/
import Derived.Test.YtnpfdppmpmnhbaaS40
set_option linter.unusedVariables false
namespace Go.Proofs.Ytnpfdppmpmnhbaa
open Go Go.Ab
theorem msgBack12 {h : H} (m : Msg) (sm : SlIs h m.ep m.es.length false 1 (ints .i64 m.es)) (em : -9223372036854775808 ≤ m.e ∧ m.e ≤ 9223372036854775807) (cut more : Int) (bm : 0 ≤ more ∧ more < 256) :
    ACalls Try.prog 12 [.agg m.cells, i64 cut, .int .u8 more] h (fun r _ => r = .bool true) := by
  refine call_ Try.func12 rfl rfl (by kernel_rfl) ?_
  conv => whnf
  have mm := Mod.push none_ h (.row true 9 m.cells)
  have g1 : (h.push (.row true 9 m.cells)).obj h.next = some (.row true 9 m.cells) := H.obj_push_new _ _
  refine ⟨_, Cell.mk g1 rfl, ?_⟩
  conv => whnf
  refine br_mk (fun ha => ?_) (fun ha => ?_)
  · conv => whnf
    refine (awake40 _).mono ?_
    rintro _ h' ⟨rfl, _⟩
    conv => whnf
  conv => whnf
  simp at ha
  have km : m.ok (h.push (.row true 9 m.cells)) := ⟨SlIs.old sm mm (fun _ _ k => k), em.1, em.2, by omega⟩
  refine ⟨m.cells, Cells.mk g1 (Nat.le_of_ble_eq_true rfl) rfl, ?_⟩
  conv => whnf
  refine (enc41 m km).mono ?_
  rintro _ h2 ⟨q2, rfl, o2, m2⟩
  conv => whnf
  refine ⟨_, rfl, ?_⟩
  conv => whnf
  refine ⟨_, rfl, ?_⟩
  conv => whnf
  have g1 := m2.get g1 (.inl (fun k => k))
  have hB : encOk m = false → encB m = [] := fun e => by rw [encB, e]; rfl
  cases hE : encOk m with
  | false =>
    rw [hB hE]
    conv => whnf
    refine (awake40 _).mono ?_
    rintro _ h' ⟨rfl, _⟩
    conv => whnf
  | true =>
    have ec := canon_enc m hE em.1 em.2
    have bB := encB_bts m
    have lB := encB_len m
    have pB := enc_pos ec
    clear hB
    generalize encB m = b at *
    conv => whnf
    refine br_mk (fun hb => ?_) (fun hb => ?_)
    · simp at hb
      subst hb
      cases pB
    conv => whnf
    refine (dec43 o2.is bB (by omega)).mono ?_
    rintro _ h3 ⟨x, ox, rfl, kx, m3, dx⟩
    obtain ⟨rfl, ex, ex2⟩ := dx.yes ec
    conv => whnf
    refine ⟨_, rfl, ?_⟩
    conv => whnf
    refine ⟨_, rfl, ?_⟩
    conv => whnf
    obtain ⟨g0, gx, m4⟩ := lay_ (h := h3) x
    refine ⟨_, _, g0, Nat.le_of_ble_eq_true rfl, ?_⟩
    conv => whnf
    have m34 := mod_none m3 m4
    have o2 := o2.get m34
    have g1 := m34.get g1 (.inl (fun k => k))
    have kx := kx.old m4 (fun _ _ k => k)
    refine ⟨x.cells, Cells.mk gx (Nat.le_of_ble_eq_true rfl) rfl, ?_⟩
    conv => whnf
    refine (enc41 x kx).mono ?_
    rintro _ h5 ⟨q5, rfl, o5, m5⟩
    have hxB : encB x = b := ex2.encB
    have hxE : encOk x = true := ex2.ok
    rw [hxB] at o5 ⊢
    rw [hxE]
    conv => whnf
    refine ⟨_, rfl, ?_⟩
    conv => whnf
    refine ⟨_, rfl, ?_⟩
    conv => whnf
    have o2 := o2.get m5
    have g1 := m5.get g1 (.inl (fun k => k))
    have gx := m5.get gx (.inl (fun k => k))
    refine (round33 (m := (b.length : Int)) (by omega) (by omega) cut h5).mono ?_
    rintro _ h' ⟨eh, rfl⟩
    subst h'
    conv => whnf
    have c0 := Int.emod_nonneg cut (show (b.length : Int) ≠ 0 by omega)
    have c1 := Int.emod_lt_of_pos cut (show (0 : Int) < (b.length : Int) by omega)
    obtain ⟨r, hr⟩ := Int.eq_ofNat_of_zero_le c0
    refine ⟨⟨_, o2.is⟩, ?_⟩
    conv => whnf
    refine ⟨r, hr, Nat.zero_le _, by omega, ?_⟩
    conv => whnf
    refine (dec43 (b := b.take r) (slo_cut o2.is (Nat.zero_le r) (by omega)) (bts_take bB _) (by omega)).mono ?_
    rintro _ h6 ⟨y, oy, rfl, ky, m6, dy⟩
    obtain ⟨rfl, rfl⟩ := dy.no (enc_cut ec (by omega))
    conv => whnf
    refine ⟨_, rfl, ?_⟩
    conv => whnf
    refine ⟨_, rfl, ?_⟩
    conv => whnf
    obtain ⟨g0', _, m7⟩ := lay_ (h := h6) msg0
    refine ⟨_, _, g0', Nat.le_of_ble_eq_true rfl, ?_⟩
    conv => whnf
    have m67 := mod_none m6 m7
    have o2 := o2.get m67
    have o5 := o5.get m67
    have g1 := m67.get g1 (.inl (fun k => k))
    have gx := m67.get gx (.inl (fun k => k))
    have w0 := NewS.empty ((h6.push (.row true 9 msg0.cells)).set h6.next (.row true 9 msg0.cells)) .u8
    refine ⟨_, _, w0.1, SlIs.old o2.is w0.2.2 (fun _ _ k => k), by rw [T5b]; omega, by omega, fun p8 h8 hs8 hm8 hf8 => ?_⟩
    have w8 : NewS _ h8 .u8 p8 (0 + b.length) ([] ++ b) := w0.app hs8 hm8 hf8
    rw [List.nil_append] at w8
    clear hs8 hm8 hf8 w0
    conv => whnf
    rw [oneRow]
    have mp := Mod.push none_ h8 (.row true 1 (ints .u8 [more]))
    have w9 := w8.keep mp
    refine ⟨_, _, w9.1, (SlIs.row (n := 1) (H.obj_push_new _ _) rfl).weak, by rw [T5b]; omega, by omega, fun p10 h10 hs10 hm10 hf10 => ?_⟩
    have w10 := w9.app hs10 hm10 hf10
    clear hs10 hm10 hf10
    conv => whnf
    refine (dec43 w10.1.weak (bB.append (fun y hy => by
      rw [List.mem_singleton] at hy
      subst hy
      exact bm)) (by omega)).mono ?_
    rintro _ h11 ⟨z, oz, rfl, kz, m11, dz⟩
    obtain ⟨rfl, rfl⟩ := dz.no (enc_more ec more)
    conv => whnf
    refine ⟨_, rfl, ?_⟩
    conv => whnf
    refine ⟨_, rfl, ?_⟩
    conv => whnf
    obtain ⟨g0'', _, m12⟩ := lay_ (h := h11) msg0
    refine ⟨_, _, g0'', Nat.le_of_ble_eq_true rfl, ?_⟩
    conv => whnf
    have mA := mod_none (mod_none w10.2.2 m11) m12
    have o2 := o2.get mA
    have o5 := o5.get mA
    have g1 := mA.get g1 (.inl (fun k => k))
    have gx := mA.get gx (.inl (fun k => k))
    refine ⟨_, Cell.mk gx rfl, ?_⟩
    conv => whnf
    refine ⟨_, Cell.mk g1 rfl, ?_⟩
    conv => whnf
    have hk : x.k = m.k := by rw [ex]; rfl
    refine br_mk (fun _ => ?_) (fun hh => absurd hh (by simp [hk]))
    conv => whnf
    refine ⟨_, o5.is, bB, ?_⟩
    conv => whnf
    refine ⟨_, o2.is, bB, ?_⟩
    conv => whnf
    refine br_mk (fun _ => ?_) (fun hh => absurd hh (by simp))
    conv => whnf
    refine (awake40 _).mono ?_
    rintro _ h' ⟨rfl, _⟩
    conv => whnf
end Go.Proofs.Ytnpfdppmpmnhbaa
