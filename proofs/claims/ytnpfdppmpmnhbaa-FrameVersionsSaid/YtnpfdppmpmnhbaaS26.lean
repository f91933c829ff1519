/- The law FrameTells. -/
import Derived.Test.YtnpfdppmpmnhbaaS25
set_option linter.unusedVariables false
namespace Go.Proofs.Ytnpfdppmpmnhbaa
open Go Go.Ab
theorem wrV_bts {x : Int} {xs : List Int} (hb : Bts xs) : Bts (wrV x xs) := by
  unfold wrV
  split
  · exact fun _ k => by cases k
  · rw [wrOk_frm]
    exact frm_bts (by decide) (by decide) (wrap_u8 _) hb
theorem wrV_len {x : Int} {xs : List Int} : (wrV x xs).length ≤ xs.length + 9 := by
  unfold wrV
  split
  · exact Nat.zero_le _
  · rw [wrOk_frm, frm_length]
    exact Nat.le_refl _
theorem unV_bts {xs : List Int} (hb : Bts xs) : Bts (unV xs).2.1 := by
  unfold unV
  split
  · exact fun _ k => by cases k
  · split
    · exact fun _ k => by cases k
    · split
      · exact fun _ k => by cases k
      · exact bts_take (bts_drop hb 5) _
theorem frame7 {h : H} {p1 p2 : Option (Nat × Nat)} {n1 n2 : Nat} {xs rs : List Int} (x : Int) (o1 : Oct h p1 n1 xs) (b1 : Bts xs) (o2 : Oct h p2 n2 rs) (b2 : Bts rs) (fix : Bool) :
    ACalls Try.prog 7 [i64 x, .sl p1 n1, .sl p2 n2, .bool fix] h (fun r _ => r = .bool true) := by
  have hl := o1.len
  subst hl
  have hl := o2.len
  subst hl
  refine call_ Try.func7 rfl rfl (by kernel_rfl) ?_
  conv => whnf
  refine br_mk (fun ha => ?_) (fun ha => ?_)
  · conv => whnf
    refine (awake34 h).mono ?_
    rintro _ h' ⟨rfl, _⟩
    conv => whnf
  conv => whnf
  refine br_mk (fun hb => ?_) (fun hb => ?_)
  · conv => whnf
    refine (awake34 h).mono ?_
    rintro _ h' ⟨rfl, _⟩
    conv => whnf
  conv => whnf
  simp at ha hb
  refine br_mk (fun hc => ?_) (fun hc => ?_)
  conv => whnf
  refine br_mk (fun hd => ?_) (fun hd => ?_)
  conv => whnf
  simp at hd
  have w0 := NewS.empty h .u8
  refine ⟨_, _, w0.1, SlIs.old o2.is w0.2.2 (fun _ _ k => k), by rw [T5b]; omega, by omega, fun p3 h3 hs3 hm3 hf3 => ?_⟩
  have w3 : NewS h h3 .u8 p3 (0 + rs.length) ([] ++ rs) := w0.app hs3 hm3 hf3
  conv => whnf
  rw [Nat.zero_add] at w3 ⊢
  rw [List.nil_append] at w3
  clear hs3 hm3 hf3
  obtain ⟨N, hN⟩ : ∃ N, rs.length = N + 4 := ⟨rs.length - 4, by omega⟩
  have e4 : IntKind.i64.wrap ((rs.length : Int) - 4) = (N : Int) := by
    rw [wrap_i64 (by omega) (by omega)]
    omega
  rw [e4]
  refine ⟨⟨_, w3.1.weak⟩, ?_⟩
  conv => whnf
  refine ⟨N, rfl, Nat.zero_le _, by omega, ?_⟩
  conv => whnf
  refine (sum35 (slo_cut w3.1.weak (Nat.zero_le N) (by omega)) (by omega)).mono ?_
  rintro _ h' ⟨eh, rfl⟩
  subst h'
  conv => whnf
  rw [show (rs.drop 0).take (N - 0) = rs.take N from rfl]
  generalize hcs : sumV (rs.take N) = cs
  have i1 : IntKind.i64.wrap ((N : Int) + 1) = ((N + 1 : Nat) : Int) := wrap_i64 (by omega) (by omega)
  have i2 : IntKind.i64.wrap ((N : Int) + 2) = ((N + 2 : Nat) : Int) := wrap_i64 (by omega) (by omega)
  have i3 : IntKind.i64.wrap ((N : Int) + 3) = ((N + 3 : Nat) : Int) := wrap_i64 (by omega) (by omega)
  refine ⟨by decide, ?_⟩
  conv => whnf
  refine ⟨by decide, ?_⟩
  conv => whnf
  refine ⟨by decide, ?_⟩
  conv => whnf
  obtain ⟨i, c, sz, ces, rfl, g4, l4, w4⟩ := w3.put (j := N) (by omega) (shc cs 24)
  refine ⟨_, _, N, rfl, rfl, by omega, ?_⟩
  conv => whnf
  refine ⟨_, _, g4, l4, ?_⟩
  conv => whnf
  obtain ⟨i', c', sz, ces, e, g5, l5, w5⟩ := w4.put (j := N + 1) (by omega) (shc cs 16)
  injection e with e
  injection e with e1 e2
  subst e1 e2
  refine ⟨_, _, N + 1, rfl, i1, by omega, ?_⟩
  conv => whnf
  refine ⟨_, _, g5, l5, ?_⟩
  conv => whnf
  obtain ⟨i', c', sz, ces, e, g6, l6, w6⟩ := w5.put (j := N + 2) (by omega) (shc cs 8)
  injection e with e
  injection e with e1 e2
  subst e1 e2
  refine ⟨_, _, N + 2, rfl, i2, by omega, ?_⟩
  conv => whnf
  refine ⟨_, _, g6, l6, ?_⟩
  conv => whnf
  obtain ⟨i', c', sz, ces, e, g7, l7, w7⟩ := w6.put (j := N + 3) (by omega) (IntKind.u8.wrap cs)
  injection e with e
  injection e with e1 e2
  subst e1 e2
  refine ⟨_, _, N + 3, rfl, i3, by omega, ?_⟩
  conv => whnf
  refine ⟨_, _, g7, l7, ?_⟩
  conv => whnf
  rw [set4 hN] at w7
  have b3 : Bts (rs.take N ++ [shc cs 24, shc cs 16, shc cs 8, IntKind.u8.wrap cs]) := (bts_take b2 N).append (sum4_bts cs)
  have w8 := w7.1.weak
  have m8 := w7.2.2
  clear w3 w4 w5 w6 w7 g4 g5 g6 g7 l4 l5 l6 l7
  have hb8 : rs.length ≤ 2100 := by omega
  generalize rs.take N ++ [shc cs 24, shc cs 16, shc cs 8, IntKind.u8.wrap cs] = ys at *
  clear o2 b2
  rotate_left
  conv => whnf
  have m8 := mod_refl none_ h
  have w8 := o2.is
  have b3 := b2
  have hb8 : rs.length ≤ 2100 := by omega
  rotate_left
  conv => whnf
  have m8 := mod_refl none_ h
  have w8 := o2.is
  have b3 := b2
  have hb8 : rs.length ≤ 2100 := by omega
  rotate_left
  all_goals
    refine (wrap36 (SlIs.old o1.is m8 (fun _ _ k => k)) (by unfold maxLen; omega) x).mono ?_
    rintro _ h9 ⟨q9, rfl, o9, m9⟩
    conv => whnf
    refine ⟨_, rfl, ?_⟩
    conv => whnf
    refine ⟨_, rfl, ?_⟩
    conv => whnf
    have m8 := mod_none m8 m9
    have w8 := SlIs.old w8 m9 (fun _ _ k => k)
    refine (wrap37 (SlIs.old o1.is m8 (fun _ _ k => k)) (by unfold maxLen; omega) x).mono ?_
    rintro _ h10 ⟨q10, rfl, o10, m10⟩
    conv => whnf
    refine ⟨_, rfl, ?_⟩
    conv => whnf
    refine ⟨_, rfl, ?_⟩
    conv => whnf
    have o9 := o9.get m10
    have w8 := SlIs.old w8 m10 (fun _ _ k => k)
    refine (un38 w8 b3 (by omega)).mono ?_
    rintro _ h11 ⟨q11, l11, rfl, o11, m11⟩
    conv => whnf
    refine ⟨_, rfl, ?_⟩
    conv => whnf
    refine ⟨_, rfl, ?_⟩
    conv => whnf
    refine ⟨_, rfl, ?_⟩
    conv => whnf
    have o9 := o9.get m11
    have o10 := o10.get m11
    have w8 := SlIs.old w8 m11 (fun _ _ k => k)
    refine (un39 w8 b3 (by omega)).mono ?_
    rintro _ h12 ⟨q12, l12, rfl, o12, m12⟩
    conv => whnf
    refine ⟨_, rfl, ?_⟩
    conv => whnf
    refine ⟨_, rfl, ?_⟩
    conv => whnf
    refine ⟨_, rfl, ?_⟩
    conv => whnf
    have o9 := o9.get m12
    have o10 := o10.get m12
    have o11 := o11.get m12
    refine ⟨_, o9.is, wrV_bts b1, ?_⟩
    conv => whnf
    refine ⟨_, o10.is, wrV_bts b1, ?_⟩
    conv => whnf
    refine br_mk (fun _ => ?_) (fun hh => ?_)
    rotate_left
    · simp at hh
    conv => whnf
    refine br_mk (fun _ => ?_) (fun hh => ?_)
    rotate_left
    · simp at hh
    conv => whnf
    refine br_mk (fun _ => ?_) (fun hh => ?_)
    rotate_left
    · simp at hh
    conv => whnf
    refine ⟨_, o11.is, unV_bts b3, ?_⟩
    conv => whnf
    refine ⟨_, o12.is, unV_bts b3, ?_⟩
    conv => whnf
    refine br_mk (fun _ => ?_) (fun hh => ?_)
    rotate_left
    · simp at hh
    conv => whnf
    refine br_mk (fun _ => ?_) (fun hh => ?_)
    rotate_left
    · simp at hh
    conv => whnf
    refine (awake34 _).mono ?_
    rintro _ h' ⟨rfl, _⟩
    conv => whnf
end Go.Proofs.Ytnpfdppmpmnhbaa
