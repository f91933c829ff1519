/- The law FrameVersions. -/
import Derived.Test.YtnpfdppmpmnhbaaS28
set_option linter.unusedVariables false
namespace Go.Proofs.Ytnpfdppmpmnhbaa
open Go Go.Ab
theorem frm_set1 (a b c v : Int) (xs : List Int) : ((frm a b c xs).set 1 v).take (xs.length + 5) = hd a v c xs.length ++ xs := by
  have e : (frm a b c xs).set 1 v = (hd a v c xs.length ++ xs) ++ sum4 (sumV (hd a b c xs.length ++ xs)) := rfl
  rw [e, List.take_append_of_le_length (by rw [List.length_append, hd_length]; omega)]
  exact List.take_of_length_le (by rw [List.length_append, hd_length]; omega)
theorem frm_set0 (a b c v : Int) (xs : List Int) : ((frm a b c xs).set 0 v).take (xs.length + 5) = hd v b c xs.length ++ xs := by
  have e : (frm a b c xs).set 0 v = (hd v b c xs.length ++ xs) ++ sum4 (sumV (hd a b c xs.length ++ xs)) := rfl
  rw [e, List.take_append_of_le_length (by rw [List.length_append, hd_length]; omega)]
  exact List.take_of_length_le (by rw [List.length_append, hd_length]; omega)
theorem frame10 {h : H} {p1 : Option (Nat × Nat)} {n1 : Nat} {xs : List Int} (x : Int) (o1 : Oct h p1 n1 xs) (b1 : Bts xs) {v f : Int} (bv : 0 ≤ v ∧ v < 256) (bf : 0 ≤ f ∧ f < 256) :
    ACalls Try.prog 10 [i64 x, .sl p1 n1, .int .u8 v, .int .u8 f] h (fun r _ => r = .bool true) := by
  have hl := o1.len
  subst hl
  refine call_ Try.func10 rfl rfl (by kernel_rfl) ?_
  conv => whnf
  refine br_mk (fun ha => ?_) (fun ha => ?_)
  · conv => whnf
    refine (awake34 _).mono ?_
    rintro _ h' ⟨rfl, _⟩
    conv => whnf
  conv => whnf
  simp at ha
  refine (round33 (m := 256) (by decide) (by decide) x _).mono ?_
  rintro _ h' ⟨eh, rfl⟩
  subst h'
  conv => whnf
  have k0 := Int.emod_nonneg x (show (256 : Int) ≠ 0 by decide)
  have k1 := Int.emod_lt_of_pos x (show (0 : Int) < 256 by decide)
  generalize x % 256 = k at *
  refine (wrap_ok o1.is k0 k1 (by omega)).mono ?_
  rintro _ h2 ⟨q2, rfl, o2, m2⟩
  have o1 := o1.get m2
  conv => whnf
  refine ⟨_, rfl, ?_⟩
  conv => whnf
  refine ⟨_, rfl, ?_⟩
  conv => whnf
  have hfl := frm_length 77 3 k xs
  have bF := frm3_bts k0 k1 b1
  refine ⟨fun env hh => ∃ (a : Nat) (z : Int), a ≤ 2 ∧ z = a ∧ Ab.Mod none_ h2 hh ∧ env = [(11, i64 z), (9, .sl q2 (xs.length + 9)), (3, .int .u8 f), (2, .int .u8 v), (1, .sl p1 xs.length)],
    fun env _ => match get env 11 with
      | .int _ z => (2 - z).toNat
      | _ => 0, ⟨_, Forget.cons rfl (Forget.cons rfl (Forget.cons rfl (Forget.cons rfl (Forget.cons rfl (Forget.nil _))))), 0, _, Nat.zero_le _, rfl, mod_refl _ _, rfl⟩, ?_⟩
  rintro _ h3 ⟨a, z, ha2, rfl, m3, rfl⟩
  conv => whnf
  refine br_mk (fun hc => ?_) (fun hc => ?_)
  rotate_left
  · conv => whnf
    refine (awake34 _).mono ?_
    rintro _ h' ⟨rfl, _⟩
    conv => whnf
  simp at hc
  conv => whnf
  have o3 := o2.get m3
  have o13 := o1.get m3
  have w0 := NewS.empty h3 .u8
  refine ⟨_, _, w0.1, SlIs.old o3.is w0.2.2 (fun _ _ k => k), by rw [T5b]; omega, by omega, fun p5 h5 hs5 hm5 hf5 => ?_⟩
  have w5 : NewS h3 h5 .u8 p5 (0 + (xs.length + 9)) ([] ++ frm 77 3 k xs) := w0.app hs5 hm5 hf5
  rw [List.nil_append] at w5
  clear hs5 hm5 hf5 w0
  conv => whnf
  rw [Nat.zero_add] at w5 ⊢
  have e4 : IntKind.i64.wrap (((xs.length + 9 : Nat) : Int) - 4) = ((xs.length + 5 : Nat) : Int) := by
    rw [wrap_i64 (by omega) (by omega)]
    omega
  have i1 : IntKind.i64.wrap (((xs.length + 5 : Nat) : Int) + 1) = ((xs.length + 5 + 1 : Nat) : Int) := wrap_i64 (by omega) (by omega)
  have i2 : IntKind.i64.wrap (((xs.length + 5 : Nat) : Int) + 2) = ((xs.length + 5 + 2 : Nat) : Int) := wrap_i64 (by omega) (by omega)
  have i3 : IntKind.i64.wrap (((xs.length + 5 : Nat) : Int) + 3) = ((xs.length + 5 + 3 : Nat) : Int) := wrap_i64 (by omega) (by omega)
  refine br_mk (fun hd => ?_) (fun hd => ?_)
  simp at hd
  obtain rfl : a = 0 := by omega
  conv => whnf
  have e := frm_set1 77 3 k v xs
  obtain ⟨i, c, sz, ces, rfl, g4, l4, w4⟩ := w5.put (j := 1) (by omega) v
  refine ⟨_, _, 1, rfl, rfl, by omega, ?_⟩
  rotate_left
  simp at hd
  obtain rfl : a = 1 := by omega
  conv => whnf
  have e := frm_set0 77 3 k f xs
  obtain ⟨i, c, sz, ces, rfl, g4, l4, w4⟩ := w5.put (j := 0) (by omega) f
  refine ⟨_, _, 0, rfl, rfl, by omega, ?_⟩
  rotate_left
  all_goals
    have hset : ((frm 77 3 k xs).set 1 v).length = xs.length + 9 ∧ ((frm 77 3 k xs).set 0 f).length = xs.length + 9 := by
      rw [List.length_set, List.length_set]
      exact ⟨hfl, hfl⟩
    conv => whnf
    refine ⟨_, _, g4, l4, ?_⟩
    conv => whnf
    rw [e4]
    refine ⟨⟨_, w4.1.weak⟩, ?_⟩
    conv => whnf
    refine ⟨xs.length + 5, rfl, Nat.zero_le _, by omega, ?_⟩
    conv => whnf
    refine (sum35 (slo_cut w4.1.weak (Nat.zero_le (xs.length + 5)) (by omega)) (by omega)).mono ?_
    rintro _ h' ⟨eh, rfl⟩
    subst h'
    conv => whnf
    rw [List.drop_zero, Nat.sub_zero, e]
    refine ⟨by decide, ?_⟩
    conv => whnf
    refine ⟨by decide, ?_⟩
    conv => whnf
    refine ⟨by decide, ?_⟩
    conv => whnf
    generalize hcs : sumV (_ ++ xs) = cs
    obtain ⟨i', c', sz, ces, ee, g4, l4, w4⟩ := w4.put (j := xs.length + 5) (by omega) (shc cs 24)
    injection ee with ee
    injection ee with ee1 ee2
    subst ee1 ee2
    refine ⟨_, _, xs.length + 5, rfl, rfl, by omega, ?_⟩
    conv => whnf
    refine ⟨_, _, g4, l4, ?_⟩
    conv => whnf
    obtain ⟨i', c', sz, ces, ee, g4, l4, w4⟩ := w4.put (j := xs.length + 5 + 1) (by omega) (shc cs 16)
    injection ee with ee
    injection ee with ee1 ee2
    subst ee1 ee2
    refine ⟨_, _, xs.length + 5 + 1, rfl, i1, by omega, ?_⟩
    conv => whnf
    refine ⟨_, _, g4, l4, ?_⟩
    conv => whnf
    obtain ⟨i', c', sz, ces, ee, g4, l4, w4⟩ := w4.put (j := xs.length + 5 + 2) (by omega) (shc cs 8)
    injection ee with ee
    injection ee with ee1 ee2
    subst ee1 ee2
    refine ⟨_, _, xs.length + 5 + 2, rfl, i2, by omega, ?_⟩
    conv => whnf
    refine ⟨_, _, g4, l4, ?_⟩
    conv => whnf
    obtain ⟨i', c', sz, ces, ee, g4, l4, w4⟩ := w4.put (j := xs.length + 5 + 3) (by omega) (IntKind.u8.wrap cs)
    injection ee with ee
    injection ee with ee1 ee2
    subst ee1 ee2
    refine ⟨_, _, xs.length + 5 + 3, rfl, i3, by omega, ?_⟩
    conv => whnf
    refine ⟨_, _, g4, l4, ?_⟩
    conv => whnf
    rw [set4 (by omega), e] at w4
    subst cs
    have m4 := w4.2.2
  · have w4 : SlIs _ _ _ true 1 (ints .u8 (frm 77 v k xs)) := w4.1
    refine (un38 w4.weak (frm_bts (by decide) bv ⟨k0, k1⟩ b1) (by omega)).mono ?_
    rintro _ h6 ⟨q6, l6, rfl, o6, m6⟩
    rw [un_frm (by omega), if_neg (show ¬ (((77 : Int) != 77) = true) by decide)] at o6 ⊢
    have o13 := (o13.get m4).get m6
    have m36 := mod_none (mod_none m3 m4) m6
    by_cases hv : v = 3
    · subst hv
      have := o6.len
      subst this
      conv => whnf
      refine ⟨_, rfl, ?_⟩
      conv => whnf
      refine ⟨_, rfl, ?_⟩
      conv => whnf
      refine ⟨_, rfl, ?_⟩
      conv => whnf
      have o6 : Oct h6 q6 xs.length xs := o6
      refine ⟨_, o6.is, b1, ?_⟩
      conv => whnf
      refine ⟨_, o13.is, b1, ?_⟩
      conv => whnf
      refine br_mk (fun hh => ?_) (fun hh => ?_)
      · simp at hh
      conv => whnf
      refine ⟨_, Forget.cons rfl (Forget.cons rfl (Forget.cons rfl (Forget.cons rfl (Forget.cons rfl (Forget.nil _))))), ⟨1, _, by decide, rfl, m36, rfl⟩, ?_⟩
      exact (show (1 : Nat) < 2 from Nat.lt_succ_self 1)
    · have he : (v != 3) = true := by simp [hv]
      rw [he, if_pos rfl] at o6 ⊢
      have := o6.len
      subst this
      conv => whnf
      refine ⟨_, rfl, ?_⟩
      conv => whnf
      refine ⟨_, rfl, ?_⟩
      conv => whnf
      refine ⟨_, rfl, ?_⟩
      conv => whnf
      refine br_mk (fun _ => ?_) (fun hh => ?_)
      rotate_left
      · rw [he] at hh
        cases hh
      conv => whnf
      refine ⟨_, Forget.cons rfl (Forget.cons rfl (Forget.cons rfl (Forget.cons rfl (Forget.cons rfl (Forget.nil _))))), ⟨1, _, by decide, rfl, m36, rfl⟩, ?_⟩
      exact (show (1 : Nat) < 2 from Nat.lt_succ_self 1)
  · have w4 : SlIs _ _ _ true 1 (ints .u8 (frm f 3 k xs)) := w4.1
    refine (un38 w4.weak (frm_bts bf (by decide) ⟨k0, k1⟩ b1) (by omega)).mono ?_
    rintro _ h6 ⟨q6, l6, rfl, o6, m6⟩
    rw [un_frm (by omega)] at o6 ⊢
    have o13 := (o13.get m4).get m6
    have m36 := mod_none (mod_none m3 m4) m6
    by_cases hv : f = 77
    · subst hv
      have := o6.len
      subst this
      conv => whnf
      refine ⟨_, rfl, ?_⟩
      conv => whnf
      refine ⟨_, rfl, ?_⟩
      conv => whnf
      refine ⟨_, rfl, ?_⟩
      conv => whnf
      have o6 : Oct h6 q6 xs.length xs := o6
      refine ⟨_, o6.is, b1, ?_⟩
      conv => whnf
      refine ⟨_, o13.is, b1, ?_⟩
      conv => whnf
      refine br_mk (fun hh => ?_) (fun hh => ?_)
      · simp at hh
      conv => whnf
      refine ⟨_, Forget.cons rfl (Forget.cons rfl (Forget.cons rfl (Forget.cons rfl (Forget.cons rfl (Forget.nil _))))), ⟨2, _, by decide, rfl, m36, rfl⟩, ?_⟩
      exact (show (0 : Nat) < 1 from Nat.lt_succ_self 0)
    · have he : (f != 77) = true := by simp [hv]
      rw [he, if_pos rfl] at o6 ⊢
      have := o6.len
      subst this
      conv => whnf
      refine ⟨_, rfl, ?_⟩
      conv => whnf
      refine ⟨_, rfl, ?_⟩
      conv => whnf
      refine ⟨_, rfl, ?_⟩
      conv => whnf
      refine br_mk (fun _ => ?_) (fun hh => ?_)
      rotate_left
      · rw [he] at hh
        cases hh
      conv => whnf
      refine ⟨_, Forget.cons rfl (Forget.cons rfl (Forget.cons rfl (Forget.cons rfl (Forget.cons rfl (Forget.nil _))))), ⟨2, _, by decide, rfl, m36, rfl⟩, ?_⟩
      exact (show (0 : Nat) < 1 from Nat.lt_succ_self 0)
end Go.Proofs.Ytnpfdppmpmnhbaa
