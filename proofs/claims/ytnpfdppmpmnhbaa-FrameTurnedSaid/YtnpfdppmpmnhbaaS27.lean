/- The law FrameBack. -/
import Derived.Test.YtnpfdppmpmnhbaaS26
set_option linter.unusedVariables false
namespace Go.Proofs.Ytnpfdppmpmnhbaa
open Go Go.Ab
theorem un_wr {x : Int} {xs : List Int} (h : xs.length ≤ 2000) : unV (frm 77 3 x xs) = (x, xs, 0) := by
  rw [un_frm h]
  rfl
theorem frm3_bts {x : Int} {xs : List Int} (h0 : 0 ≤ x) (h1 : x < 256) (hx : Bts xs) : Bts (frm 77 3 x xs) := frm_bts (by decide) (by decide) ⟨h0, h1⟩ hx
theorem frame8 {h : H} {p1 : Option (Nat × Nat)} {n1 : Nat} {xs : List Int} (x : Int) (o1 : Oct h p1 n1 xs) (b1 : Bts xs) (cut more : Int) (bm : 0 ≤ more ∧ more < 256) :
    ACalls Try.prog 8 [i64 x, .sl p1 n1, i64 cut, .int .u8 more] h (fun r _ => r = .bool true) := by
  have hl := o1.len
  subst hl
  refine call_ Try.func8 rfl rfl (by kernel_rfl) ?_
  conv => whnf
  refine br_mk (fun ha => ?_) (fun ha => ?_)
  · conv => whnf
    refine (awake34 h).mono ?_
    rintro _ h' ⟨rfl, _⟩
    conv => whnf
  conv => whnf
  simp at ha
  refine (round33 (m := 256) (by decide) (by decide) x h).mono ?_
  rintro _ h' ⟨eh, rfl⟩
  subst h'
  conv => whnf
  have k0 := Int.emod_nonneg x (show (256 : Int) ≠ 0 by decide)
  have k1 := Int.emod_lt_of_pos x (show (0 : Int) < 256 by decide)
  generalize x % 256 = k at *
  refine (wrap_ok o1.is k0 k1 (by omega)).mono ?_
  rintro _ h2 ⟨q2, rfl, o2, m2⟩
  conv => whnf
  refine ⟨_, rfl, ?_⟩
  conv => whnf
  refine ⟨_, rfl, ?_⟩
  conv => whnf
  have hfl := frm_length 77 3 k xs
  have bF := frm3_bts k0 k1 b1
  refine (un38 o2.is bF (by omega)).mono ?_
  rintro _ h3 ⟨q3, l3, rfl, o3, m3⟩
  rw [un_wr (by omega)] at o3 ⊢
  have l3' := o3.len
  have l3' : l3 = xs.length := l3'
  subst l3'
  have o3 : Oct h3 q3 xs.length xs := o3
  conv => whnf
  refine ⟨_, rfl, ?_⟩
  conv => whnf
  refine ⟨_, rfl, ?_⟩
  conv => whnf
  refine ⟨_, rfl, ?_⟩
  conv => whnf
  have o2 := o2.get m3
  refine (round33 (m := ((xs.length + 9 : Nat) : Int)) (by omega) (by omega) cut h3).mono ?_
  rintro _ h' ⟨eh, rfl⟩
  subst h'
  conv => whnf
  have c0 := Int.emod_nonneg cut (show ((xs.length + 9 : Nat) : Int) ≠ 0 by omega)
  have c1 := Int.emod_lt_of_pos cut (show (0 : Int) < ((xs.length + 9 : Nat) : Int) by omega)
  obtain ⟨r, hr⟩ := Int.eq_ofNat_of_zero_le c0
  refine ⟨⟨_, o2.is⟩, ?_⟩
  conv => whnf
  refine ⟨r, hr, Nat.zero_le _, by omega, ?_⟩
  conv => whnf
  refine (un38 (slo_cut o2.is (Nat.zero_le r) (by omega)) (bts_take bF _) (by omega)).mono ?_
  rintro _ h4 ⟨q4, l4, rfl, o4, m4⟩
  have e4 : ((frm 77 3 k xs).drop 0).take (r - 0) = (frm 77 3 k xs).take r := rfl
  rw [e4, un_cut (by omega) (by omega)]
  conv => whnf
  refine ⟨_, rfl, ?_⟩
  conv => whnf
  refine ⟨_, rfl, ?_⟩
  conv => whnf
  refine ⟨_, rfl, ?_⟩
  conv => whnf
  have o2 := o2.get m4
  have w0 := NewS.empty h4 .u8
  refine ⟨_, _, w0.1, SlIs.old o2.is w0.2.2 (fun _ _ k => k), by rw [T5b]; omega, by omega, fun p5 h5 hs5 hm5 hf5 => ?_⟩
  have w5 : NewS h4 h5 .u8 p5 (0 + (xs.length + 9)) ([] ++ frm 77 3 k xs) := w0.app hs5 hm5 hf5
  rw [List.nil_append] at w5
  clear hs5 hm5 hf5
  conv => whnf
  rw [oneRow]
  have mp := Mod.push none_ h5 (.row true 1 (ints .u8 [more]))
  have w6 := w5.keep mp
  refine ⟨_, _, w6.1, (SlIs.row (n := 1) (H.obj_push_new _ _) rfl).weak, by rw [T5b]; omega, by omega, fun p7 h7 hs7 hm7 hf7 => ?_⟩
  have w7 := w6.app hs7 hm7 hf7
  clear hs7 hm7 hf7
  conv => whnf
  refine (un38 w7.1.weak (bF.append (fun y hy => by
    rw [List.mem_singleton] at hy
    subst hy
    exact bm)) (by omega)).mono ?_
  rintro _ h8 ⟨q8, l8, rfl, o8, m8⟩
  rw [un_more (by omega)]
  conv => whnf
  refine ⟨_, rfl, ?_⟩
  conv => whnf
  refine ⟨_, rfl, ?_⟩
  conv => whnf
  refine ⟨_, rfl, ?_⟩
  conv => whnf
  refine br_mk (fun _ => ?_) (fun hh => ?_)
  rotate_left
  · simp at hh
  conv => whnf
  have o3 := ((o3.get m4).get w7.2.2).get m8
  have o1 := ((((o1.get m2).get m3).get m4).get w7.2.2).get m8
  refine ⟨_, o3.is, b1, ?_⟩
  conv => whnf
  refine ⟨_, o1.is, b1, ?_⟩
  conv => whnf
  refine br_mk (fun _ => ?_) (fun hh => ?_)
  rotate_left
  · simp at hh
  conv => whnf
  refine (awake34 _).mono ?_
  rintro _ h' ⟨rfl, _⟩
  conv => whnf
end Go.Proofs.Ytnpfdppmpmnhbaa
