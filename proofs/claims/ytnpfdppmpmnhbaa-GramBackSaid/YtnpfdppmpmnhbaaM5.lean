/- M5: several texts in one. -/
import Derived.Test.YtnpfdppmpmnhbaaM4
set_option linter.unusedVariables false
/-! The law FrameTells. -/
namespace Go.Proofs.Ytnpfdppmpmnhbaa
open Go Go.Ab
theorem wrV_bts {x : Int} {xs : List Int} (hb : Bts xs) : Bts (wrV x xs) := by
  unfold wrV
  split
  · exact fun _ k => by cases k
  · rw [wrOk_frm]
    exact frm_bts (by decide) (by decide) (wrap_u8 _) hb
theorem wrV_len {x : Int} {xs : List Int} : (wrV x xs).length ≤ xs.length + 9 := by
  unfold wrV
  split
  · exact Nat.zero_le _
  · rw [wrOk_frm, frm_length]
    exact Nat.le_refl _
theorem unV_bts {xs : List Int} (hb : Bts xs) : Bts (unV xs).2.1 := by
  unfold unV
  split
  · exact fun _ k => by cases k
  · split
    · exact fun _ k => by cases k
    · split
      · exact fun _ k => by cases k
      · exact bts_take (bts_drop hb 5) _
theorem frame7 {h : H} {p1 p2 : Option (Nat × Nat)} {n1 n2 : Nat} {xs rs : List Int} (x : Int) (o1 : Oct h p1 n1 xs) (b1 : Bts xs) (o2 : Oct h p2 n2 rs) (b2 : Bts rs) (fix : Bool) :
    ACalls Try.prog 7 [i64 x, .sl p1 n1, .sl p2 n2, .bool fix] h (fun r _ => r = .bool true) := by
  have hl := o1.len
  subst hl
  have hl := o2.len
  subst hl
  refine call_ Try.func7 rfl rfl (by kernel_rfl) ?_
  conv => whnf
  refine br_mk (fun ha => ?_) (fun ha => ?_)
  · conv => whnf
    refine (awake34 h).mono ?_
    rintro _ h' ⟨rfl, _⟩
    conv => whnf
  conv => whnf
  refine br_mk (fun hb => ?_) (fun hb => ?_)
  · conv => whnf
    refine (awake34 h).mono ?_
    rintro _ h' ⟨rfl, _⟩
    conv => whnf
  conv => whnf
  simp at ha hb
  refine br_mk (fun hc => ?_) (fun hc => ?_)
  conv => whnf
  refine br_mk (fun hd => ?_) (fun hd => ?_)
  conv => whnf
  simp at hd
  have w0 := NewS.empty h .u8
  refine ⟨_, _, w0.1, SlIs.old o2.is w0.2.2 (fun _ _ k => k), by rw [T5b]; omega, by omega, fun p3 h3 hs3 hm3 hf3 => ?_⟩
  have w3 : NewS h h3 .u8 p3 (0 + rs.length) ([] ++ rs) := w0.app hs3 hm3 hf3
  conv => whnf
  rw [Nat.zero_add] at w3 ⊢
  rw [List.nil_append] at w3
  clear hs3 hm3 hf3
  obtain ⟨N, hN⟩ : ∃ N, rs.length = N + 4 := ⟨rs.length - 4, by omega⟩
  have e4 : IntKind.i64.wrap ((rs.length : Int) - 4) = (N : Int) := by
    rw [wrap_i64 (by omega) (by omega)]
    omega
  rw [e4]
  refine ⟨⟨_, w3.1.weak⟩, ?_⟩
  conv => whnf
  refine ⟨N, rfl, Nat.zero_le _, by omega, ?_⟩
  conv => whnf
  refine (sum35 (slo_cut w3.1.weak (Nat.zero_le N) (by omega)) (by omega)).mono ?_
  rintro _ h' ⟨eh, rfl⟩
  subst h'
  conv => whnf
  rw [show (rs.drop 0).take (N - 0) = rs.take N from rfl]
  generalize hcs : sumV (rs.take N) = cs
  have i1 : IntKind.i64.wrap ((N : Int) + 1) = ((N + 1 : Nat) : Int) := wrap_i64 (by omega) (by omega)
  have i2 : IntKind.i64.wrap ((N : Int) + 2) = ((N + 2 : Nat) : Int) := wrap_i64 (by omega) (by omega)
  have i3 : IntKind.i64.wrap ((N : Int) + 3) = ((N + 3 : Nat) : Int) := wrap_i64 (by omega) (by omega)
  refine ⟨by decide, ?_⟩
  conv => whnf
  refine ⟨by decide, ?_⟩
  conv => whnf
  refine ⟨by decide, ?_⟩
  conv => whnf
  obtain ⟨i, c, sz, ces, rfl, g4, l4, w4⟩ := w3.put (j := N) (by omega) (shc cs 24)
  refine ⟨_, _, N, rfl, rfl, by omega, ?_⟩
  conv => whnf
  refine ⟨_, _, g4, l4, ?_⟩
  conv => whnf
  obtain ⟨i', c', sz, ces, e, g5, l5, w5⟩ := w4.put (j := N + 1) (by omega) (shc cs 16)
  injection e with e
  injection e with e1 e2
  subst e1 e2
  refine ⟨_, _, N + 1, rfl, i1, by omega, ?_⟩
  conv => whnf
  refine ⟨_, _, g5, l5, ?_⟩
  conv => whnf
  obtain ⟨i', c', sz, ces, e, g6, l6, w6⟩ := w5.put (j := N + 2) (by omega) (shc cs 8)
  injection e with e
  injection e with e1 e2
  subst e1 e2
  refine ⟨_, _, N + 2, rfl, i2, by omega, ?_⟩
  conv => whnf
  refine ⟨_, _, g6, l6, ?_⟩
  conv => whnf
  obtain ⟨i', c', sz, ces, e, g7, l7, w7⟩ := w6.put (j := N + 3) (by omega) (IntKind.u8.wrap cs)
  injection e with e
  injection e with e1 e2
  subst e1 e2
  refine ⟨_, _, N + 3, rfl, i3, by omega, ?_⟩
  conv => whnf
  refine ⟨_, _, g7, l7, ?_⟩
  conv => whnf
  rw [set4 hN] at w7
  have b3 : Bts (rs.take N ++ [shc cs 24, shc cs 16, shc cs 8, IntKind.u8.wrap cs]) := (bts_take b2 N).append (sum4_bts cs)
  have w8 := w7.1.weak
  have m8 := w7.2.2
  clear w3 w4 w5 w6 w7 g4 g5 g6 g7 l4 l5 l6 l7
  have hb8 : rs.length ≤ 2100 := by omega
  generalize rs.take N ++ [shc cs 24, shc cs 16, shc cs 8, IntKind.u8.wrap cs] = ys at *
  clear o2 b2
  rotate_left
  conv => whnf
  have m8 := mod_refl none_ h
  have w8 := o2.is
  have b3 := b2
  have hb8 : rs.length ≤ 2100 := by omega
  rotate_left
  conv => whnf
  have m8 := mod_refl none_ h
  have w8 := o2.is
  have b3 := b2
  have hb8 : rs.length ≤ 2100 := by omega
  rotate_left
  all_goals
    refine (wrap36 (SlIs.old o1.is m8 (fun _ _ k => k)) (by unfold maxLen; omega) x).mono ?_
    rintro _ h9 ⟨q9, rfl, o9, m9⟩
    conv => whnf
    refine ⟨_, rfl, ?_⟩
    conv => whnf
    refine ⟨_, rfl, ?_⟩
    conv => whnf
    have m8 := mod_none m8 m9
    have w8 := SlIs.old w8 m9 (fun _ _ k => k)
    refine (wrap37 (SlIs.old o1.is m8 (fun _ _ k => k)) (by unfold maxLen; omega) x).mono ?_
    rintro _ h10 ⟨q10, rfl, o10, m10⟩
    conv => whnf
    refine ⟨_, rfl, ?_⟩
    conv => whnf
    refine ⟨_, rfl, ?_⟩
    conv => whnf
    have o9 := o9.get m10
    have w8 := SlIs.old w8 m10 (fun _ _ k => k)
    refine (un38 w8 b3 (by omega)).mono ?_
    rintro _ h11 ⟨q11, l11, rfl, o11, m11⟩
    conv => whnf
    refine ⟨_, rfl, ?_⟩
    conv => whnf
    refine ⟨_, rfl, ?_⟩
    conv => whnf
    refine ⟨_, rfl, ?_⟩
    conv => whnf
    have o9 := o9.get m11
    have o10 := o10.get m11
    have w8 := SlIs.old w8 m11 (fun _ _ k => k)
    refine (un39 w8 b3 (by omega)).mono ?_
    rintro _ h12 ⟨q12, l12, rfl, o12, m12⟩
    conv => whnf
    refine ⟨_, rfl, ?_⟩
    conv => whnf
    refine ⟨_, rfl, ?_⟩
    conv => whnf
    refine ⟨_, rfl, ?_⟩
    conv => whnf
    have o9 := o9.get m12
    have o10 := o10.get m12
    have o11 := o11.get m12
    refine ⟨_, o9.is, wrV_bts b1, ?_⟩
    conv => whnf
    refine ⟨_, o10.is, wrV_bts b1, ?_⟩
    conv => whnf
    refine br_mk (fun _ => ?_) (fun hh => ?_)
    rotate_left
    · simp at hh
    conv => whnf
    refine br_mk (fun _ => ?_) (fun hh => ?_)
    rotate_left
    · simp at hh
    conv => whnf
    refine br_mk (fun _ => ?_) (fun hh => ?_)
    rotate_left
    · simp at hh
    conv => whnf
    refine ⟨_, o11.is, unV_bts b3, ?_⟩
    conv => whnf
    refine ⟨_, o12.is, unV_bts b3, ?_⟩
    conv => whnf
    refine br_mk (fun _ => ?_) (fun hh => ?_)
    rotate_left
    · simp at hh
    conv => whnf
    refine br_mk (fun _ => ?_) (fun hh => ?_)
    rotate_left
    · simp at hh
    conv => whnf
    refine (awake34 _).mono ?_
    rintro _ h' ⟨rfl, _⟩
    conv => whnf
end Go.Proofs.Ytnpfdppmpmnhbaa
/-! The law FrameBack. -/
namespace Go.Proofs.Ytnpfdppmpmnhbaa
open Go Go.Ab
theorem un_wr {x : Int} {xs : List Int} (h : xs.length ≤ 2000) : unV (frm 77 3 x xs) = (x, xs, 0) := by
  rw [un_frm h]
  rfl
theorem frm3_bts {x : Int} {xs : List Int} (h0 : 0 ≤ x) (h1 : x < 256) (hx : Bts xs) : Bts (frm 77 3 x xs) := frm_bts (by decide) (by decide) ⟨h0, h1⟩ hx
theorem frame8 {h : H} {p1 : Option (Nat × Nat)} {n1 : Nat} {xs : List Int} (x : Int) (o1 : Oct h p1 n1 xs) (b1 : Bts xs) (cut more : Int) (bm : 0 ≤ more ∧ more < 256) :
    ACalls Try.prog 8 [i64 x, .sl p1 n1, i64 cut, .int .u8 more] h (fun r _ => r = .bool true) := by
  have hl := o1.len
  subst hl
  refine call_ Try.func8 rfl rfl (by kernel_rfl) ?_
  conv => whnf
  refine br_mk (fun ha => ?_) (fun ha => ?_)
  · conv => whnf
    refine (awake34 h).mono ?_
    rintro _ h' ⟨rfl, _⟩
    conv => whnf
  conv => whnf
  simp at ha
  refine (round33 (m := 256) (by decide) (by decide) x h).mono ?_
  rintro _ h' ⟨eh, rfl⟩
  subst h'
  conv => whnf
  have k0 := Int.emod_nonneg x (show (256 : Int) ≠ 0 by decide)
  have k1 := Int.emod_lt_of_pos x (show (0 : Int) < 256 by decide)
  generalize x % 256 = k at *
  refine (wrap_ok o1.is k0 k1 (by omega)).mono ?_
  rintro _ h2 ⟨q2, rfl, o2, m2⟩
  conv => whnf
  refine ⟨_, rfl, ?_⟩
  conv => whnf
  refine ⟨_, rfl, ?_⟩
  conv => whnf
  have hfl := frm_length 77 3 k xs
  have bF := frm3_bts k0 k1 b1
  refine (un38 o2.is bF (by omega)).mono ?_
  rintro _ h3 ⟨q3, l3, rfl, o3, m3⟩
  rw [un_wr (by omega)] at o3 ⊢
  have l3' := o3.len
  have l3' : l3 = xs.length := l3'
  subst l3'
  have o3 : Oct h3 q3 xs.length xs := o3
  conv => whnf
  refine ⟨_, rfl, ?_⟩
  conv => whnf
  refine ⟨_, rfl, ?_⟩
  conv => whnf
  refine ⟨_, rfl, ?_⟩
  conv => whnf
  have o2 := o2.get m3
  refine (round33 (m := ((xs.length + 9 : Nat) : Int)) (by omega) (by omega) cut h3).mono ?_
  rintro _ h' ⟨eh, rfl⟩
  subst h'
  conv => whnf
  have c0 := Int.emod_nonneg cut (show ((xs.length + 9 : Nat) : Int) ≠ 0 by omega)
  have c1 := Int.emod_lt_of_pos cut (show (0 : Int) < ((xs.length + 9 : Nat) : Int) by omega)
  obtain ⟨r, hr⟩ := Int.eq_ofNat_of_zero_le c0
  refine ⟨⟨_, o2.is⟩, ?_⟩
  conv => whnf
  refine ⟨r, hr, Nat.zero_le _, by omega, ?_⟩
  conv => whnf
  refine (un38 (slo_cut o2.is (Nat.zero_le r) (by omega)) (bts_take bF _) (by omega)).mono ?_
  rintro _ h4 ⟨q4, l4, rfl, o4, m4⟩
  have e4 : ((frm 77 3 k xs).drop 0).take (r - 0) = (frm 77 3 k xs).take r := rfl
  rw [e4, un_cut (by omega) (by omega)]
  conv => whnf
  refine ⟨_, rfl, ?_⟩
  conv => whnf
  refine ⟨_, rfl, ?_⟩
  conv => whnf
  refine ⟨_, rfl, ?_⟩
  conv => whnf
  have o2 := o2.get m4
  have w0 := NewS.empty h4 .u8
  refine ⟨_, _, w0.1, SlIs.old o2.is w0.2.2 (fun _ _ k => k), by rw [T5b]; omega, by omega, fun p5 h5 hs5 hm5 hf5 => ?_⟩
  have w5 : NewS h4 h5 .u8 p5 (0 + (xs.length + 9)) ([] ++ frm 77 3 k xs) := w0.app hs5 hm5 hf5
  rw [List.nil_append] at w5
  clear hs5 hm5 hf5
  conv => whnf
  rw [oneRow]
  have mp := Mod.push none_ h5 (.row true 1 (ints .u8 [more]))
  have w6 := w5.keep mp
  refine ⟨_, _, w6.1, (SlIs.row (n := 1) (H.obj_push_new _ _) rfl).weak, by rw [T5b]; omega, by omega, fun p7 h7 hs7 hm7 hf7 => ?_⟩
  have w7 := w6.app hs7 hm7 hf7
  clear hs7 hm7 hf7
  conv => whnf
  refine (un38 w7.1.weak (bF.append (fun y hy => by
    rw [List.mem_singleton] at hy
    subst hy
    exact bm)) (by omega)).mono ?_
  rintro _ h8 ⟨q8, l8, rfl, o8, m8⟩
  rw [un_more (by omega)]
  conv => whnf
  refine ⟨_, rfl, ?_⟩
  conv => whnf
  refine ⟨_, rfl, ?_⟩
  conv => whnf
  refine ⟨_, rfl, ?_⟩
  conv => whnf
  refine br_mk (fun _ => ?_) (fun hh => ?_)
  rotate_left
  · simp at hh
  conv => whnf
  have o3 := ((o3.get m4).get w7.2.2).get m8
  have o1 := ((((o1.get m2).get m3).get m4).get w7.2.2).get m8
  refine ⟨_, o3.is, b1, ?_⟩
  conv => whnf
  refine ⟨_, o1.is, b1, ?_⟩
  conv => whnf
  refine br_mk (fun _ => ?_) (fun hh => ?_)
  rotate_left
  · simp at hh
  conv => whnf
  refine (awake34 _).mono ?_
  rintro _ h' ⟨rfl, _⟩
  conv => whnf
end Go.Proofs.Ytnpfdppmpmnhbaa
/-! The law FrameTurned. -/
namespace Go.Proofs.Ytnpfdppmpmnhbaa
open Go Go.Ab
theorem un_turn3 {x : Int} {xs : List Int} (h : xs.length ≤ 400) (h0 : 0 ≤ x) (h1 : x < 256) (bx : Bts xs) {a b d : Nat} (ha : a / 8 < xs.length + 9) (hb : b / 8 < xs.length + 9) (hd : d / 8 < xs.length + 9)
    (hne : turn1 (turn1 (turn1 (frm 77 3 x xs) a) b) d ≠ frm 77 3 x xs) : unV (turn1 (turn1 (turn1 (frm 77 3 x xs) a) b) d) = (0, [], 2) := by
  have hlF := frm_length 77 3 x xs
  have bF := frm3_bts h0 h1 bx
  have hn : unN (turn1 (turn1 (turn1 (frm 77 3 x xs) a) b) d) = xs.length := by
    rw [unN, turn1_head.1, turn1_head.1, turn1_head.1, turn1_head.2, turn1_head.2, turn1_head.2]
    exact frm_n (by omega)
  have hlC : (turn1 (turn1 (turn1 (frm 77 3 x xs) a) b) d).length = xs.length + 9 := by
    rw [turn1_length, turn1_length, turn1_length, hlF]
  have bC := turn1_bts (turn1_bts (turn1_bts bF a) b) d
  rw [unV, if_pos]
  rw [hn]
  have : (sum4 (sumV ((turn1 (turn1 (turn1 (frm 77 3 x xs) a) b) d).take (xs.length + 5))) != (turn1 (turn1 (turn1 (frm 77 3 x xs) a) b) d).drop (xs.length + 5)) = true := by
    rw [bne_iff_ne]
    intro e
    have h3 := (syn_iff (by omega) bC).1 e
    have h00 : syn (frm 77 3 x xs) (xs.length + 5) = 0#32 := (syn_iff (by omega) bF).1 (by rw [frm_take, frm_drop])
    exact hne (turn3 (m := xs.length + 5) (by omega) (by omega) bF (by omega) (by omega) (by omega) h00 h3)
  rw [this, Bool.or_true]
theorem foldl_turn_len (ks : List Nat) : ∀ c : List Int, (ks.foldl turn1 c).length = c.length := by
  induction ks with
  | nil => exact fun _ => rfl
  | cons k ks ih => exact fun c => by rw [List.foldl_cons, ih, turn1_length]
theorem foldl_turn_bts (ks : List Nat) : ∀ c : List Int, Bts c → Bts (ks.foldl turn1 c) := by
  induction ks with
  | nil => exact fun _ h => h
  | cons k ks ih => exact fun c h => ih _ (turn1_bts h k)
theorem foldl_take_succ {α : Type} (f : α → Nat → α) (z : α) {ks : List Nat} {j : Nat} (hj : j < ks.length) : (ks.take (j + 1)).foldl f z = f ((ks.take j).foldl f z) (ks.getD j 0) := by
  rw [List.take_add_one, List.foldl_append, List.getElem?_eq_getElem hj, List.getD_eq_getElem?_getD, List.getElem?_eq_getElem hj]
  rfl
theorem tdiv8 (k : Nat) (hk : k < 1000000) : IntKind.i64.wrap ((k : Int).tdiv 8) = ((k / 8 : Nat) : Int) := by
  have e : (k : Int).tdiv 8 = ((k / 8 : Nat) : Int) := rfl
  rw [e, wrap_i64 (by omega) (by omega)]
theorem tmod8 (k : Nat) : (k : Int).tmod 8 = ((k % 8 : Nat) : Int) := rfl
theorem skips_yes {k : Nat} (h : k / 8 = 3 ∨ k / 8 = 4) : skips k = true := by
  unfold skips
  rcases h with h | h <;> rw [h] <;> rfl
theorem skips_no {k : Nat} (h3 : k / 8 ≠ 3) (h4 : k / 8 ≠ 4) : skips k = false := by
  have key : ∀ n, k / 8 ≠ n → Nat.beq (k / 8) n = false := fun n hn => by
    cases e : Nat.beq (k / 8) n with
    | false => rfl
    | true => exact absurd (Nat.eq_of_beq_eq_true e) hn
  unfold skips
  rw [key 3 h3, key 4 h4]
  rfl
theorem frame9 {h : H} {p1 : Option (Nat × Nat)} {n1 : Nat} {xs : List Int} (x : Int) (o1 : Oct h p1 n1 xs) (b1 : Bts xs) (l0 l1 l2 : Int) :
    ACalls Try.prog 9 [i64 x, .sl p1 n1, .agg [i64 l0, i64 l1, i64 l2]] h (fun r _ => r = .bool true) := by
  have hl := o1.len
  subst hl
  refine call_ Try.func9 rfl rfl (by kernel_rfl) ?_
  conv => whnf
  refine br_mk (fun ha => ?_) (fun ha => ?_)
  · conv => whnf
    refine (awake34 _).mono ?_
    rintro _ h' ⟨rfl, _⟩
    conv => whnf
  conv => whnf
  simp at ha
  have mb := Mod.push none_ h (.row true 3 [i64 l0, i64 l1, i64 l2])
  have gb : (h.push (.row true 3 [i64 l0, i64 l1, i64 l2])).obj h.next = some (.row true 3 [i64 l0, i64 l1, i64 l2]) := H.obj_push_new _ _
  have o1 := o1.get mb
  have hg : h.next < (h.push (.row true 3 [i64 l0, i64 l1, i64 l2])).next := Nat.lt_succ_self _
  refine (round33 (m := 256) (by decide) (by decide) x _).mono ?_
  rintro _ h' ⟨eh, rfl⟩
  subst h'
  conv => whnf
  have k0 := Int.emod_nonneg x (show (256 : Int) ≠ 0 by decide)
  have k1 := Int.emod_lt_of_pos x (show (0 : Int) < 256 by decide)
  generalize x % 256 = k at *
  refine (wrap_ok o1.is k0 k1 (by omega)).mono ?_
  rintro _ h2 ⟨q2, rfl, o2, m2⟩
  have gb := m2.get gb (.inl (fun k => k))
  have hg := Nat.lt_of_lt_of_le hg m2.next
  have o1 := o1.get m2
  generalize h.next = g at *
  clear mb m2
  conv => whnf
  refine ⟨_, rfl, ?_⟩
  conv => whnf
  refine ⟨_, rfl, ?_⟩
  conv => whnf
  have hfl := frm_length 77 3 k xs
  have bF := frm3_bts k0 k1 b1
  have w0 := NewS.empty h2 .u8
  refine ⟨_, _, w0.1, SlIs.old o2.is w0.2.2 (fun _ _ k => k), by rw [T5b]; omega, by omega, fun p5 h5 hs5 hm5 hf5 => ?_⟩
  have w5 : NewS h2 h5 .u8 p5 (0 + (xs.length + 9)) ([] ++ frm 77 3 k xs) := w0.app hs5 hm5 hf5
  rw [List.nil_append] at w5
  clear hs5 hm5 hf5 w0
  conv => whnf
  rw [Nat.zero_add] at w5 ⊢
  generalize hF : frm 77 3 k xs = F at *
  let m : Int := ((8 * (xs.length + 9) : Nat) : Int)
  have hm : m = ((8 * (xs.length + 9) : Nat) : Int) := rfl
  have hm0 : 0 < m := by omega
  let ks : List Nat := [(l0 % m).toNat, (l1 % m).toNat, (l2 % m).toNat]
  have hks : ∀ j, j < 3 → (([l0, l1, l2] : List Int).getD j 0 % m) = (ks.getD j 0 : Int) ∧ ks.getD j 0 < 8 * (xs.length + 9) := by
    have key : ∀ l : Int, l % m = ((l % m).toNat : Int) ∧ (l % m).toNat < 8 * (xs.length + 9) := fun l => by
      have e0 := Int.emod_nonneg l (show m ≠ 0 by omega)
      have e1 := Int.emod_lt_of_pos l hm0
      omega
    intro j hj
    match j, hj with
    | 0, _ => exact key l0
    | 1, _ => exact key l1
    | 2, _ => exact key l2
  refine ⟨fun env hh => ∃ (a : Nat) (z : Int), a ≤ 3 ∧ z = a ∧ NewS h2 hh .u8 p5 (xs.length + 9) ((ks.take a).foldl turn1 F) ∧ env = [(10, i64 z), (9, .sl p5 (xs.length + 9)), (7, .sl q2 (xs.length + 9)), (5, .ptr (some (g, 0)))],
    fun env _ => match get env 10 with
      | .int _ z => (3 - z).toNat
      | _ => 0, ⟨_, Forget.cons rfl (Forget.cons rfl (Forget.cons rfl (Forget.cons rfl (Forget.nil _)))), 0, _, Nat.zero_le _, rfl, w5, rfl⟩, ?_⟩
  clear w5
  rintro _ h6 ⟨a, z, ha3, rfl, w6, rfl⟩
  have gb6 := w6.2.2.get gb (.inl (fun k => k))
  have hl6 := foldl_turn_len (ks.take a) F
  have bl6 := foldl_turn_bts (ks.take a) F bF
  conv => whnf
  refine br_mk (fun hc => ?_) (fun hc => ?_)
  · simp at hc
    conv => whnf
    refine ⟨a, rfl, by omega, ?_⟩
    conv => whnf
    refine ⟨_, Cell.mk (v := i64 (([l0, l1, l2] : List Int).getD a 0)) gb6 ?_, ?_⟩
    · match a, hc with
      | 0, _ => rfl
      | 1, _ => rfl
      | 2, _ => rfl
    conv => whnf
    rw [wrap_i64 (x := 8 * ((xs.length + 9 : Nat) : Int)) (by omega) (by omega), show 8 * ((xs.length + 9 : Nat) : Int) = m by omega]
    refine (round33 (m := m) hm0 (by omega) _ h6).mono ?_
    rintro _ h' ⟨eh, rfl⟩
    subst h'
    obtain ⟨e1, e2⟩ := hks a (by omega)
    rw [e1]
    generalize hkn : ks.getD a 0 = kn at *
    conv => whnf
    have t8 := tdiv8 kn (by omega)
    refine ⟨by decide, ?_⟩
    conv => whnf
    rw [t8]
    have hr := foldl_take_succ turn1 F (ks := ks) (j := a) (by
      show a < 3
      omega)
    rw [hkn] at hr
    have hs2 := succ_i64 (j := a) (n := 3) (by omega) (by omega)
    have hmu : ((3 : Int) - ((a + 1 : Nat) : Int)).toNat < ((3 : Int) - (a : Int)).toNat := by omega
    refine br_mk (fun hd => ?_) (fun hd => ?_)
    · conv => whnf
      have hsk : skips kn = true := by
        simp at hd
        exact skips_yes (by omega)
      have e6 : turn1 ((ks.take a).foldl turn1 F) kn = (ks.take a).foldl turn1 F := by
        unfold turn1
        rw [hsk]
        rfl
      rw [hs2]
      refine ⟨_, Forget.cons rfl (Forget.cons rfl (Forget.cons rfl (Forget.cons rfl (Forget.nil _)))), ⟨a + 1, _, by omega, rfl, ?_, rfl⟩, hmu⟩
      rw [hr, e6]
      exact w6
    conv => whnf
    refine ⟨by decide, ?_⟩
    conv => whnf
    rw [t8]
    refine br_mk (fun he => ?_) (fun he => ?_)
    · conv => whnf
      have hsk : skips kn = true := by
        simp at he
        exact skips_yes (by omega)
      have e6 : turn1 ((ks.take a).foldl turn1 F) kn = (ks.take a).foldl turn1 F := by
        unfold turn1
        rw [hsk]
        rfl
      rw [hs2]
      refine ⟨_, Forget.cons rfl (Forget.cons rfl (Forget.cons rfl (Forget.cons rfl (Forget.nil _)))), ⟨a + 1, _, by omega, rfl, ?_, rfl⟩, hmu⟩
      rw [hr, e6]
      exact w6
    conv => whnf
    have hsk : skips kn = false := by
      simp at hd he
      exact skips_no (by omega) (by omega)
    refine ⟨[0, 1, 2, 3, 4, 5, 6, 7, 8, 9, 10], [0, 0, 2, 7, 15, 0, 32, 96, 255, 511, 1023], by kernel_rfl, ?_⟩
    conv => whnf
    refine ⟨by decide, ?_⟩
    conv => whnf
    obtain ⟨i, c, sz, ces, rfl, g7, l7, w7⟩ := w6.put (j := kn / 8) (by omega) (tw (((ks.take a).foldl turn1 F).getD (kn / 8) 0) (kn % 8))
    refine ⟨i, c, kn / 8, rfl, t8, by omega, ?_⟩
    conv => whnf
    obtain ⟨i', c', e, k7⟩ := slo_get w6.1.weak (j := kn / 8) (by omega)
    injection e with e
    injection e with e1' e2'
    subst e1' e2'
    refine ⟨_, k7, ?_⟩
    conv => whnf
    refine ⟨by decide, ?_⟩
    conv => whnf
    rw [tmod8]
    refine ⟨by omega, ?_⟩
    conv => whnf
    refine ⟨i, c, kn / 8, rfl, t8, by omega, ?_⟩
    conv => whnf
    refine ⟨_, _, g7, l7, ?_⟩
    conv => whnf
    rw [hs2]
    refine ⟨_, Forget.cons rfl (Forget.cons rfl (Forget.cons rfl (Forget.cons rfl (Forget.nil _)))), ⟨a + 1, _, by omega, rfl, ?_, rfl⟩, hmu⟩
    rw [hr]
    unfold turn1
    rw [hsk]
    exact w7
  conv => whnf
  simp at hc
  obtain rfl : a = 3 := by omega
  have e3 : (ks.take 3).foldl turn1 F = turn1 (turn1 (turn1 F (ks.getD 0 0)) (ks.getD 1 0)) (ks.getD 2 0) := rfl
  have h0 := (hks 0 (by decide)).2
  have h1 := (hks 1 (by decide)).2
  have h2' := (hks 2 (by decide)).2
  have key : (ks.take 3).foldl turn1 F ≠ F → unV ((ks.take 3).foldl turn1 F) = (0, [], 2) := by
    rw [e3, ← hF]
    exact un_turn3 (by omega) k0 k1 b1 (by omega) (by omega) (by omega)
  generalize (ks.take 3).foldl turn1 F = C at *
  refine (un38 w6.1.weak bl6 (by omega)).mono ?_
  rintro _ h7 ⟨q7, l7, rfl, o7, m7⟩
  conv => whnf
  refine ⟨_, rfl, ?_⟩
  conv => whnf
  refine ⟨_, rfl, ?_⟩
  conv => whnf
  refine ⟨_, rfl, ?_⟩
  conv => whnf
  have w7 := w6.keep m7
  have o2 := o2.get w7.2.2
  refine ⟨_, w7.1.weak, bl6, ?_⟩
  conv => whnf
  refine ⟨_, o2.is, bF, ?_⟩
  conv => whnf
  refine br_mk (fun hd => ?_) (fun hd => ?_)
  · have hd : (C == F) = true := hd
    rw [beq_iff_eq] at hd
    rw [hd, ← hF, un_wr (by omega)]
    conv => whnf
    refine (awake34 _).mono ?_
    rintro _ h' ⟨rfl, _⟩
    conv => whnf
  · have hd : (C == F) = false := hd
    have hne : C ≠ F := fun e => by
      rw [e, beq_self_eq_true] at hd
      cases hd
    rw [key hne] at o7 ⊢
    have := o7.len
    subst this
    conv => whnf
    refine (awake34 _).mono ?_
    rintro _ h' ⟨rfl, _⟩
    conv => whnf
end Go.Proofs.Ytnpfdppmpmnhbaa
