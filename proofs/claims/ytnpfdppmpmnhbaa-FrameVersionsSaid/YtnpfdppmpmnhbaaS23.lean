/- Frames: Unwrap of the program. -/
import Derived.Test.YtnpfdppmpmnhbaaS22
set_option linter.unusedVariables false
namespace Go.Proofs.Ytnpfdppmpmnhbaa
open Go Go.Ab
/-- a reader made since h0 -/
def NewR (h0 h : H) (g : Nat) (xs : List Int) (sp : Bool) : Prop := Rdr h g xs sp ∧ h0.next ≤ g ∧ Ab.Mod none_ h0 h
theorem NewR.step {h0 h h' : H} {g : Nat} {xs ys : List Int} {sp sp' : Bool} (w : NewR h0 h g xs sp) (r : Rdr h' g ys sp') (m : Ab.Mod (one g) h h') : NewR h0 h' g ys sp' :=
  ⟨r, w.2.1, w.2.2.trans' m (fun _ _ k => k) (fun i hi k => by
    have := w.2.1
    unfold one at k
    omega)⟩
theorem NewR.keep {h0 h h' : H} {g : Nat} {xs : List Int} {sp : Bool} (w : NewR h0 h g xs sp) (m : Ab.Mod none_ h h') : NewR h0 h' g xs sp :=
  ⟨w.1.get m (fun k => k), w.2.1, mod_none w.2.2 m⟩
theorem raw_some {xs : List Int} {k : Nat} (h : k ≤ xs.length) : rawOk xs false (k : Int) = true ∧ rawV xs false (k : Int) = xs.take k ∧ rawX xs false (k : Int) = xs.drop k := by
  have e : rawOk xs false (k : Int) = true := by
    simp [rawOk]
    omega
  refine ⟨e, ?_, ?_⟩
  · rw [rawV, e, if_pos rfl, Int.toNat_natCast]
  · rw [rawX, e, if_pos rfl, Int.toNat_natCast]
theorem num_some {h h' : H} {g : Nat} {xs : List Int} {v : V} {k : Nat} (h1 : 1 ≤ k) (h7 : k ≤ 7) (hk : k ≤ xs.length) (q : NumQ g xs false (k : Int) h v h') : v = i64 ((xs.take k).foldl shOr 0) ∧ Rdr h' g (xs.drop k) false ∧ Ab.Mod (one g) h h' := by
  obtain ⟨e, r, m⟩ := q
  rw [numK_id h1 h7] at e r
  obtain ⟨k1, k2, k3⟩ := raw_some hk
  rw [k2] at e
  rw [k1, k3] at r
  exact ⟨e, r, m⟩
theorem shOr0 {x : Int} (h : 0 ≤ x ∧ x < 256) : shOr 0 x = x := by
  obtain ⟨n, rfl⟩ := Int.eq_ofNat_of_zero_le h.1
  have := shOr_eq (n := 0) (b := n) (by decide) (by omega)
  simpa using this
theorem num4_iff {ws : List Int} (hl : ws.length = 4) (hb : Bts ws) (ys : List Int) : (ws.foldl shOr 0 != sumV ys) = (sum4 (sumV ys) != ws) := by
  have e : ws.foldl shOr 0 = ((word ws).toNat : Int) := by
    obtain ⟨a, b, c, d, ha, hb', hc, hd, rfl⟩ := four_split hl hb
    rw [word_four ha hb' hc hd]
    have e1 : shOr 0 (a : Int) = (a : Int) := shOr0 (by omega)
    have e2 := shOr_eq (n := a) (b := b) (by omega) hb'
    have e3 := shOr_eq (n := a * 256 + b) (b := c) (by omega) hc
    have e4 := shOr_eq (n := (a * 256 + b) * 256 + c) (b := d) (by omega) hd
    simp only [List.foldl_cons, List.foldl_nil]
    rw [e1, e2, e3, e4]
  rw [e, sumV_eq]
  have h : (((word ws).toNat : Int) == ((ones ^^^ crcB ones ys).toNat : Int)) = (sum4 ((ones ^^^ crcB ones ys).toNat : Int) == ws) := by
    rw [Bool.eq_iff_iff, beq_iff_eq, beq_iff_eq]
    constructor
    · intro h
      rw [← h]
      exact four_word hl hb
    · intro h
      rw [← h, word_sum4]
  simp only [bne, h]
theorem split5 {xs : List Int} (h : 5 ≤ xs.length) : ∃ a b c d e rest, xs = a :: b :: c :: d :: e :: rest := by
  match xs, h with
  | a :: b :: c :: d :: e :: rest, _ => exact ⟨a, b, c, d, e, rest, rfl⟩
theorem read24o {h : H} {p : Option (Nat × Nat)} {n : Nat} {xs : List Int} (o : SlIs h p n false 1 (ints .u8 xs)) (hn : xs.length ≤ 70368744177664) : ACalls Try.prog 24 [.sl p n] h (fun v h' => ∃ g, v = .ptr (some (g, 0)) ∧ NewR h h' g xs false) := by
  refine call_ Try.func24 rfl rfl (by kernel_rfl) ?_
  conv => whnf
  refine (clone54 o hn).mono ?_
  rintro _ h' ⟨q, rfl, hq, hm⟩
  conv => whnf
  refine ⟨_, rfl, ⟨q, _, H.obj_push_new _ _, hq.get (Mod.push none_ _ _)⟩, hm.next, mod_none hm (Mod.push none_ _ _)⟩
theorem un38 {h : H} {p : Option (Nat × Nat)} {n : Nat} {xs : List Int} (o : SlIs h p n false 1 (ints .u8 xs)) (bx : Bts xs) (hn : n ≤ 900000) : ACalls Try.prog 38 [.sl p n] h (UnQ xs h) := by
  have hl := slo_len o
  subst hl
  refine call_ Try.func38 rfl rfl (by kernel_rfl) ?_
  conv => whnf
  refine br_mk (fun ha => ?_) (fun ha => ?_)
  · conv => whnf
    simp at ha
    exact unQ_bad (by rw [unV, if_pos (by simp; omega)]) (mod_refl _ _)
  conv => whnf
  simp at ha
  obtain ⟨i, c, rfl, c0⟩ := slo_get o (j := 0) (by omega)
  refine ⟨i, c, 0, rfl, rfl, by omega, ?_⟩
  conv => whnf
  refine ⟨_, c0, ?_⟩
  conv => whnf
  refine br_mk (fun hb => ?_) (fun hb => ?_)
  · conv => whnf
    exact unQ_bad (by rw [unV, if_pos (by rw [hb]; simp)]) (mod_refl _ _)
  conv => whnf
  obtain ⟨x0, x1, x2, x3, x4, rest, rfl⟩ := split5 (xs := xs) (by omega)
  have b3 : 0 ≤ x3 ∧ x3 < 256 := bx x3 (by simp)
  have b4 : 0 ≤ x4 ∧ x4 < 256 := bx x4 (by simp)
  have b2 : 0 ≤ x2 ∧ x2 < 256 := bx x2 (by simp)
  have b1 : 0 ≤ x1 ∧ x1 < 256 := bx x1 (by simp)
  have br : Bts rest := fun x hx => bx x (by simp [hx])
  have hlr : (x0 :: x1 :: x2 :: x3 :: x4 :: rest).length = rest.length + 5 := rfl
  refine (read24o o (by omega)).mono ?_
  rintro _ h1 ⟨g, rfl, r1⟩
  conv => whnf
  obtain ⟨k1, k2, k3⟩ := raw_some (xs := x0 :: x1 :: x2 :: x3 :: x4 :: rest) (k := 1) (by simp)
  refine (raw27 r1.1 (by omega) 1).mono ?_
  rintro _ h2 ⟨q2, l2, rfl, o2, r2, m2⟩
  rw [show ((1 : Nat) : Int) = 1 from rfl] at k1 k2 k3
  rw [k1, k3] at r2
  have r2 := r1.step r2 m2
  have r2 : NewR h h2 g (x1 :: x2 :: x3 :: x4 :: rest) false := r2
  have e1 : ([x1] : List Int).foldl shOr 0 = x1 := shOr0 b1
  have e2 : ([x2] : List Int).foldl shOr 0 = x2 := shOr0 b2
  have hN : unN (x0 :: x1 :: x2 :: x3 :: x4 :: rest) = (x3 * 256 + x4).toNat := rfl
  have e3 : ([x3, x4] : List Int).foldl shOr 0 = ((x3 * 256 + x4).toNat : Int) := by
    simp only [List.foldl_cons, List.foldl_nil]
    rw [shOr0 b3, shOr8 b3 b4]
  have hNl : (x3 * 256 + x4).toNat < 65536 := by omega
  conv => whnf
  refine (num25 r2.1 (by simp; omega) 1).mono ?_
  rintro v3 h3 q3
  obtain ⟨e, r3, m3⟩ := num_some (k := 1) (by decide) (by decide) (by simp) q3
  obtain rfl : v3 = i64 x1 := e.trans (congrArg i64 e1)
  have r3 : NewR h h3 g (x2 :: x3 :: x4 :: rest) false := r2.step r3 m3
  conv => whnf
  refine (num25 r3.1 (by simp; omega) 1).mono ?_
  rintro v4 h4 q4
  obtain ⟨e, r4, m4⟩ := num_some (k := 1) (by decide) (by decide) (by simp) q4
  obtain rfl : v4 = i64 x2 := e.trans (congrArg i64 e2)
  have r4 : NewR h h4 g (x3 :: x4 :: rest) false := r3.step r4 m4
  conv => whnf
  refine (num25 r4.1 (by simp; omega) 2).mono ?_
  rintro v5 h5 q5
  obtain ⟨e, r5, m5⟩ := num_some (k := 2) (by decide) (by decide) (by simp) q5
  obtain rfl : v5 = i64 (x3 * 256 + x4).toNat := e.trans (congrArg i64 e3)
  have r5 : NewR h h5 g rest false := r4.step r5 m5
  conv => whnf
  clear q3 q4 q5 e
  generalize (x3 * 256 + x4).toNat = N at *
  have hx1 : (x0 :: x1 :: x2 :: x3 :: x4 :: rest).getD 1 0 = x1 := rfl
  have hx2 : (x0 :: x1 :: x2 :: x3 :: x4 :: rest).getD 2 0 = x2 := rfl
  have hdr : ∀ j, (x0 :: x1 :: x2 :: x3 :: x4 :: rest).drop (j + 5) = rest.drop j := fun j => rfl
  have hd5 : (x0 :: x1 :: x2 :: x3 :: x4 :: rest).drop 5 = rest := rfl
  clear r2 r3 r4 k1 k2 k3 m2 m3 m4 o2
  generalize hxs : x0 :: x1 :: x2 :: x3 :: x4 :: rest = xs at *
  have w4 : IntKind.i64.wrap (IntKind.i64.wrap (5 + (N : Int)) + 4) = (N : Int) + 9 := by
    rw [wrap_i64 (x := 5 + (N : Int)) (by omega) (by omega), wrap_i64 (by omega) (by omega)]
    omega
  rw [w4]
  refine br_mk (fun hd => ?_) (fun hd => ?_)
  · conv => whnf
    simp at hd
    exact unQ_bad (by
      rw [unV, if_pos]
      simp
      omega) r5.2.2
  conv => whnf
  simp at hd
  have hd : xs.length = N + 9 := by omega
  have hrl : rest.length = N + 4 := by omega
  obtain ⟨k1, k2, k3⟩ := raw_some (xs := rest) (k := N) (by omega)
  refine (raw27 r5.1 (by omega) N).mono ?_
  rintro _ h6 ⟨q6, l6, rfl, o6, r6, m6⟩
  rw [k1, k3] at r6
  rw [k2] at o6
  have r6 : NewR h h6 g (rest.drop N) false := r5.step r6 m6
  conv => whnf
  have cmp := num4_iff (ws := rest.drop N) (by rw [List.length_drop]; omega) (bts_drop br N) (xs.take (N + 5))
  have w5 : IntKind.i64.wrap (5 + (N : Int)) = ((N + 5 : Nat) : Int) := by
    rw [wrap_i64 (by omega) (by omega)]
    omega
  refine ⟨[], [1, 6], rfl, ?_, ?_⟩
  · conv => whnf
    refine ⟨[0, 2, 3, 4, 5, 1, 6, 7, 8, 9, 10], [0, 1, 0, 0, 8, 28, 63, 127, 255, 511, 1023], by kernel_rfl, ?_⟩
    conv => whnf
    have os6 := SlIs.old o r6.2.2 (fun _ _ k => k)
    refine ⟨⟨_, os6⟩, ?_⟩
    conv => whnf
    refine ⟨N + 5, w5, Nat.zero_le _, by omega, ?_⟩
    conv => whnf
    refine (num25 r6.1 (by simp; omega) 4).mono ?_
    rintro v7 h7 q7
    obtain ⟨e7, r7, m7⟩ := num_some (k := 4) (by decide) (by decide) (by simp; omega) q7
    have r7 := r6.step r7 m7
    rw [show (rest.drop N).take 4 = rest.drop N from List.take_of_length_le (by simp; omega)] at e7
    subst e7
    clear q7
    have os7 := SlIs.old o r7.2.2 (fun _ _ k => k)
    conv => whnf
    refine ⟨?_, ?_⟩
    · conv => whnf
      refine ⟨⟨_, os7⟩, ?_⟩
      conv => whnf
      exact ⟨N + 5, w5, Nat.zero_le _, by omega, rfl⟩
    conv => whnf
    rw [rowSl]
    have mp := Mod.push none_ h7 (.row true 1 [.sl (slp (some (i, c)) (0 * (T.at_ 5).size)) (N + 5 - 0)])
    have r8 := r7.keep mp
    refine (sum55 (SlIs.row (n := 1) (H.obj_push_new _ _) rfl).weak (slo_cut (SlIs.old os7 mp (fun _ _ k => k)) (Nat.zero_le (N + 5)) (by omega)) (by omega)).mono ?_
    rintro _ h' ⟨eh, rfl⟩
    subst h'
    have o8 := (o6.get m7).get mp
    conv => whnf
    rw [show (xs.drop (0 * (T.at_ 5).size)).take (N + 5 - 0 * (T.at_ 5).size) = xs.take (N + 5) from rfl]
    obtain ⟨s0, s1⟩ := sumV_range (xs.take (N + 5))
    rw [wrap_i64 (x := sumV (xs.take (N + 5))) (by omega) (by omega), cmp]
    refine br_mk (fun he => ?_) (fun he => ?_)
    · conv => whnf
      exact unQ_bad (by
        rw [unV, if_pos]
        rw [hN, hdr, he, Bool.or_true]) r8.2.2
    conv => whnf
    have hh : ¬ ((decide (xs.length < 9) || xs.getD 0 0 != 77 || xs.length != unN xs + 9 || sum4 (sumV (xs.take (unN xs + 5))) != xs.drop (unN xs + 5)) = true) := by
      rw [hN, hdr, he, hb]
      simp
      omega
    refine br_mk (fun hf => ?_) (fun hf => ?_)
    · conv => whnf
      exact unQ_bad (by rw [unV, if_neg hh, if_pos (by rw [hx1]; exact hf)]) r8.2.2
    conv => whnf
    have hf' : ¬ ((xs.getD 1 0 != 3) = true) := by
      rw [hx1, hf]
      decide
    refine br_mk (fun hg => ?_) (fun hg => ?_)
    · conv => whnf
      simp at hg
      exact unQ_bad (by rw [unV, if_neg hh, if_neg hf', if_pos (by omega)]) r8.2.2
    conv => whnf
    simp at hg
    rw [show unV xs = (x2, rest.take N, 0) by rw [unV, if_neg hh, if_neg hf', if_neg (by omega), hx2, hd5, hN]]
    exact ⟨q6, l6, rfl, o8, r8.2.2⟩
  · conv => whnf
    refine ⟨[0, 2, 3, 4, 5, 6, 1, 7, 8, 9, 10], [0, 65, 0, 0, 8, 28, 60, 127, 255, 511, 1023], by kernel_rfl, ?_⟩
    conv => whnf
    have os6 := SlIs.old o r6.2.2 (fun _ _ k => k)
    refine ⟨⟨_, os6⟩, ?_⟩
    conv => whnf
    refine ⟨N + 5, w5, Nat.zero_le _, by omega, ?_⟩
    conv => whnf
    rw [rowSl]
    have mp := Mod.push none_ h6 (.row true 1 [.sl (slp (some (i, c)) (0 * (T.at_ 5).size)) (N + 5 - 0)])
    have r7 := r6.keep mp
    refine (num25 r7.1 (by simp; omega) 4).mono ?_
    rintro v7 h7 q7
    obtain ⟨e7, r8, m7⟩ := num_some (k := 4) (by decide) (by decide) (by simp; omega) q7
    have r8 := r7.step r8 m7
    rw [show (rest.drop N).take 4 = rest.drop N from List.take_of_length_le (by simp; omega)] at e7
    subst e7
    clear q7
    have os7 := SlIs.old o r8.2.2 (fun _ _ k => k)
    conv => whnf
    have hg6 : h6.next ≠ g := Nat.ne_of_gt r6.1.lt
    refine ⟨?_, ?_⟩
    · conv => whnf
      refine ⟨⟨_, os7⟩, ?_⟩
      conv => whnf
      exact ⟨N + 5, w5, Nat.zero_le _, by omega, rfl⟩
    conv => whnf
    refine (sum55 (SlIs.row (n := 1) (m7.get (H.obj_push_new _ _) (.inl hg6)) rfl).weak (slo_cut os7 (Nat.zero_le (N + 5)) (by omega)) (by omega)).mono ?_
    rintro _ h' ⟨eh, rfl⟩
    subst h'
    have o8 := (o6.get mp).get m7
    conv => whnf
    rw [show (xs.drop (0 * (T.at_ 5).size)).take (N + 5 - 0 * (T.at_ 5).size) = xs.take (N + 5) from rfl]
    obtain ⟨s0, s1⟩ := sumV_range (xs.take (N + 5))
    rw [wrap_i64 (x := sumV (xs.take (N + 5))) (by omega) (by omega), cmp]
    refine br_mk (fun he => ?_) (fun he => ?_)
    · conv => whnf
      exact unQ_bad (by
        rw [unV, if_pos]
        rw [hN, hdr, he, Bool.or_true]) r8.2.2
    conv => whnf
    have hh : ¬ ((decide (xs.length < 9) || xs.getD 0 0 != 77 || xs.length != unN xs + 9 || sum4 (sumV (xs.take (unN xs + 5))) != xs.drop (unN xs + 5)) = true) := by
      rw [hN, hdr, he, hb]
      simp
      omega
    refine br_mk (fun hf => ?_) (fun hf => ?_)
    · conv => whnf
      exact unQ_bad (by rw [unV, if_neg hh, if_pos (by rw [hx1]; exact hf)]) r8.2.2
    conv => whnf
    have hf' : ¬ ((xs.getD 1 0 != 3) = true) := by
      rw [hx1, hf]
      decide
    refine br_mk (fun hg => ?_) (fun hg => ?_)
    · conv => whnf
      simp at hg
      exact unQ_bad (by rw [unV, if_neg hh, if_neg hf', if_pos (by omega)]) r8.2.2
    conv => whnf
    simp at hg
    rw [show unV xs = (x2, rest.take N, 0) by rw [unV, if_neg hh, if_neg hf', if_neg (by omega), hx2, hd5, hN]]
    exact ⟨q6, l6, rfl, o8, r8.2.2⟩
end Go.Proofs.Ytnpfdppmpmnhbaa
