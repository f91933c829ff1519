/- Frames: what is in one; Unwrap of the reference. -/
import Derived.Test.YtnpfdppmpmnhbaaS21
set_option linter.unusedVariables false
namespace Go.Proofs.Ytnpfdppmpmnhbaa
open Go Go.Ab
theorem SlIs.cut {h : H} {p : Option (Nat × Nat)} {n sz : Nat} {cs : List V} (s : SlIs h p n false sz cs) {l m : Nat} (h1 : l ≤ m) (h2 : m ≤ n) : SlIs h (slp p (l * sz)) (m - l) false sz ((cs.drop (l * sz)).take ((m - l) * sz)) := by
  obtain ⟨hl, hr⟩ := s
  have hmul : l * sz + (m - l) * sz ≤ n * sz := by
    rw [← Nat.add_mul]
    exact Nat.mul_le_mul_right _ (by omega)
  refine ⟨by rw [List.length_take, List.length_drop, hl]; omega, ?_⟩
  rcases hr with ⟨rfl, _⟩ | ⟨i, o, b, r, rfl, e2, e0, e3, e4⟩
  · exact .inl ⟨by omega, .inr rfl⟩
  · refine .inr ⟨i, o + l * sz, b, r, rfl, e2, e0, by omega, ?_⟩
    rw [← e4, List.drop_take, List.drop_drop, List.take_take]
    congr 1
    omega
theorem slo_cut {h : H} {p : Option (Nat × Nat)} {n : Nat} {k : IntKind} {xs : List Int} (s : SlIs h p n false 1 (ints k xs)) {l m : Nat} (h1 : l ≤ m) (h2 : m ≤ n) : SlIs h (slp p l) (m - l) false 1 (ints k ((xs.drop l).take (m - l))) := by
  have := SlIs.cut s h1 h2
  rw [Nat.mul_one, Nat.mul_one, ints_drop, ints_take] at this
  exact this
def unN (xs : List Int) : Nat := (xs.getD 3 0 * 256 + xs.getD 4 0).toNat
/-- what is in a frame: a kind, octets, an error -/
def unV (xs : List Int) : Int × List Int × Int :=
  if decide (xs.length < 9) || xs.getD 0 0 != 77 || xs.length != unN xs + 9 || sum4 (sumV (xs.take (unN xs + 5))) != xs.drop (unN xs + 5) then (0, [], 2)
  else if xs.getD 1 0 != 3 then (0, [], 3)
  else if 2000 < unN xs then (0, [], 2)
  else (xs.getD 2 0, (xs.drop 5).take (unN xs), 0)
def UnQ (xs : List Int) (h : H) (r : V) (h' : H) : Prop := ∃ q m, r = .tup [i64 (unV xs).1, .sl q m, i64 (unV xs).2.2] ∧ Oct h' q m (unV xs).2.1 ∧ Ab.Mod none_ h h'
theorem mod_refl (S : Nat → Prop) (h : H) : Ab.Mod S h h := ⟨Nat.le_refl _, fun _ _ _ => rfl⟩
theorem mod_none {a b c : H} (h : Ab.Mod none_ a b) (k : Ab.Mod none_ b c) : Ab.Mod none_ a c := h.trans' k (fun _ _ k => k) (fun _ _ k => k)
theorem unQ_bad {xs : List Int} {h h' : H} {e : Int} (he : unV xs = (0, [], e)) (m : Ab.Mod none_ h h') : UnQ xs h (.tup [i64 0, .sl none 0, i64 e]) h' := by
  unfold UnQ
  rw [he]
  exact ⟨none, 0, rfl, Oct.nil _ _, m⟩
theorem sum4_append_ne {xs : List Int} {n : Nat} (hl : xs.length = n + 4) (hn : n ≤ xs.length) {s : List Int} (hs : s.length = 4) : (xs.take n ++ s != xs) = (s != xs.drop n) := by
  have e : xs = xs.take n ++ xs.drop n := (List.take_append_drop n xs).symm
  have h : (xs.take n ++ s == xs) = (s == xs.drop n) := by
    rw [Bool.eq_iff_iff, beq_iff_eq, beq_iff_eq]
    constructor
    · intro h
      exact List.append_cancel_left (h.trans e)
    · intro h
      rw [h, ← e]
  simp only [bne, h]
theorem bts_getD {xs : List Int} (hb : Bts xs) (j : Nat) : 0 ≤ xs.getD j 0 ∧ xs.getD j 0 < 256 := by
  by_cases h : j < xs.length
  · exact hb _ (getD_mem h)
  · rw [List.getD_eq_getElem?_getD, List.getElem?_eq_none (by omega)]
    exact ⟨Int.le_refl 0, by decide⟩
/-- the number of octets, as it is put together -/
theorem shOr8 {a b : Int} (ha : 0 ≤ a ∧ a < 256) (hb : 0 ≤ b ∧ b < 256) : shOr a b = ((a * 256 + b).toNat : Int) := by
  obtain ⟨n, rfl⟩ := Int.eq_ofNat_of_zero_le ha.1
  obtain ⟨m, rfl⟩ := Int.eq_ofNat_of_zero_le hb.1
  rw [shOr_eq (by omega) (by omega)]
  omega
theorem bts_take {xs : List Int} (hb : Bts xs) (n : Nat) : Bts (xs.take n) := fun x hx => hb x (List.mem_of_mem_take hx)
theorem bts_drop {xs : List Int} (hb : Bts xs) (n : Nat) : Bts (xs.drop n) := fun x hx => hb x (List.mem_of_mem_drop hx)
theorem un39 {h : H} {p : Option (Nat × Nat)} {n : Nat} {xs : List Int} (o : SlIs h p n false 1 (ints .u8 xs)) (bx : Bts xs) (hn : n ≤ 900000) : ACalls Try.prog 39 [.sl p n] h (UnQ xs h) := by
  have hl := slo_len o
  subst hl
  refine ACalls.ro (Q := fun v h' => ∃ q m, v = .tup [i64 (unV xs).1, .sl q m, i64 (unV xs).2.2] ∧ NewSl h h' q m 1 (ints .u8 (unV xs).2.1) ∧ Ab.Mod none_ h h') ?_ ?_
  rotate_left
  · rintro r h' ⟨q, m, rfl, n1, mm⟩
    obtain ⟨i, _, k1, k2⟩ := n1.freeze mm
    exact ⟨i, q, m, rfl, k1, k2⟩
  have bad : ∀ {h' : H} {e : Int}, unV xs = (0, [], e) → Ab.Mod none_ h h' → ∃ q m, (V.tup [i64 0, .sl none 0, i64 e]) = .tup [i64 (unV xs).1, .sl q m, i64 (unV xs).2.2] ∧ NewSl h h' q m 1 (ints .u8 (unV xs).2.1) ∧ Ab.Mod none_ h h' := by
    intro h' e he m
    rw [he]
    exact ⟨none, 0, rfl, NewSl.nil _ _ _, m⟩
  refine call_ Try.func39 rfl rfl (by kernel_rfl) ?_
  conv => whnf
  refine br_mk (fun ha => ?_) (fun ha => ?_)
  · conv => whnf
    simp at ha
    exact bad (by rw [unV, if_pos (by simp; omega)]) (mod_refl _ _)
  conv => whnf
  simp at ha
  obtain ⟨i, c, rfl, c0⟩ := slo_get o (j := 0) (by omega)
  refine ⟨i, c, 0, rfl, rfl, by omega, ?_⟩
  conv => whnf
  refine ⟨_, c0, ?_⟩
  conv => whnf
  refine br_mk (fun hb => ?_) (fun hb => ?_)
  · conv => whnf
    exact bad (by rw [unV, if_pos (by rw [hb]; simp)]) (mod_refl _ _)
  conv => whnf
  have get : ∀ j, j < xs.length → Cell h i (c + j * 1) (.int .u8 (xs.getD j 0)) := fun j hj => by
    obtain ⟨i', c', e, k⟩ := slo_get o hj
    injection e with e
    injection e with e1 e2
    subst e1 e2
    exact k
  refine ⟨[0, 1, 2, 3, 4, 5, 6, 7, 8, 9, 10], [0, 1, 3, 7, 15, 0, 32, 96, 224, 511, 1023], by kernel_rfl, ?_⟩
  conv => whnf
  refine ⟨i, c, 3, rfl, rfl, by omega, ?_⟩
  conv => whnf
  refine ⟨_, get 3 (by omega), ?_⟩
  conv => whnf
  refine ⟨by decide, ?_⟩
  conv => whnf
  refine ⟨i, c, 4, rfl, rfl, by omega, ?_⟩
  conv => whnf
  refine ⟨_, get 4 (by omega), ?_⟩
  conv => whnf
  have b3 := bts_getD bx 3
  have b4 := bts_getD bx 4
  have eN : IntKind.i64.wrap (BitVec.ofInt IntKind.i64.bits (IntKind.i64.wrap (IntKind.i64.wrap (xs.getD 3 0) * 2 ^ (min (8 : Int).toNat IntKind.i64.bits))) ||| BitVec.ofInt IntKind.i64.bits (IntKind.i64.wrap (xs.getD 4 0))).toNat = (unN xs : Int) := by
    rw [wrap_i64 (x := xs.getD 3 0) (by omega) (by omega)]
    exact shOr8 b3 b4
  have hN : unN xs < 65536 := by
    unfold unN
    omega
  rw [eN]
  refine ⟨[0, 1, 2, 3, 4, 5, 6, 7, 8, 9, 12, 13, 10, 11, 14, 15], [0, 1, 0, 4, 15, 31, 63, 63, 191, 511, 1023, 2047, 63, 4159, 16383, 32767], by kernel_rfl, ?_⟩
  conv => whnf
  rw [wrap_i64 (x := (unN xs : Int) + 9) (by omega) (by omega)]
  refine br_mk (fun hd => ?_) (fun hd => ?_)
  · conv => whnf
    simp at hd
    exact bad (by
      rw [unV, if_pos]
      simp
      omega) (mod_refl _ _)
  conv => whnf
  simp at hd
  have hd : xs.length = unN xs + 9 := by omega
  have w5 : IntKind.i64.wrap ((unN xs : Int) + 5) = ((unN xs + 5 : Nat) : Int) := by
    rw [wrap_i64 (by omega) (by omega)]
    rfl
  refine ⟨⟨_, o⟩, ?_⟩
  conv => whnf
  refine ⟨unN xs + 5, w5, by omega, by omega, ?_⟩
  conv => whnf
  refine ⟨_, o, bx, ?_⟩
  conv => whnf
  refine (summed56 (slo_cut o (Nat.zero_le (unN xs + 5)) (by omega)) (by omega)).mono ?_
  rintro _ h1 ⟨q1, rfl, o1, m1⟩
  have e1 : (xs.drop 0).take (unN xs + 5 - 0) = xs.take (unN xs + 5) := rfl
  rw [e1] at o1
  conv => whnf
  have o' := SlIs.old o m1 (fun _ _ k => k)
  refine ⟨?_, ?_⟩
  · conv => whnf
    exact ⟨_, o', bx, rfl⟩
  conv => whnf
  have bs : Bts (xs.take (unN xs + 5) ++ sum4 (sumV (xs.take (unN xs + 5)))) := (bts_take bx _).append (sum4_bts _)
  refine ⟨_, o1.is, bs, ?_⟩
  conv => whnf
  have cmp := sum4_append_ne (xs := xs) (n := unN xs + 5) (by omega) (by omega) (s := sum4 (sumV (xs.take (unN xs + 5)))) rfl
  refine br_mk (fun he => ?_) (fun he => ?_)
  · conv => whnf
    have he : (xs.take (unN xs + 5) ++ sum4 (sumV (xs.take (unN xs + 5))) != xs) = true := he
    rw [cmp] at he
    exact bad (by rw [unV, if_pos (by rw [he, Bool.or_true])]) m1
  conv => whnf
  have he : (xs.take (unN xs + 5) ++ sum4 (sumV (xs.take (unN xs + 5))) != xs) = false := he
  rw [cmp] at he
  have hh : ¬ ((decide (xs.length < 9) || xs.getD 0 0 != 77 || xs.length != unN xs + 9 || sum4 (sumV (xs.take (unN xs + 5))) != xs.drop (unN xs + 5)) = true) := by
    rw [he, hb]
    simp
    omega
  have get1 : ∀ j, j < xs.length → Cell h1 i (c + j * 1) (.int .u8 (xs.getD j 0)) := fun j hj => by
    obtain ⟨i', c', e, k⟩ := slo_get o' hj
    injection e with e
    injection e with e1 e2
    subst e1 e2
    exact k
  refine ⟨i, c, 1, rfl, rfl, by omega, ?_⟩
  conv => whnf
  refine ⟨_, get1 1 (by omega), ?_⟩
  conv => whnf
  refine br_mk (fun hf => ?_) (fun hf => ?_)
  · conv => whnf
    exact bad (by rw [unV, if_neg hh, if_pos hf]) m1
  conv => whnf
  have hf' : ¬ ((xs.getD 1 0 != 3) = true) := by
    rw [show (xs.getD 1 0 != 3) = false from hf]
    decide
  refine br_mk (fun hg => ?_) (fun hg => ?_)
  · conv => whnf
    simp at hg
    exact bad (by rw [unV, if_neg hh, if_neg hf', if_pos (by omega)]) m1
  conv => whnf
  simp at hg
  refine ⟨[0, 1, 2, 3, 5, 6, 7, 8, 4, 9, 10, 11, 12], [0, 1, 3, 7, 0, 0, 0, 64, 224, 496, 1023, 2047, 4095], by kernel_rfl, ?_⟩
  conv => whnf
  refine ⟨i, c, 2, rfl, rfl, by omega, ?_⟩
  conv => whnf
  refine ⟨_, get1 2 (by omega), ?_⟩
  conv => whnf
  refine ⟨⟨_, o'⟩, ?_⟩
  conv => whnf
  refine ⟨5, rfl, unN xs + 5, w5, by omega, by omega, ?_⟩
  conv => whnf
  have mp := Mod.push none_ h1 (.row true (T.at_ 5).size (zerosV 0 (vcells (T.at_ 5).zero)))
  have op := SlIs.old o' mp (fun _ _ k => k)
  refine ⟨[], _, ⟨rfl, .inr ⟨_, 0, true, [], rfl, by simp [H.push]; rfl, fun e => e, by simp, by simp⟩⟩, slo_cut op (l := 5) (m := unN xs + 5) (by omega) (by omega), by rw [T5b]; omega, by omega, fun p2 h2 hs2 hm2 hf2 => ?_⟩
  conv => whnf
  have get2 : Cell h2 i (c + 2 * 1) (.int .u8 (xs.getD 2 0)) := by
    have hi : i < h1.next := by
      obtain ⟨_, _, _, k, _⟩ := get1 2 (by omega)
      exact h1.lt _ _ k
    obtain ⟨ob, sz, cs, k1, k2⟩ := get1 2 (by omega)
    refine ⟨ob, sz, cs, hm2.get (mp.get k1 (.inl (fun k => k))) (.inl (fun ⟨o, k⟩ => ?_)), k2⟩
    injection k with k
    injection k with k
    omega
  refine ⟨?_, ?_⟩
  · conv => whnf
    exact ⟨_, get2, rfl⟩
  conv => whnf
  have b2 := bts_getD bx 2
  rw [wrap_i64 (x := xs.getD 2 0) (by omega) (by omega)]
  have e5 : 0 + (unN xs + 5 - 5) = unN xs := by omega
  have e6 : unN xs + 5 - 5 = unN xs := by omega
  rw [e5] at hs2 ⊢
  rw [e6] at hs2
  rw [show unV xs = (xs.getD 2 0, (xs.drop 5).take (unN xs), 0) by rw [unV, if_neg hh, if_neg hf', if_neg (by omega)]]
  refine ⟨p2, _, rfl, ⟨hs2, fun i o e => ?_⟩, mod_none m1 (mp.trans' hm2 (fun _ _ k => k) (fun i hi k => ?_))⟩
  · rcases hf2 i o e with k | k
    · rw [e] at k
      injection k with k
      injection k with k
      have := m1.next
      omega
    · exact Nat.le_trans m1.next (Nat.le_trans (Nat.le_succ _) k)
  · obtain ⟨o, k⟩ := k
    injection k with k
    injection k with k
    omega
end Go.Proofs.Ytnpfdppmpmnhbaa
