/- ChannelTries: its walk. -/
import Derived.Test.YtoljllfbabahpaaU32
set_option linter.unusedVariables false
namespace Go.Proofs.Ytoljllfbabahpaa
open Go Go.Ab
theorem mulT {B n : Int} (hB : 1 ≤ B) (hB2 : B ≤ 20) (hn0 : 0 ≤ n) (hn : n ≤ 11) : 0 ≤ B * n ∧ B * n ≤ 220 := by
  constructor
  · exact Int.mul_nonneg (by omega) hn0
  · have h1 : B * n ≤ 20 * n := Int.mul_le_mul_of_nonneg_right hB2 hn0
    omega
set_option maxHeartbeats 4000000 in
theorem tries14 {h : H} {po : Option (Nat × Nat)} {m : Nat} {xs : List Int} (ro : RoSl h po m 1 (ints .u8 xs)) (hx8 : ∀ x ∈ xs, 0 ≤ x ∧ x < 256) (B R K : Int) : ACalls Try.prog 14 [i64 B, i64 R, .sl po m, i64 K] h (fun r _ => r = .bool true) := by
  have hm := slo_len ro.is
  refine call_ Try.func14 rfl rfl (by kernel_rfl) ?_
  conv => whnf
  refine br_mk (fun ha => ?_) (fun ha => ?_)
  · conv => whnf
    refine (awake15 h).mono ?_
    rintro _ h1 rfl
    conv => whnf
  conv => whnf
  have ha : ¬ (B < 1) := by simpa using ha
  refine br_mk (fun hb => ?_) (fun hb => ?_)
  · conv => whnf
    refine (awake15 h).mono ?_
    rintro _ h1 rfl
    conv => whnf
  conv => whnf
  have hb : ¬ (B > 20) := by simpa using hb
  refine br_mk (fun hc => ?_) (fun hc => ?_)
  · conv => whnf
    refine (awake15 h).mono ?_
    rintro _ h1 rfl
    conv => whnf
  conv => whnf
  have hc : ¬ (R < 0) := by simpa using hc
  refine br_mk (fun hd => ?_) (fun hd => ?_)
  · conv => whnf
    refine (awake15 h).mono ?_
    rintro _ h1 rfl
    conv => whnf
  conv => whnf
  have hd : ¬ (R > 10) := by simpa using hd
  refine br_mk (fun he => ?_) (fun he => ?_)
  · conv => whnf
    refine (awake15 h).mono ?_
    rintro _ h1 rfl
    conv => whnf
  conv => whnf
  have he : ¬ ((m : Int) > 50) := by simpa using he
  refine br_mk (fun hf => ?_) (fun hf => ?_)
  · conv => whnf
    refine (awake15 h).mono ?_
    rintro _ h1 rfl
    conv => whnf
  conv => whnf
  have hf : ¬ (K < 0) := by simpa using hf
  refine br_mk (fun hg => ?_) (fun hg => ?_)
  · conv => whnf
    refine (awake15 h).mono ?_
    rintro _ h1 rfl
    conv => whnf
  conv => whnf
  have hg : ¬ (K > 5) := by simpa using hg
  have ok : okCh ⟨1, 2, R, B, B, 5⟩ 9 = true := by
    unfold okCh okCfg
    rw [show inR R 0 20 = true from inR_iff.2 ⟨by omega, by omega⟩, show inR B 1 1000 = true from inR_iff.2 ⟨by omega, by omega⟩, show inR B B 1000 = true from inR_iff.2 ⟨by omega, by omega⟩]
    rfl
  have o1 := new_cok ok
  refine (cNew h ⟨1, 2, R, B, B, 5⟩ 9).mono ?_
  rintro _ h1 q
  obtain ⟨d, rfl, s1, _, m1⟩ := newC_yes q ok
  clear q
  have ro := ro.get m1
  conv => whnf
  refine ⟨_, rfl, ?_⟩
  conv => whnf
  refine ⟨_, rfl, ?_⟩
  conv => whnf
  have o2 := push_cok o1 0 (b := xs) (by omega)
  refine (cPush s1 o1 (of_decide_eq_true rfl) (now := 0) (of_decide_eq_true rfl) (of_decide_eq_true rfl) ro.is (by omega)).mono ?_
  rintro _ h2 ⟨q2, po2, rfl, g2, s2, _, m2⟩
  have ro := ro.get m2
  rw [tv_push] at g2 s2 o2 ⊢
  conv => whnf
  refine ⟨_, rfl, ?_⟩
  conv => whnf
  refine ⟨_, rfl, ?_⟩
  conv => whnf
  obtain ⟨i3, c3, x3, y1, y2, y3, y4⟩ := g2.cell (j := 0) (of_decide_eq_true rfl)
  refine ⟨[0, 1, 2, 3, 4, 5, 6, 7, 8, 9, 10, 11, 12, 13, 14, 15, 16, 17, 18, 19, 20, 21, 22, 23, 24, 25, 26, 27, 28, 29, 30], [0, 1, 3, 7, 15, 31, 63, 127, 255, 511, 1023, 2047, 4095, 8191, 16383, 32767, 65535, 131071, 262143, 524287, 1048575, 2097151, 4194303, 8388607, 16777215, 33554431, 67108863, 4194303, 138412031, 536870911, 1073741823], by kernel_rfl, ?_⟩
  conv => whnf
  refine ⟨i3, c3, 0, y1, rfl, of_decide_eq_true rfl, ?_⟩
  conv => whnf
  refine ⟨_, y3 2 _ rfl, ?_⟩
  conv => whnf
  refine ⟨i3, c3, 0, y1, rfl, of_decide_eq_true rfl, ?_⟩
  conv => whnf
  refine ⟨_, y3 3 _ rfl, ?_⟩
  conv => whnf
  refine ⟨i3, c3, 0, y1, rfl, of_decide_eq_true rfl, ?_⟩
  conv => whnf
  refine ⟨_, y3 5 _ rfl, ?_⟩
  conv => whnf
  refine ⟨_, y4.is, hx8, ?_⟩
  conv => whnf
  refine ⟨_, ro.is, hx8, ?_⟩
  conv => whnf
  refine br_mk (fun hI => ?_) (fun hI => ?_)
  · exact absurd hI (by simp)
  conv => whnf
  refine ⟨fun env hk => ∃ (n a : Int) (pc : Option (Nat × Nat)), 1 ≤ n ∧ n ≤ R + 1 ∧ 0 ≤ a ∧ a ≤ 5 ∧ ChS hk d pc (tvV B R xs n a) ∧ COk (tvV B R xs n a) ∧ RoSl hk po m 1 (ints .u8 xs) ∧ env = [(14, i64 n), (13, i64 a), (0, i64 B), (1, i64 R), (2, .sl po m), (3, i64 K), (9, .ptr (some (d.c, 0)))],
    fun env _ => match get env 14 with
      | .int _ z => (R + 1 - z).toNat
      | _ => 0, ⟨_, Forget.cons rfl (Forget.cons rfl (Forget.cons rfl (Forget.cons rfl (Forget.cons rfl (Forget.cons rfl (Forget.cons rfl (Forget.nil _))))))), 1, 0, _, by decide, by omega, by decide, by decide, s2, o2, ro, rfl⟩, ?_⟩
  clear s1 s2 o2 ro g2 y1 y2 y3 y4 o1
  rintro _ hh ⟨n, a, pc, hn1, hn2, ha0, ha1, s, o, ro, rfl⟩
  obtain ⟨bn0, bn1⟩ := mulT (B := B) (n := n) (by omega) (by omega) (by omega) (by omega)
  conv => whnf
  refine br_mk (fun hx => ?_) (fun hx => ?_)
  rotate_left
  · conv => whnf
    have hx : n = R + 1 := by
      have : ¬ n ≤ R := by simpa using hx
      omega
    subst hx
    rw [wrap_i64 (x := R + 1) (by omega) (by omega), wrap_i64 (x := B * (R + 1)) (by omega) (by omega)]
    refine (cPass s o (of_decide_eq_true rfl) (now := B * (R + 1)) (by omega) (by omega)).mono ?_
    rintro _ h4 ⟨q4, po4, rfl, g4, s4, _, m4⟩
    have o4 := pass_cok o (B * (R + 1))
    rw [tv_over xs rfl] at g4 s4 o4 ⊢
    conv => whnf
    refine ⟨_, rfl, ?_⟩
    conv => whnf
    refine ⟨_, rfl, ?_⟩
    conv => whnf
    rw [wrap_i64 (x := R + 1) (by omega) (by omega), wrap_i64 (x := B * (R + 1)) (by omega) (by omega)]
    obtain ⟨l5, n5⟩ := laid_oct h4 [1]
    refine (cPush (s4.old n5) o4 (of_decide_eq_true rfl) (now := B * (R + 1)) (by omega) (by omega) l5 (by simp)).mono ?_
    rintro _ h6 ⟨q6, po6, rfl, g6, s6, _, m6⟩
    rw [over_push rfl] at g6 s6 ⊢
    conv => whnf
    refine ⟨_, rfl, ?_⟩
    conv => whnf
    refine ⟨_, rfl, ?_⟩
    conv => whnf
    rw [wrap_i64 (x := R + 1) (by omega) (by omega), wrap_i64 (x := B * (R + 1)) (by omega) (by omega)]
    refine (cRecv (g := ⟨9, 2, 0, 1, 0, []⟩) (p := none) s6 o4 (of_decide_eq_true rfl) (by show a ≤ 1000000; omega) (now := B * (R + 1)) (by omega) (by omega) (fun h' m => (SlIs.nil _ false _)) (i64_in (of_decide_eq_true rfl) (of_decide_eq_true rfl)) (by simp)).mono ?_
    rintro _ h7 ⟨qr7, q7, po7, rfl, w7, g7, s7, _, m7⟩
    rw [over_recv rfl] at w7 g7 s7 ⊢
    conv => whnf
    refine ⟨_, rfl, ?_⟩
    conv => whnf
    refine ⟨_, rfl, ?_⟩
    conv => whnf
    refine (awake15 _).mono ?_
    rintro _ h8 rfl
    conv => whnf
  conv => whnf
  have hx : n ≤ R := by simpa using hx
  refine br_mk (fun hy => ?_) (fun hy => ?_)
  · conv => whnf
    have hy : a < K := by simpa using hy
    rw [wrap_i64 (x := B * n) (by omega) (by omega), wrap_i64 (x := B * n - 1) (by omega) (by omega)]
    obtain ⟨l4, n4⟩ := laid_oct hh [1]
    have o5 := recv_cok o (B * n - 1) ⟨9, 1, a, 0, 0, [1]⟩
    have hl5 : ∀ h', Ab.Mod (chAll d pc) (hh.push (.row true 1 (ints .u8 [1]))) h' → SlIs h' (some (hh.next, 0)) 1 false 1 (ints .u8 [1]) := fun h' m => l4.get m (fun i o e => .inl (fun k => by
      injection e with e
      injection e with e _
      have := s.lt k
      omega))
    refine (cRecv (g := ⟨9, 1, a, 0, 0, [1]⟩) (p := some (hh.next, 0)) (s.old n4) o (of_decide_eq_true rfl) (by show a ≤ 1000000; omega) (now := B * n - 1) (by omega) (by omega) hl5 (i64_in (by show -1000000000 ≤ a; omega) (by show a ≤ 1000000000; omega)) (by simp)).mono ?_
    rintro _ h5 ⟨qr5, q5, po5, rfl, w5, g5, s5, _, m5⟩
    rw [tv_recv] at w5 g5 s5 o5 ⊢
    have ro := (ro.get n4).get m5
    conv => whnf
    refine ⟨_, rfl, ?_⟩
    conv => whnf
    refine ⟨_, rfl, ?_⟩
    conv => whnf
    obtain ⟨i3, c3, x3, y1, y2, y3, y4⟩ := g5.cell (j := 0) (of_decide_eq_true rfl)
    refine ⟨i3, c3, 0, y1, rfl, of_decide_eq_true rfl, ?_⟩
    conv => whnf
    refine ⟨_, y3 1 _ rfl, ?_⟩
    conv => whnf
    refine ⟨i3, c3, 0, y1, rfl, of_decide_eq_true rfl, ?_⟩
    conv => whnf
    refine ⟨_, y3 3 _ rfl, ?_⟩
    conv => whnf
    rw [wrap_i64 (x := a + 1) (by omega) (by omega)]
    refine br_mk (fun hI => ?_) (fun hI => ?_)
    · exact absurd hI (by simp)
    conv => whnf
    rw [wrap_i64 (x := a + 1) (by omega) (by omega)]
    rw [wrap_i64 (x := B * n) (by omega) (by omega)]
    have oZ := pass_cok o5 (B * n)
    refine (cPass s5 o5 (of_decide_eq_true rfl) (now := B * n) (by omega) (by omega)).mono ?_
    rintro _ h9 ⟨q9, po9, rfl, g9, s9, _, m9⟩
    rw [tv_pass xs hx] at g9 s9 oZ ⊢
    have ro := ro.get m9
    conv => whnf
    refine ⟨_, rfl, ?_⟩
    conv => whnf
    refine ⟨_, rfl, ?_⟩
    conv => whnf
    obtain ⟨i4, c4, x4, u1, u2, u3, u4⟩ := g9.cell (j := 0) (of_decide_eq_true rfl)
    refine ⟨[0, 1, 2, 3, 4, 5, 6, 7, 8, 9, 10, 11, 12, 13, 14, 15, 16, 17, 18, 19, 20, 21, 22, 23, 24, 25, 26, 27, 28, 29, 30, 31, 32, 33, 34, 35, 36, 37, 38, 39, 40, 41, 42, 43, 44, 45], [0, 1, 3, 7, 15, 31, 63, 127, 255, 511, 1023, 2047, 4095, 8191, 16383, 32767, 65535, 131071, 262143, 32767, 1048575, 2097151, 4194303, 8388607, 16777215, 33554431, 67108863, 134217727, 8388607, 276824063, 1073741823, 2147483647, 4294967295, 8589934591, 17179869183, 34359738367, 68719476735, 137438953471, 274877906943, 549755813887, 1099511627775, 2199023255551, 4398046511103, 8796093022207, 17592186044415, 35184372088831], by kernel_rfl, ?_⟩
    conv => whnf
    refine ⟨i4, c4, 0, u1, rfl, of_decide_eq_true rfl, ?_⟩
    conv => whnf
    refine ⟨_, u3 2 _ rfl, ?_⟩
    conv => whnf
    refine ⟨i4, c4, 0, u1, rfl, of_decide_eq_true rfl, ?_⟩
    conv => whnf
    refine ⟨_, u3 3 _ rfl, ?_⟩
    conv => whnf
    refine br_mk (fun hI => ?_) (fun hI => ?_)
    · exact absurd hI (by simp)
    conv => whnf
    refine ⟨i4, c4, 0, u1, rfl, of_decide_eq_true rfl, ?_⟩
    conv => whnf
    refine ⟨_, u3 5 _ rfl, ?_⟩
    conv => whnf
    refine ⟨_, u4.is, hx8, ?_⟩
    conv => whnf
    refine ⟨_, ro.is, hx8, ?_⟩
    conv => whnf
    refine br_mk (fun hI => ?_) (fun hI => ?_)
    · exact absurd hI (by simp)
    conv => whnf
    refine ⟨i4, c4, 0, u1, rfl, of_decide_eq_true rfl, ?_⟩
    conv => whnf
    refine ⟨_, u3 1 _ rfl, ?_⟩
    conv => whnf
    refine ⟨i4, c4, 0, u1, rfl, of_decide_eq_true rfl, ?_⟩
    conv => whnf
    refine ⟨_, u3 0 _ rfl, ?_⟩
    conv => whnf
    rw [wrap_i64 (x := n + 1) (by omega) (by omega)]
    refine ⟨_, Forget.cons rfl (Forget.cons rfl (Forget.cons rfl (Forget.cons rfl (Forget.cons rfl (Forget.cons rfl (Forget.cons rfl (Forget.nil _))))))), ⟨n + 1, _, _, by omega, by omega, by omega, by omega, s9, oZ, ro, rfl⟩, ?_⟩
    show (R + 1 - (n + 1)).toNat < (R + 1 - n).toNat
    omega
  · conv => whnf
    rw [wrap_i64 (x := B * n) (by omega) (by omega)]
    have oZ := pass_cok o (B * n)
    refine (cPass s o (of_decide_eq_true rfl) (now := B * n) (by omega) (by omega)).mono ?_
    rintro _ h9 ⟨q9, po9, rfl, g9, s9, _, m9⟩
    rw [tv_pass xs hx] at g9 s9 oZ ⊢
    have ro := ro.get m9
    conv => whnf
    refine ⟨_, rfl, ?_⟩
    conv => whnf
    refine ⟨_, rfl, ?_⟩
    conv => whnf
    obtain ⟨i4, c4, x4, u1, u2, u3, u4⟩ := g9.cell (j := 0) (of_decide_eq_true rfl)
    refine ⟨[0, 1, 2, 3, 4, 5, 6, 7, 8, 9, 10, 11, 12, 13, 14, 15, 16, 17, 18, 19, 20, 21, 22, 23, 24, 25, 26, 27, 28, 29, 30, 31, 32, 33, 34, 35, 36, 37, 38, 39, 40, 41, 42, 43, 44, 45], [0, 1, 3, 7, 15, 31, 63, 127, 255, 511, 1023, 2047, 4095, 8191, 16383, 32767, 65535, 131071, 262143, 32767, 1048575, 2097151, 4194303, 8388607, 16777215, 33554431, 67108863, 134217727, 8388607, 276824063, 1073741823, 2147483647, 4294967295, 8589934591, 17179869183, 34359738367, 68719476735, 137438953471, 274877906943, 549755813887, 1099511627775, 2199023255551, 4398046511103, 8796093022207, 17592186044415, 35184372088831], by kernel_rfl, ?_⟩
    conv => whnf
    refine ⟨i4, c4, 0, u1, rfl, of_decide_eq_true rfl, ?_⟩
    conv => whnf
    refine ⟨_, u3 2 _ rfl, ?_⟩
    conv => whnf
    refine ⟨i4, c4, 0, u1, rfl, of_decide_eq_true rfl, ?_⟩
    conv => whnf
    refine ⟨_, u3 3 _ rfl, ?_⟩
    conv => whnf
    refine br_mk (fun hI => ?_) (fun hI => ?_)
    · exact absurd hI (by simp)
    conv => whnf
    refine ⟨i4, c4, 0, u1, rfl, of_decide_eq_true rfl, ?_⟩
    conv => whnf
    refine ⟨_, u3 5 _ rfl, ?_⟩
    conv => whnf
    refine ⟨_, u4.is, hx8, ?_⟩
    conv => whnf
    refine ⟨_, ro.is, hx8, ?_⟩
    conv => whnf
    refine br_mk (fun hI => ?_) (fun hI => ?_)
    · exact absurd hI (by simp)
    conv => whnf
    refine ⟨i4, c4, 0, u1, rfl, of_decide_eq_true rfl, ?_⟩
    conv => whnf
    refine ⟨_, u3 1 _ rfl, ?_⟩
    conv => whnf
    refine ⟨i4, c4, 0, u1, rfl, of_decide_eq_true rfl, ?_⟩
    conv => whnf
    refine ⟨_, u3 0 _ rfl, ?_⟩
    conv => whnf
    rw [wrap_i64 (x := n + 1) (by omega) (by omega)]
    refine ⟨_, Forget.cons rfl (Forget.cons rfl (Forget.cons rfl (Forget.cons rfl (Forget.cons rfl (Forget.cons rfl (Forget.cons rfl (Forget.nil _))))))), ⟨n + 1, _, _, by omega, by omega, by omega, by omega, s9, oZ, ro, rfl⟩, ?_⟩
    show (R + 1 - (n + 1)).toNat < (R + 1 - n).toNat
    omega
end Go.Proofs.Ytoljllfbabahpaa
