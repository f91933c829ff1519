/- TimerAnew: its walk. -/
import Derived.Test.YtpefdmidfllhoaaQ24
set_option linter.unusedVariables false
namespace Go.Proofs.Ytpefdmidfllhoaa
open Go Go.Ab
theorem waitV_self (B n : Int) : waitV B B n = B := by
  unfold waitV
  rw [waitW_stop (by omega), if_neg (by omega)]
theorem mul_bd {a b A C : Int} (h1 : 0 ≤ a) (h2 : a ≤ A) (h3 : 0 ≤ b) (h4 : b ≤ C) : 0 ≤ a * b ∧ a * b ≤ A * C :=
  ⟨Int.mul_nonneg h1 h3, Int.mul_le_mul h2 h4 h3 (by omega)⟩
theorem anew5 (h : H) (B R at_ : Int) : ACalls Try.prog 5 [i64 B, i64 R, i64 at_] h (fun r _ => r = .bool true) := by
  refine call_ Try.func5 rfl rfl (by kernel_rfl) ?_
  conv => whnf
  refine br_mk (fun ha => ?_) (fun ha => ?_)
  · conv => whnf
    refine (awake21 h).mono ?_
    rintro _ h1 rfl
    conv => whnf
  conv => whnf
  have ha : ¬ B < 1 := by simpa using ha
  refine br_mk (fun hb => ?_) (fun hb => ?_)
  · conv => whnf
    refine (awake21 h).mono ?_
    rintro _ h1 rfl
    conv => whnf
  conv => whnf
  have hb : ¬ B > 30 := by simpa using hb
  refine br_mk (fun hc => ?_) (fun hc => ?_)
  · conv => whnf
    refine (awake21 h).mono ?_
    rintro _ h1 rfl
    conv => whnf
  conv => whnf
  have hc : ¬ R < 1 := by simpa using hc
  refine br_mk (fun hd => ?_) (fun hd => ?_)
  · conv => whnf
    refine (awake21 h).mono ?_
    rintro _ h1 rfl
    conv => whnf
  conv => whnf
  have hd : ¬ R > 10 := by simpa using hd
  refine br_mk (fun he => ?_) (fun he => ?_)
  · conv => whnf
    refine (awake21 h).mono ?_
    rintro _ h1 rfl
    conv => whnf
  conv => whnf
  have he : ¬ at_ < 0 := by simpa using he
  refine br_mk (fun hf => ?_) (fun hf => ?_)
  · conv => whnf
    refine (awake21 h).mono ?_
    rintro _ h1 rfl
    conv => whnf
  conv => whnf
  have hf : ¬ at_ > 500 := by simpa using hf
  have ok : okT B B R = true := okT_iff.2 (by omega)
  refine (new22 h B B R).mono ?_
  rintro _ h2 q
  obtain ⟨g, mi, rfl, s1, _, _, m1⟩ := newT_yes q ok
  clear q
  conv => whnf
  refine ⟨_, rfl, ?_⟩
  conv => whnf
  refine ⟨_, rfl, ?_⟩
  conv => whnf
  refine (start23 s1 ok (id := 1) (now := 0) (i64_in (by decide) (by decide)) (by omega) (by omega)).mono ?_
  rintro _ h3 ⟨s3, m3⟩
  have s3 : TSt h3 g mi B B R [(1, 0 + waitV B B 0, 0)] := s3
  rw [waitV_self] at s3
  conv => whnf
  refine ⟨fun env hh => ∃ (i : Int), 0 ≤ i ∧ i ≤ R ∧ TSt hh g mi B B R [(1, B * i + B, i)] ∧ env = [(11, i64 i), (9, i64 (B * i)), (10, i64 i), (7, .ptr (some (g, 0))), (0, i64 B), (1, i64 R), (2, i64 at_)],
    fun env _ => match get env 11 with
      | .int _ z => (R - z).toNat
      | _ => 0, ⟨_, Forget.cons rfl (Forget.cons (by rw [Int.mul_zero]; rfl) (Forget.cons rfl (Forget.cons rfl (Forget.cons rfl (Forget.cons rfl (Forget.cons rfl (Forget.nil _))))))), 0, by omega, by omega, by rw [Int.mul_zero]; exact s3, rfl⟩, ?_⟩
  clear s3 m3 s1 m1
  rintro _ hh ⟨i, i0, i1, s3, rfl⟩
  obtain ⟨d0, d1⟩ := mul_bd (a := B) (b := i) (A := 30) (C := 10) (by omega) (by omega) i0 (by omega)
  conv => whnf
  refine br_mk (fun hx => ?_) (fun hx => ?_)
  · conv => whnf
    have hx : i < R := by simpa using hx
    have hmi : B * (i + 1) = B * i + B := by rw [Int.mul_add, Int.mul_one]
    have hw : IntKind.i64.wrap (B * i + B) = B * (i + 1) := by rw [wrap_i64 (by omega) (by omega), hmi]
    rw [hw]
    obtain ⟨q1, q2, q3⟩ := one_again (B := B) (M := B) (R := R) (now := B * (i + 1)) (x := (1, B * i + B, i)) (by rw [hmi]; exact Int.lt_irrefl _) hx
    refine (due24r s3 ok (by simp) (by simp; omega) (by omega) (by omega) [1] [] _ q1 q2 q3).mono ?_
    rintro _ h4 ⟨qa, qo, rfl, ra, ro, s4, m4⟩
    have s4 : TSt h4 g mi B B R [(1, B * (i + 1) + waitV B B (i + 1), i + 1)] := s4
    rw [waitV_self] at s4
    conv => whnf
    refine ⟨_, rfl, ?_⟩
    conv => whnf
    refine ⟨_, rfl, ?_⟩
    conv => whnf
    obtain ⟨u1, u2, u3⟩ := one_not (B := B) (M := B) (R := R) (now := B * (i + 1)) (x := (1, B * (i + 1) + B, i + 1)) (show B * (i + 1) + B > B * (i + 1) by omega)
    refine (due24r s4 ok (by simp) (by simp; omega) (by omega) (by omega) [] [] _ u1 u2 u3).mono ?_
    rintro _ h5 ⟨qb, qp, rfl, rb, rp, s5, m5⟩
    conv => whnf
    refine ⟨_, rfl, ?_⟩
    conv => whnf
    refine ⟨_, rfl, ?_⟩
    conv => whnf
    have hi : IntKind.i64.wrap (i + 1) = i + 1 := wrap_i64 (by omega) (by omega)
    rw [hi]
    refine ⟨_, Forget.cons rfl (Forget.cons rfl (Forget.cons rfl (Forget.cons rfl (Forget.cons rfl (Forget.cons rfl (Forget.cons rfl (Forget.nil _))))))), ⟨i + 1, by omega, by omega, s5, rfl⟩, ?_⟩
    show (R - (i + 1)).toNat < (R - i).toNat
    omega
  conv => whnf
  have hx : i = R := by
    have : ¬ i < R := by simpa using hx
    omega
  subst hx
  have hw1 : IntKind.i64.wrap (B * i + at_) = B * i + at_ := wrap_i64 (by omega) (by omega)
  rw [hw1]
  refine (start23 s3 ok (id := 1) (now := B * i + at_) (i64_in (by decide) (by decide)) (by omega) (by omega)).mono ?_
  rintro _ h6 ⟨s6, m6⟩
  have s6 : TSt h6 g mi B B i [(1, B * i + at_ + waitV B B 0, 0)] := s6
  rw [waitV_self] at s6
  conv => whnf
  refine ⟨fun env hh => ∃ (k : Int), 0 ≤ k ∧ k ≤ i ∧ TSt hh g mi B B i [(1, B * i + at_ + (B * k + B), k)] ∧ env = [(16, i64 k), (9, i64 (B * i)), (10, i64 i), (7, .ptr (some (g, 0))), (0, i64 B), (1, i64 i), (2, i64 at_)],
    fun env _ => match get env 16 with
      | .int _ z => (i - z).toNat
      | _ => 0, ⟨_, Forget.cons rfl (Forget.cons rfl (Forget.cons rfl (Forget.cons rfl (Forget.cons rfl (Forget.cons rfl (Forget.cons rfl (Forget.nil _))))))), 0, by omega, by omega, by rw [Int.mul_zero, Int.zero_add]; exact s6, rfl⟩, ?_⟩
  clear s6 m6 s3
  rintro _ h7 ⟨k, k0, k1, s7, rfl⟩
  obtain ⟨e0, e1⟩ := mul_bd (a := B) (b := k) (A := 30) (C := 10) (by omega) (by omega) k0 (by omega)
  have hmk : B * (k + 1) = B * k + B := by rw [Int.mul_add, Int.mul_one]
  have hmk2 : B * (k + 2) = B * k + B + B := by rw [Int.mul_add]; omega
  have hk1 : IntKind.i64.wrap (k + 1) = k + 1 := wrap_i64 (by omega) (by omega)
  have hk2 : IntKind.i64.wrap (k + 2) = k + 2 := wrap_i64 (by omega) (by omega)
  have hA : IntKind.i64.wrap (IntKind.i64.wrap (B * i + at_) + IntKind.i64.wrap (B * IntKind.i64.wrap (k + 1))) = B * i + at_ + (B * k + B) := by
    rw [hk1, hw1, wrap_i64 (x := B * (k + 1)) (by omega) (by omega), wrap_i64 (by omega) (by omega), hmk]
  have hA2 : IntKind.i64.wrap (IntKind.i64.wrap (B * i + at_) + IntKind.i64.wrap (B * IntKind.i64.wrap (k + 2))) = B * i + at_ + (B * k + B + B) := by
    rw [hk2, hw1, wrap_i64 (x := B * (k + 2)) (by omega) (by omega), wrap_i64 (by omega) (by omega), hmk2]
  conv => whnf
  refine br_mk (fun hx => ?_) (fun hx => ?_)
  · conv => whnf
    have hx : k < i := by simpa using hx
    rw [hA]
    obtain ⟨q1, q2, q3⟩ := one_again (B := B) (M := B) (R := i) (now := B * i + at_ + (B * k + B)) (x := (1, B * i + at_ + (B * k + B), k)) (Int.lt_irrefl _) hx
    refine (due24r s7 ok (by simp) (by simp; omega) (by omega) (by omega) [1] [] _ q1 q2 q3).mono ?_
    rintro _ h4 ⟨qa, qo, rfl, ra, ro, s4, m4⟩
    have s4 : TSt h4 g mi B B i [(1, B * i + at_ + (B * k + B) + waitV B B (k + 1), k + 1)] := s4
    rw [waitV_self] at s4
    conv => whnf
    refine ⟨_, rfl, ?_⟩
    conv => whnf
    refine ⟨_, rfl, ?_⟩
    conv => whnf
    rw [hk1]
    have s4 : TSt h4 g mi B B i [(1, B * i + at_ + (B * (k + 1) + B), k + 1)] := by
      rw [hmk, ← Int.add_assoc (B * i + at_)]
      exact s4
    refine ⟨_, Forget.cons rfl (Forget.cons rfl (Forget.cons rfl (Forget.cons rfl (Forget.cons rfl (Forget.cons rfl (Forget.cons rfl (Forget.nil _))))))), ⟨k + 1, by omega, by omega, s4, rfl⟩, ?_⟩
    show (i - (k + 1)).toNat < (i - k).toNat
    omega
  conv => whnf
  have hx : k = i := by
    have : ¬ k < i := by simpa using hx
    omega
  subst hx
  rw [hA]
  obtain ⟨q1, q2, q3⟩ := one_over (B := B) (M := B) (R := k) (now := B * k + at_ + (B * k + B)) (x := (1, B * k + at_ + (B * k + B), k)) (Int.lt_irrefl _) (Int.lt_irrefl _)
  refine (due24r s7 ok (by simp) (by simp; omega) (by omega) (by omega) [] [1] _ q1 q2 q3).mono ?_
  rintro _ h4 ⟨qa, qo, rfl, ra, ro, s4, m4⟩
  conv => whnf
  refine ⟨_, rfl, ?_⟩
  conv => whnf
  refine ⟨_, rfl, ?_⟩
  conv => whnf
  rw [hA2]
  refine (due24r s4 ok (by simp) (by simp) (now := B * k + at_ + (B * k + B + B)) (by omega) (by omega) [] [] [] rfl rfl rfl).mono ?_
  rintro _ h5 ⟨qb, qp, rfl, rb, rp, s5, m5⟩
  conv => whnf
  refine ⟨_, rfl, ?_⟩
  conv => whnf
  refine ⟨_, rfl, ?_⟩
  conv => whnf
  refine br_mk (fun hy => ?_) (fun hy => ?_)
  rotate_left
  · exact absurd hy (by simp)
  conv => whnf
  refine (len25 s5).mono ?_
  rintro _ h6 ⟨eh, rfl⟩
  subst eh
  conv => whnf
  refine (awake21 _).mono ?_
  rintro _ h7 rfl
  conv => whnf
end Go.Proofs.Ytpefdmidfllhoaa
