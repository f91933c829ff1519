/- TimerTries: its walk. -/
import Derived.Test.YtpefdmidfllhoaaQ23
set_option linter.unusedVariables false
namespace Go.Proofs.Ytpefdmidfllhoaa
open Go Go.Ab
theorem waitW_step {M : Int} : ∀ (n : Nat) {B : Int}, 1 ≤ B → waitW M B n ≤ waitW M B (n + 1)
  | 0, B, h => waitW_ge 1 h
  | n + 1, B, h => by
    rw [waitW, waitW]
    split
    · exact waitW_step n (by omega)
    · exact Int.le_refl _
theorem waitV_step {B M n : Int} (h : 1 ≤ B) (hn : 0 ≤ n) : waitV B M n ≤ waitV B M (n + 1) := by
  have e : (n + 1).toNat = n.toNat + 1 := by omega
  have := waitW_step (M := M) n.toNat h
  unfold waitV
  rw [e]
  split <;> split <;> omega
theorem waitV_zero {B M : Int} (h : B ≤ M) : waitV B M 0 = B := by
  unfold waitV
  rw [show (0 : Int).toNat = 0 from rfl, waitW, if_neg (by omega)]
theorem ag1 (R now : Int) (x : Wt) : agS R now [x] = if agB R now x then [x.1] else [] := by
  have := agS_snoc R now [] x
  exact this
theorem ov1 (R now : Int) (x : Wt) : ovS R now [x] = if ovB R now x then [x.1] else [] := by
  have := ovS_snoc R now [] x
  exact this
theorem rs1 (B M R now : Int) (x : Wt) : rsS B M R now [x] = (dueF B M R now x).toList := by
  have := rsS_snoc B M R now [] x
  exact this
/-- one alone: not yet, again, over -/
theorem one_not {B M R now : Int} {x : Wt} (h : x.2.1 > now) : agS R now [x] = [] ∧ ovS R now [x] = [] ∧ rsS B M R now [x] = [x] := by
  refine ⟨?_, ?_, ?_⟩
  · rw [ag1, agB, decide_eq_true h]; rfl
  · rw [ov1, ovB, decide_eq_true h]; rfl
  · rw [rs1, dueF, if_pos h]; rfl
theorem one_again {B M R now : Int} {x : Wt} (h : ¬ x.2.1 > now) (h2 : x.2.2 < R) : agS R now [x] = [x.1] ∧ ovS R now [x] = [] ∧ rsS B M R now [x] = [(x.1, now + waitV B M (x.2.2 + 1), x.2.2 + 1)] := by
  refine ⟨?_, ?_, ?_⟩
  · rw [ag1, agB, decide_eq_false h, decide_eq_true h2]; rfl
  · rw [ov1, ovB, decide_eq_false h, decide_eq_true h2]; rfl
  · rw [rs1, dueF, if_neg h, if_pos h2]; rfl
theorem one_over {B M R now : Int} {x : Wt} (h : ¬ x.2.1 > now) (h2 : ¬ x.2.2 < R) : agS R now [x] = [] ∧ ovS R now [x] = [x.1] ∧ rsS B M R now [x] = [] := by
  refine ⟨?_, ?_, ?_⟩
  · rw [ag1, agB, decide_eq_false h, decide_eq_false h2]; rfl
  · rw [ov1, ovB, decide_eq_false h, decide_eq_false h2]; rfl
  · rw [rs1, dueF, if_neg h, if_neg h2]; rfl
theorem tries4 (h : H) (B M R st : Int) : ACalls Try.prog 4 [i64 B, i64 M, i64 R, i64 st] h (fun r _ => r = .bool true) := by
  refine call_ Try.func4 rfl rfl (by kernel_rfl) ?_
  conv => whnf
  refine br_mk (fun ha => ?_) (fun ha => ?_)
  · conv => whnf
    refine (awake21 h).mono ?_
    rintro _ h1 rfl
    conv => whnf
  conv => whnf
  have ha : ¬ B < 1 := by simpa using ha
  refine br_mk (fun hb => ?_) (fun hb => ?_)
  · conv => whnf
    refine (awake21 h).mono ?_
    rintro _ h1 rfl
    conv => whnf
  conv => whnf
  have hb : ¬ B > 20 := by simpa using hb
  refine br_mk (fun hc => ?_) (fun hc => ?_)
  · conv => whnf
    refine (awake21 h).mono ?_
    rintro _ h1 rfl
    conv => whnf
  conv => whnf
  have hc : ¬ M < B := by simpa using hc
  refine br_mk (fun hd => ?_) (fun hd => ?_)
  · conv => whnf
    refine (awake21 h).mono ?_
    rintro _ h1 rfl
    conv => whnf
  conv => whnf
  have hd : ¬ M > 60 := by simpa using hd
  refine br_mk (fun he => ?_) (fun he => ?_)
  · conv => whnf
    refine (awake21 h).mono ?_
    rintro _ h1 rfl
    conv => whnf
  conv => whnf
  have he : ¬ R < 0 := by simpa using he
  refine br_mk (fun hf => ?_) (fun hf => ?_)
  · conv => whnf
    refine (awake21 h).mono ?_
    rintro _ h1 rfl
    conv => whnf
  conv => whnf
  have hf : ¬ R > 20 := by simpa using hf
  refine (round19 (m := 1000) (by decide) (by decide) st _).mono ?_
  rintro _ h1 ⟨eh, rfl⟩
  subst eh
  have hs0 := Int.emod_nonneg st (show (1000 : Int) ≠ 0 by decide)
  have hs1 := Int.emod_lt_of_pos st (show (0 : Int) < 1000 by decide)
  generalize st % 1000 = s at hs0 hs1 ⊢
  conv => whnf
  have ok : okT B M R = true := okT_iff.2 (by omega)
  refine (new22 h1 B M R).mono ?_
  rintro _ h2 q
  obtain ⟨g, mi, rfl, s1, _, _, m1⟩ := newT_yes q ok
  clear q
  conv => whnf
  refine ⟨_, rfl, ?_⟩
  conv => whnf
  refine ⟨_, rfl, ?_⟩
  conv => whnf
  refine (start23 s1 ok (id := 5) (now := s) (i64_in (by decide) (by decide)) (by omega) (by omega)).mono ?_
  rintro _ h3 ⟨s3, m3⟩
  have s3 : TSt h3 g mi B M R [(5, s + waitV B M 0, 0)] := s3
  conv => whnf
  have hmR : 0 ≤ M * R ∧ M * R ≤ 1200 := ⟨Int.mul_nonneg (by omega) (by omega), by
    have := Int.mul_le_mul (show M ≤ 60 by omega) (show R ≤ 20 by omega) (by omega) (by decide)
    omega⟩
  have hmul : M * (R + 2) = M * R + 2 * M := by rw [Int.mul_add]; omega
  refine ⟨fun env hh => ∃ (now last wt n : Int), TSt hh g mi B M R [(5, last + waitV B M n, n)] ∧ 0 ≤ n ∧ n ≤ R ∧ s ≤ now ∧ now ≤ last + waitV B M n ∧ s ≤ last ∧ last ≤ s + M * n ∧ last ≤ now ∧ wt ≤ waitV B M n ∧ env = [(15, i64 now), (12, i64 last), (13, i64 wt), (14, i64 n), (10, .ptr (some (g, 0))), (9, i64 s), (1, i64 M), (2, i64 R), (0, i64 B)],
    fun env _ => match get env 15 with
      | .int _ z => (s + M * (R + 2) + 1 - z).toNat
      | _ => 0, ⟨_, Forget.cons rfl (Forget.cons rfl (Forget.cons rfl (Forget.cons rfl (Forget.cons rfl (Forget.cons rfl (Forget.cons rfl (Forget.cons rfl (Forget.cons rfl (Forget.nil _))))))))), s, s, 0, 0, s3, by omega, by omega, by omega, by rw [waitV_zero (by omega)]; omega, by omega, by omega, by omega, by rw [waitV_zero (by omega)]; omega, rfl⟩, ?_⟩
  clear s3 m3 s1 m1
  rintro _ hh ⟨now, last, wt, n, s3, n0, n1, w0, w1, w2, w3, w4, w5, rfl⟩
  conv => whnf
  have hw := waitV_rng (B := B) (M := M) (by omega) (by omega) n
  have hMn : M * n ≤ M * R := Int.mul_le_mul_of_nonneg_left n1 (by omega)
  have hMn0 : 0 ≤ M * n := Int.mul_nonneg (by omega) n0
  have e1 : IntKind.i64.wrap (s + IntKind.i64.wrap (M * IntKind.i64.wrap (R + 2))) = s + M * (R + 2) := by
    rw [wrap_i64 (x := R + 2) (by omega) (by omega), wrap_i64 (x := M * (R + 2)) (by omega) (by omega), wrap_i64 (by omega) (by omega)]
  rw [e1]
  refine br_mk (fun hg => ?_) (fun hg => ?_)
  rotate_left
  · have hg : ¬ now ≤ s + M * (R + 2) := by simpa using hg
    omega
  conv => whnf
  have hg : now ≤ s + M * (R + 2) := by simpa using hg
  have hmono := waitV_step (B := B) (M := M) (n := n) (by omega) n0
  have hnext : IntKind.i64.wrap (now + 1) = now + 1 := wrap_i64 (by omega) (by omega)
  have hsub : IntKind.i64.wrap (now - last) = now - last := wrap_i64 (by omega) (by omega)
  by_cases hdue : last + waitV B M n > now
  · obtain ⟨q1, q2, q3⟩ := one_not (B := B) (M := M) (R := R) (x := (5, last + waitV B M n, n)) hdue
    refine (due24r s3 ok (by simp) (by simp; omega) (by omega) (by omega) [] [] _ q1 q2 q3).mono ?_
    rintro _ h4 ⟨qa, qo, rfl, ra, ro, s4, m4⟩
    conv => whnf
    refine ⟨_, rfl, ?_⟩
    conv => whnf
    refine ⟨_, rfl, ?_⟩
    conv => whnf
    rw [hnext]
    refine ⟨_, Forget.cons rfl (Forget.cons rfl (Forget.cons rfl (Forget.cons rfl (Forget.cons rfl (Forget.cons rfl (Forget.cons rfl (Forget.cons rfl (Forget.cons rfl (Forget.nil _))))))))), ⟨now + 1, last, wt, n, s4, n0, n1, by omega, by omega, w2, w3, by omega, w5, rfl⟩, ?_⟩
    show (s + M * (R + 2) + 1 - (now + 1)).toNat < (s + M * (R + 2) + 1 - now).toNat
    omega
  · have hnow : now = last + waitV B M n := by omega
    by_cases hn : n < R
    · obtain ⟨q1, q2, q3⟩ := one_again (B := B) (M := M) (R := R) (x := (5, last + waitV B M n, n)) hdue hn
      refine (due24r s3 ok (by simp) (by simp; omega) (by omega) (by omega) [5] [] _ q1 q2 q3).mono ?_
      rintro _ h4 ⟨qa, qo, rfl, ra, ro, s4, m4⟩
      conv => whnf
      refine ⟨_, rfl, ?_⟩
      conv => whnf
      refine ⟨_, rfl, ?_⟩
      conv => whnf
      obtain ⟨i1, c1, f1, f2⟩ := slo_get ra.is (j := 0) (by simp)
      refine ⟨i1, c1, 0, f1, rfl, by simp, ?_⟩
      conv => whnf
      refine ⟨_, f2, ?_⟩
      conv => whnf
      rw [hsub]
      refine br_mk (fun hx => ?_) (fun hx => ?_)
      · have hx : now - last < wt := by simpa using hx
        omega
      conv => whnf
      refine br_mk (fun hy => ?_) (fun hy => ?_)
      · have hy : now - last > M := by
          rw [hsub] at hy
          simpa using hy
        omega
      conv => whnf
      have hn1 : IntKind.i64.wrap (n + 1) = n + 1 := wrap_i64 (by omega) (by omega)
      have s4 : TSt h4 g mi B M R [(5, now + waitV B M (n + 1), n + 1)] := s4
      have hw1 := waitV_rng (B := B) (M := M) (by omega) (by omega) (n + 1)
      refine br_mk (fun hz => ?_) (fun hz => ?_)
      · conv => whnf
        have hz : n = 0 := by simpa using hz
        refine br_mk (fun hv => ?_) (fun hv => ?_)
        · rw [hsub, hnow, hz, waitV_zero (by omega)] at hv
          exact absurd hv (by simp; omega)
        conv => whnf
        rw [hsub, hnext, hn1]
        have hMn1 : M * (n + 1) = M * n + M := by rw [Int.mul_add, Int.mul_one]
        refine ⟨_, Forget.cons rfl (Forget.cons rfl (Forget.cons rfl (Forget.cons rfl (Forget.cons rfl (Forget.cons rfl (Forget.cons rfl (Forget.cons rfl (Forget.cons rfl (Forget.nil _))))))))), ⟨now + 1, now, now - last, n + 1, s4, by omega, by omega, by omega, by omega, by omega, by omega, by omega, by omega, rfl⟩, ?_⟩
        show (s + M * (R + 2) + 1 - (now + 1)).toNat < (s + M * (R + 2) + 1 - now).toNat
        omega
      · conv => whnf
        rw [hsub, hnext, hn1]
        have hMn1 : M * (n + 1) = M * n + M := by rw [Int.mul_add, Int.mul_one]
        refine ⟨_, Forget.cons rfl (Forget.cons rfl (Forget.cons rfl (Forget.cons rfl (Forget.cons rfl (Forget.cons rfl (Forget.cons rfl (Forget.cons rfl (Forget.cons rfl (Forget.nil _))))))))), ⟨now + 1, now, now - last, n + 1, s4, by omega, by omega, by omega, by omega, by omega, by omega, by omega, by omega, rfl⟩, ?_⟩
        show (s + M * (R + 2) + 1 - (now + 1)).toNat < (s + M * (R + 2) + 1 - now).toNat
        omega
    · obtain ⟨q1, q2, q3⟩ := one_over (B := B) (M := M) (R := R) (x := (5, last + waitV B M n, n)) hdue hn
      refine (due24r s3 ok (by simp) (by simp; omega) (by omega) (by omega) [] [5] _ q1 q2 q3).mono ?_
      rintro _ h4 ⟨qa, qo, rfl, ra, ro, s4, m4⟩
      conv => whnf
      refine ⟨_, rfl, ?_⟩
      conv => whnf
      refine ⟨_, rfl, ?_⟩
      conv => whnf
      obtain ⟨i1, c1, f1, f2⟩ := slo_get ro.is (j := 0) (by simp)
      refine ⟨i1, c1, 0, f1, rfl, by simp, ?_⟩
      conv => whnf
      refine ⟨_, f2, ?_⟩
      conv => whnf
      refine br_mk (fun hx => ?_) (fun hx => ?_)
      · have hx : n ≠ R := by
          rintro rfl
          simp at hx
        omega
      conv => whnf
      refine br_mk (fun hy => ?_) (fun hy => ?_)
      · have hy : now - last < wt := by
          rw [hsub] at hy
          simpa using hy
        omega
      conv => whnf
      refine br_mk (fun hz => ?_) (fun hz => ?_)
      · have hz : now - last > M := by
          rw [hsub] at hz
          simpa using hz
        omega
      conv => whnf
      refine (len25 s4).mono ?_
      rintro _ h5 ⟨eh, rfl⟩
      subst eh
      conv => whnf
      refine (awake21 _).mono ?_
      rintro _ h6 rfl
      conv => whnf
end Go.Proofs.Ytpefdmidfllhoaa
