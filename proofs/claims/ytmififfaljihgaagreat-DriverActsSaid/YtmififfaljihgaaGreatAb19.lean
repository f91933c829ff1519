/- What data tell of slices. -/
import Derived.Test.YtmififfaljihgaaGreatAb16
import Derived.Test.YtmififfaljihgaaGreatAb18
set_option linter.unusedVariables false
namespace Go.Ab
open Go
theorem args_cons {D : Type} {T : TT} {h : H} {n t : Nat} {ts : List Nat} {ds : List (DataW D)} {vs : List V} (r : ArgsRD T h n (t :: ts) ds vs) : ∃ (d : DataW D) (c : List V) (ds' : List (DataW D)) (vs' : List V), vs = argV T t c :: vs' ∧ RD T h n t d c ∧ ArgsRD T h n ts ds' vs' := by
  cases ds with
  | nil => cases vs <;> exact r.elim
  | cons d ds =>
    cases vs with
    | nil => exact r.elim
    | cons v vs =>
      obtain ⟨⟨c, rfl, h1⟩, h2⟩ := r
      exact ⟨d, c, ds, vs, rfl, h1, h2⟩
theorem args_nil {D : Type} {T : TT} {h : H} {n : Nat} {ds : List (DataW D)} {vs : List V} (r : ArgsRD T h n [] ds vs) : vs = [] := by
  cases ds <;> cases vs <;> first
    | rfl
    | exact r.elim
theorem rd_ints {D : Type} {T : TT} {h : H} {n e : Nat} {k : IntKind} (he : (T.at_ e).d = .int k) : ∀ {ds : List (DataW D)} {css : List (List V)}, RDs (RD T h (n + 1) e) ds css → ∃ xs : List Int, css.flatten = ints k xs ∧ xs.length = ds.length ∧ ∀ x ∈ xs, k.min ≤ x ∧ x ≤ k.max
  | [], [], _ => ⟨[], rfl, rfl, fun x hx => by cases hx⟩
  | d :: ds, c :: cs, r => by
    obtain ⟨r1, r2⟩ := r
    obtain ⟨xs, h1, h2, h3⟩ := rd_ints he r2
    simp only [RD, he] at r1
    split at r1
    all_goals first
      | contradiction
      | exact r1.elim
      | skip
    rename_i k1 k2 x e1
    cases e1
    obtain ⟨rfl, rfl, b1, b2⟩ := r1
    refine ⟨x :: xs, by rw [List.flatten_cons, h1]; rfl, by simp [h2], fun y hy => ?_⟩
    rcases List.mem_cons.1 hy with rfl | hy
    · exact ⟨b1, b2⟩
    · exact h3 y hy
  | [], _ :: _, r => r.elim
  | _ :: _, [], r => r.elim
theorem rd_slice {D : Type} {T : TT} {h : H} {n t e : Nat} (ht : (T.at_ t).d = .sl e) {d : DataW D} {c : List V} (r : RD T h (n + 1) t d c) : ∃ (p : Option (Nat × Nat)) (ds : List (DataW D)) (css : List (List V)), c = [.sl p ds.length] ∧ ds.length ≤ maxLen ∧ (ds.length = 0 ∨ ∃ i, p = some (i, 0) ∧ h.obj i = some (.row false (T.at_ e).size css.flatten)) ∧ RDs (RD T h n e) ds css := by
  simp only [RD, ht] at r
  split at r
  all_goals first
    | contradiction
    | exact r.elim
    | skip
  · exact ⟨none, [], [], r, Nat.zero_le _, .inl rfl, trivial⟩
  · rename_i e' ds off e1
    cases e1
    obtain ⟨i, css, rfl, h1, h2, h3⟩ := r
    refine ⟨some (i, 0), ds, css, rfl, h1, ?_, h3⟩
    cases ds with
    | nil => exact .inl rfl
    | cons d ds => exact .inr ⟨i, rfl, h2 (by simp)⟩
/-- a slice of integers -/
theorem rd_slice_ints {D : Type} {T : TT} {h : H} {n t e : Nat} {k : IntKind} (ht : (T.at_ t).d = .sl e) (he : (T.at_ e).d = .int k) (hs : (T.at_ e).size = 1) {d : DataW D} {c : List V} (r : RD T h (n + 2) t d c) :
    ∃ (p : Option (Nat × Nat)) (m : Nat) (xs : List Int), c = [.sl p m] ∧ m ≤ maxLen ∧ RoSl h p m 1 (ints k xs) ∧ ∀ x ∈ xs, k.min ≤ x ∧ x ≤ k.max := by
  obtain ⟨p, ds, css, rfl, h1, h2, h3⟩ := rd_slice ht r
  obtain ⟨xs, e1, e2, e3⟩ := rd_ints he h3
  rw [hs, e1] at h2
  refine ⟨p, ds.length, xs, rfl, h1, ⟨by rw [ints_length, e2, Nat.mul_one], ?_⟩, e3⟩
  rcases h2 with h2 | ⟨i, rfl, h2⟩
  · exact .inl h2
  · exact .inr ⟨i, 0, _, rfl, h2, by rw [ints_length, e2]; omega, by rw [List.drop_zero, Nat.mul_one, ← e2, ← ints_length k, List.take_length]⟩
theorem rd_int {D : Type} {T : TT} {h : H} {n t : Nat} {k : IntKind} (ht : (T.at_ t).d = .int k) {d : DataW D} {c : List V} (r : RD T h (n + 1) t d c) : ∃ x : Int, c = [.int k x] ∧ k.min ≤ x ∧ x ≤ k.max := by
  simp only [RD, ht] at r
  split at r
  all_goals first
    | contradiction
    | exact r.elim
    | skip
  rename_i k1 k2 x e1
  cases e1
  obtain ⟨rfl, rfl, b1, b2⟩ := r
  exact ⟨x, rfl, b1, b2⟩
theorem rd_bool {D : Type} {T : TT} {h : H} {n t : Nat} (ht : (T.at_ t).d = .bool) {d : DataW D} {c : List V} (r : RD T h (n + 1) t d c) : ∃ b : Bool, c = [.bool b] := by
  simp only [RD, ht] at r
  split at r
  all_goals first
    | contradiction
    | exact r.elim
    | skip
  exact ⟨_, r⟩
theorem rd_st {D : Type} {T : TT} {h : H} {n t : Nat} {fs : List (Nat × Nat)} (ht : (T.at_ t).d = .st fs) {d : DataW D} {c : List V} (r : RD T h (n + 1) t d c) : ∃ (ds : List (DataW D)) (css : List (List V)), c = css.flatten ∧ RDf (fun t => RD T h n t) fs ds css := by
  simp only [RD, ht] at r
  split at r
  all_goals first
    | contradiction
    | exact r.elim
    | skip
  rename_i e1
  cases e1
  obtain ⟨css, h1, h2⟩ := r
  exact ⟨_, css, h1, h2⟩
theorem rdf_cons {D : Type} {R : Nat → DataW D → List V → Prop} {f : Nat × Nat} {fs : List (Nat × Nat)} {ds : List (DataW D)} {css : List (List V)} (r : RDf R (f :: fs) ds css) : ∃ (d : DataW D) (c : List V) (ds' : List (DataW D)) (css' : List (List V)), css = c :: css' ∧ R f.1 d c ∧ RDf R fs ds' css' := by
  cases ds with
  | nil => cases css <;> exact r.elim
  | cons d ds =>
    cases css with
    | nil => exact r.elim
    | cons c css => exact ⟨d, c, ds, css, rfl, r.1, r.2⟩
theorem rdf_nil {D : Type} {R : Nat → DataW D → List V → Prop} {ds : List (DataW D)} {css : List (List V)} (r : RDf R [] ds css) : css = [] := by
  cases ds <;> cases css <;> first
    | rfl
    | exact r.elim
/-- an array of integers -/
theorem rd_arr_ints {D : Type} {T : TT} {h : H} {n t m e : Nat} {k : IntKind} (ht : (T.at_ t).d = .arr m e) (he : (T.at_ e).d = .int k) {d : DataW D} {c : List V} (r : RD T h (n + 2) t d c) : ∃ xs : List Int, c = ints k xs ∧ xs.length = m ∧ ∀ x ∈ xs, k.min ≤ x ∧ x ≤ k.max := by
  simp only [RD, ht] at r
  split at r
  all_goals first
    | contradiction
    | exact r.elim
    | skip
  rename_i m' e' ds e1
  cases e1
  obtain ⟨css, rfl, h1, h2⟩ := r
  obtain ⟨xs, e1, e2, e3⟩ := rd_ints he h2
  exact ⟨xs, e1, by omega, e3⟩
/-- pairs of integers -/
def pairs (k : IntKind) (ps : List (Int × Int)) : List V := ps.flatMap fun p => [.int k p.1, .int k p.2]
theorem rd_pairs {D : Type} {T : TT} {h : H} {n t e : Nat} {k : IntKind} (ht : (T.at_ t).d = .arr 2 e) (he : (T.at_ e).d = .int k) : ∀ {ds : List (DataW D)} {css : List (List V)}, RDs (RD T h (n + 2) t) ds css → ∃ ps : List (Int × Int), css.flatten = pairs k ps ∧ ps.length = ds.length ∧ ∀ p ∈ ps, k.min ≤ p.1 ∧ p.1 ≤ k.max ∧ k.min ≤ p.2 ∧ p.2 ≤ k.max
  | [], [], _ => ⟨[], rfl, rfl, fun x hx => by cases hx⟩
  | d :: ds, c :: cs, r => by
    obtain ⟨r1, r2⟩ := r
    obtain ⟨ps, h1, h2, h3⟩ := rd_pairs ht he r2
    obtain ⟨xs, rfl, hl, hb⟩ := rd_arr_ints ht he r1
    obtain ⟨a, b, rfl⟩ : ∃ a b, xs = [a, b] := by
      match xs, hl with
      | [a, b], _ => exact ⟨a, b, rfl⟩
    refine ⟨(a, b) :: ps, by rw [List.flatten_cons, h1]; rfl, by simp [h2], fun y hy => ?_⟩
    rcases List.mem_cons.1 hy with rfl | hy
    · exact ⟨(hb a (by simp)).1, (hb a (by simp)).2, (hb b (by simp)).1, (hb b (by simp)).2⟩
    · exact h3 y hy
  | [], _ :: _, r => r.elim
  | _ :: _, [], r => r.elim
theorem pairs_length (k : IntKind) (ps : List (Int × Int)) : (pairs k ps).length = ps.length * 2 := by
  induction ps with
  | nil => rfl
  | cons p ps ih =>
    simp only [pairs, List.flatMap_cons, List.length_append, List.length_cons] at ih ⊢
    simp only [ih, List.length_nil]
    omega
theorem pairs_get0 (k : IntKind) (ps : List (Int × Int)) (j : Nat) (hj : j < ps.length) : (pairs k ps)[j * 2]? = some (.int k (ps.getD j (0, 0)).1) ∧ (pairs k ps)[j * 2 + 1]? = some (.int k (ps.getD j (0, 0)).2) := by
  induction ps generalizing j with
  | nil => simp at hj
  | cons p ps ih =>
    have e : pairs k (p :: ps) = .int k p.1 :: .int k p.2 :: pairs k ps := rfl
    rw [e]
    cases j with
    | zero => exact ⟨rfl, rfl⟩
    | succ j =>
      have := ih j (by simpa using hj)
      have h2 : (j + 1) * 2 = j * 2 + 1 + 1 := by omega
      rw [h2]
      simp only [List.getElem?_cons_succ]
      exact this
/-- a slice of pairs of integers -/
theorem rd_slice_pairs {D : Type} {T : TT} {h : H} {n t a e : Nat} {k : IntKind} (ht : (T.at_ t).d = .sl a) (ha : (T.at_ a).d = .arr 2 e) (he : (T.at_ e).d = .int k) (hs : (T.at_ a).size = 2) {d : DataW D} {c : List V} (r : RD T h (n + 3) t d c) :
    ∃ (p : Option (Nat × Nat)) (m : Nat) (ps : List (Int × Int)), c = [.sl p m] ∧ m ≤ maxLen ∧ RoSl h p m 2 (pairs k ps) := by
  obtain ⟨p, ds, css, rfl, h1, h2, h3⟩ := rd_slice ht r
  obtain ⟨ps, e1, e2, e3⟩ := rd_pairs ha he h3
  rw [hs, e1] at h2
  refine ⟨p, ds.length, ps, rfl, h1, ⟨by rw [pairs_length, e2], ?_⟩⟩
  rcases h2 with h2 | ⟨i, rfl, h2⟩
  · exact .inl h2
  · exact .inr ⟨i, 0, _, rfl, h2, by rw [pairs_length, e2]; omega, by rw [List.drop_zero, ← e2, ← pairs_length k, List.take_length]⟩
end Go.Ab
