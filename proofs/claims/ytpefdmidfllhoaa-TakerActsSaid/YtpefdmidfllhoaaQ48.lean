/- Rows alike. -/
import Derived.Test.YtpefdmidfllhoaaQ47
set_option linter.unusedVariables false
namespace Go.Proofs.Ytpefdmidfllhoaa
open Go Go.Ab
def Oct (b : List Int) : Prop := ∀ x ∈ b, 0 ≤ x ∧ x < 256
theorem rows31 {h : H} {p q : Option (Nat × Nat)} {L K : List (List Int)} (ra : Rws h p L) (rb : Rws h q K) (ha : ∀ b ∈ L, Oct b) (hb : ∀ b ∈ K, Oct b) (hn : L.length ≤ 1000000) :
    ACalls Try.prog 31 [.sl p L.length, .sl q K.length] h (fun r h' => h' = h ∧ r = .bool (decide (L = K))) := by
  refine call_ Try.func31 rfl rfl (by kernel_rfl) ?_
  conv => whnf
  refine br_mk (fun hd => ?_) (fun hd => ?_)
  · conv => whnf
    have hd : ¬ L.length = K.length := by
      intro e
      rw [e] at hd
      simp at hd
    exact ⟨rfl, by rw [decide_eq_false (by rintro rfl; omega)]⟩
  conv => whnf
  have hnm : L.length = K.length := by
    have : (L.length : Int) = K.length := by simpa using hd
    omega
  clear hd
  refine ⟨fun env hh => ∃ (j : Nat) (z : Int), j ≤ L.length ∧ z = j ∧ hh = h ∧ (∀ k (h1 : k < L.length) (h2 : k < K.length), k < j → L[k] = K[k]) ∧ env = [(5, i64 z), (0, .sl p L.length), (1, .sl q K.length)],
    fun env _ => match get env 5 with
      | .int _ z => (L.length - z).toNat
      | _ => 0, ⟨_, Forget.cons rfl (Forget.cons rfl (Forget.cons rfl (Forget.nil _))), 0, _, Nat.zero_le _, rfl, rfl, fun k _ _ hk => absurd hk (Nat.not_lt_zero k), rfl⟩, ?_⟩
  rintro _ hh ⟨j, z, hj, rfl, eh, hall, rfl⟩
  subst eh
  conv => whnf
  refine br_mk (fun hd => ?_) (fun hd => ?_)
  · conv => whnf
    have hd : j < L.length := by simpa using hd
    have hdk : j < K.length := by omega
    refine ⟨[0, 1, 2, 3, 4, 5, 6, 7, 8, 9, 10], [0, 0, 3, 7, 15, 0, 0, 96, 224, 480, 1023], by kernel_rfl, ?_⟩
    conv => whnf
    obtain ⟨i1, c1, p1, f1, f2, f3⟩ := ra.cell hd
    refine ⟨i1, c1, j, f1, rfl, hd, ?_⟩
    conv => whnf
    refine ⟨_, f2, ?_⟩
    conv => whnf
    refine ⟨_, f3.is, ha _ (List.getElem_mem hd), ?_⟩
    conv => whnf
    obtain ⟨i2, c2, p2, g1, g2, g3⟩ := rb.cell hdk
    refine ⟨i2, c2, j, g1, rfl, hdk, ?_⟩
    conv => whnf
    refine ⟨_, g2, ?_⟩
    conv => whnf
    refine ⟨_, g3.is, hb _ (List.getElem_mem hdk), ?_⟩
    conv => whnf
    refine br_mk (fun he => ?_) (fun he => ?_)
    · conv => whnf
      refine ⟨rfl, by rw [decide_eq_false]; rintro rfl; simp at he⟩
    · conv => whnf
      have he : L[j] = K[j] := by simpa using he
      refine ⟨_, Forget.cons rfl (Forget.cons rfl (Forget.cons rfl (Forget.nil _))), ⟨j + 1, _, hd, succ_i64 hd (by omega), rfl, fun k h1 h2 hk => ?_, rfl⟩, mu_lt hd hn⟩
      by_cases e : k = j
      · subst e; exact he
      · exact hall k h1 h2 (by omega)
  · conv => whnf
    have hd : ¬ j < L.length := by simpa using hd
    have : L = K := List.ext_getElem hnm (fun k h1 h2 => hall k h1 h2 (by omega))
    exact ⟨rfl, by rw [decide_eq_true this]⟩
end Go.Proofs.Ytpefdmidfllhoaa
