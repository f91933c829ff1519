/- Messages: how long one is; what its kind names. -/
import Derived.Test.YtnpfdppmpmnhbaaS39
set_option linter.unusedVariables false
namespace Go.Proofs.Ytnpfdppmpmnhbaa
open Go Go.Ab
def canonM (m : Msg) : Msg where
  k := m.k
  p := if m.k = 1 ∨ m.k = 2 ∨ m.k = 9 then m.p else 0
  d := if m.k = 1 then m.d else 0
  ep := none
  es := if m.k = 5 then m.es else []
  w := if m.k = 5 then m.w else 0
  c := if m.k = 7 then m.c else 0
  e := if m.k = 7 then m.e else 0
  f := if m.k = 7 then m.f else 0
  l := if m.k = 7 then m.l else 0
theorem canonM_k (m : Msg) : (canonM m).k = m.k := rfl
theorem canonM_tail (m : Msg) : tailP (canonM m) = tailP m := by
  by_cases h1 : m.k = 1
  · rw [tailP_1 h1, tailP_1 (m := canonM m) h1]
    simp [canonM, h1]
  by_cases h2 : m.k = 2
  · rw [tailP_2 (.inl h2), tailP_2 (m := canonM m) (.inl h2)]
    simp [canonM, h2]
  by_cases h9 : m.k = 9
  · rw [tailP_2 (.inr h9), tailP_2 (m := canonM m) (.inr h9)]
    simp [canonM, h9]
  by_cases h5 : m.k = 5
  · rw [tailP_5 h5, tailP_5 (m := canonM m) h5]
    simp [canonM, h5]
  by_cases h7 : m.k = 7
  · rw [tailP_7 h7, tailP_7 (m := canonM m) h7]
    simp [canonM, h7]
  rw [tailP_0 h1 h2 h9 h5 h7, tailP_0 (m := canonM m) h1 h2 h9 h5 h7]
theorem canonM_parts (m : Msg) : parts (canonM m) = parts m := by rw [parts, parts, canonM_tail, canonM_k]
theorem canonM_knd (m : Msg) : knd (canonM m) = knd m := by
  unfold knd
  rw [canonM_k]
  by_cases h5 : m.k = 5
  · simp [canonM, h5]
  · have e : (m.k != 5) = true := by simp [h5]
    rw [e, Bool.true_or, Bool.true_or]
theorem canonM_ok (m : Msg) : encOk (canonM m) = encOk m := by rw [encOk, encOk, canonM_parts, canonM_knd]
theorem canon_enc (m : Msg) (he : encOk m = true) (r1 : -9223372036854775808 ≤ m.e) (r2 : m.e ≤ 9223372036854775807) : Enc (encB m) (canonM m) := by
  refine ⟨⟨fun h => ?_, fun h => ?_, fun h => ?_, fun h1 h2 h9 => ?_⟩, by rw [canonM_ok, he], ?_, ?_, ?_⟩
  · have h : m.k ≠ 5 := h
    simp [canonM, h]
  · have h : m.k ≠ 7 := h
    simp [canonM, h]
  · have h : m.k ≠ 1 := h
    simp [canonM, h]
  · have h1 : m.k ≠ 1 := h1
    have h2 : m.k ≠ 2 := h2
    have h9 : m.k ≠ 9 := h9
    simp [canonM, h1, h2, h9]
  · rw [canonM_parts, encB, he]
    rfl
  · show _ ≤ (if m.k = 7 then m.e else 0)
    split
    · exact r1
    · decide
  · show (if m.k = 7 then m.e else 0) ≤ _
    split
    · exact r2
    · decide
/-! ### Lengths -/
def msgLen (b : List Int) : Int :=
  if b.getD 0 0 = 1 then 5 else if b.getD 0 0 = 2 ∨ b.getD 0 0 = 9 then 3 else if b.getD 0 0 = 5 then 8 + 2 * (b.getD 6 0 * 256 + b.getD 7 0) else if b.getD 0 0 = 7 then 14 else 1
theorem map_fst_sum (k : Nat) (es : List Int) : ((es.map fun v => (k, v)).map (·.1)).sum = k * es.length := by
  induction es with
  | nil => rfl
  | cons e es ih =>
    rw [List.map_cons, List.map_cons, List.sum_cons, ih, List.length_cons, Nat.mul_add]
    omega
theorem enc_len {b : List Int} {m : Msg} (e : Enc b m) : (b.length : Int) = msgLen b ∧ (b.getD 0 0 = 5 → 8 ≤ b.length) := by
  have hok := e.ok
  rw [encOk, Bool.and_eq_true] at hok
  obtain ⟨hk, hf⟩ := hok
  have h0 : b.getD 0 0 = m.k := by
    rw [← e.is]
    have hp : bytesP (parts m) = oct m.k 0 :: bytesP (tailP m) := rfl
    rw [hp]
    show oct m.k 0 = m.k
    rw [oct_0, wrap_u8_eq]
    simp only [knd, Bool.and_eq_true, decide_eq_true_eq] at hk
    omega
  have hl : b.length = 1 + ((tailP m).map (·.1)).sum := by
    rw [← e.is, bytesP_length]
    rfl
  unfold msgLen
  rw [h0]
  by_cases h1 : m.k = 1
  · rw [if_pos h1, hl, tailP_1 h1]
    exact ⟨rfl, fun h => by omega⟩
  by_cases h2 : m.k = 2
  · rw [if_neg h1, if_pos (.inl h2), hl, tailP_2 (.inl h2)]
    exact ⟨rfl, fun h => by omega⟩
  by_cases h9 : m.k = 9
  · rw [if_neg h1, if_pos (.inr h9), hl, tailP_2 (.inr h9)]
    exact ⟨rfl, fun h => by omega⟩
  by_cases h5 : m.k = 5
  · rw [if_neg h1, if_neg (by omega), if_pos h5, hl, tailP_5 h5]
    have hn : m.es.length ≤ 512 := by
      simp only [knd, h5, Bool.and_eq_true, decide_eq_true_eq, bne_self_eq_false, Bool.false_or] at hk
      exact hk.2
    have e6 : b.getD 6 0 = oct (m.es.length : Int) (1 : Nat) := by
      rw [← e.is, parts, tailP_5 h5]
      rfl
    have e7 : b.getD 7 0 = oct (m.es.length : Int) (0 : Nat) := by
      rw [← e.is, parts, tailP_5 h5]
      rfl
    rw [e6, e7, oct_eq (by decide), oct_eq (by decide)]
    simp only [List.map_cons, List.sum_cons, map_fst_sum]
    omega
  by_cases h7 : m.k = 7
  · rw [if_neg h1, if_neg (by omega), if_neg h5, if_pos h7, hl, tailP_7 h7]
    exact ⟨rfl, fun h => by omega⟩
  rw [if_neg h1, if_neg (by omega), if_neg h5, if_neg h7, hl, tailP_0 h1 h2 h9 h5 h7]
  exact ⟨rfl, fun h => by omega⟩
/-- what begins alike is as long -/
theorem enc_alike {b c : List Int} {m n : Msg} (e : Enc b m) (f : Enc c n) (h : ∀ i, i < b.length → i < c.length → b.getD i 0 = c.getD i 0) : b.length = c.length := by
  obtain ⟨l1, k1⟩ := enc_len e
  obtain ⟨l2, k2⟩ := enc_len f
  have p1 := enc_pos e
  have p2 := enc_pos f
  have h0 := h 0 p1 p2
  have : msgLen b = msgLen c := by
    unfold msgLen
    by_cases h5 : b.getD 0 0 = 5
    · have h5' : c.getD 0 0 = 5 := by rw [← h0, h5]
      have q1 := k1 h5
      have q2 := k2 h5'
      rw [h0, h 6 (by omega) (by omega), h 7 (by omega) (by omega)]
    · have h5' : c.getD 0 0 ≠ 5 := by rw [← h0]; exact h5
      rw [h0, if_neg h5', if_neg h5']
  omega
theorem enc_cut {b : List Int} {m : Msg} (e : Enc b m) {r : Nat} (hr : r < b.length) (n : Msg) : ¬ Enc (b.take r) n := fun f => by
  have := enc_alike f e (fun i h1 h2 => by
    rw [List.length_take] at h1
    rw [List.getD_eq_getElem?_getD, List.getElem?_take, if_pos (by omega), List.getD_eq_getElem?_getD])
  rw [List.length_take] at this
  omega
theorem enc_more {b : List Int} {m : Msg} (e : Enc b m) (x : Int) (n : Msg) : ¬ Enc (b ++ [x]) n := fun f => by
  have := enc_alike f e (fun i h1 h2 => by
    rw [List.getD_eq_getElem?_getD, List.getElem?_append_left h2, List.getD_eq_getElem?_getD])
  rw [List.length_append] at this
  simp at this
theorem encB_len (m : Msg) : (encB m).length ≤ 14 + 2 * m.es.length := by
  unfold encB
  split
  · rw [bytesP_length]
    unfold parts tailP
    split
    · simp only [List.map_cons, List.map_nil, List.sum_cons, List.sum_nil]
      omega
    · split
      · simp only [List.map_cons, List.map_nil, List.sum_cons, List.sum_nil]
        omega
      · split
        · rw [List.map_cons, List.sum_cons, List.map_cons, List.sum_cons, List.map_cons, List.sum_cons, map_fst_sum]
          omega
        · split
          · simp only [List.map_cons, List.map_nil, List.sum_cons, List.sum_nil]
            omega
          · simp only [List.map_cons, List.map_nil, List.sum_cons, List.sum_nil]
            omega
  · exact Nat.zero_le _
end Go.Proofs.Ytnpfdppmpmnhbaa
