/- The document's search, plain: again and again, till nothing changes. -/
import Derived.Test.YteapijoibimfnaaGreatP1
set_option linter.unusedVariables false
namespace Go.Proofs.YteapijoibimfnaaGreat
open Go Go.Ab
def bigD (x : Int) : Nat := if x < 0 then 40000000 else x.toNat
def sumD : List Int → Nat
  | [] => 0
  | x :: l => bigD x + sumD l
theorem sumD_set : ∀ {d : List Int} {i : Nat} (hi : i < d.length) (x : Int), sumD (d.set i x) + bigD (d.getD i 0) = sumD d + bigD x
  | [], i, hi, x => absurd hi (Nat.not_lt_zero i)
  | y :: d, 0, hi, x => by
    show bigD x + sumD d + bigD y = bigD y + sumD d + bigD x
    omega
  | y :: d, i + 1, hi, x => by
    have := sumD_set (d := d) (i := i) (Nat.lt_of_succ_lt_succ hi) x
    show bigD y + sumD (d.set i x) + bigD (d.getD i 0) = bigD y + sumD d + bigD x
    omega
theorem negs_keep {d : List Int} {i : Nat} (hi : i < d.length) (h0 : 0 ≤ d.getD i 0) {x : Int} (hx : 0 ≤ x) : negs (d.set i x) = negs d := by
  have : d.getD i 0 = d[i] := by simp [List.getD_eq_getElem?_getD, List.getElem?_eq_getElem hi]
  rw [this] at h0
  unfold negs
  rw [List.countP_set hi, if_neg (by simpa using h0), if_neg (by simpa using hx)]
  omega
structure BF (G : Rd) (d : List Int) : Prop where
  len : d.length = G.N
  rch : ∀ e, e < G.N → 0 ≤ d.getD e 0 → Rch G e
  fin : ∀ e, e < G.N → G.fin e = true → d.getD e 0 = 0
  zero : ∀ e, e < G.N → d.getD e 0 = 0 → G.fin e = true
  bnd : ∀ e, e < G.N → d.getD e 0 ≤ 65535 * ((G.N - negs d : Nat) : Int)
theorem BF.begin {G : Rd} {d : List Int} (hl : d.length = G.N) (h : ∀ e, e < G.N → d.getD e 0 = if G.fin e = true then 0 else -1) : BF G d := by
  refine ⟨hl, fun e he h0 => ?_, fun e he hf => ?_, fun e he h0 => ?_, fun e he => ?_⟩
  · rw [h e he] at h0
    by_cases q : G.fin e = true
    · exact .base he q
    · rw [if_neg q] at h0
      omega
  · rw [h e he, if_pos hf]
  · rw [h e he] at h0
    by_cases q : G.fin e = true
    · exact q
    · rw [if_neg q] at h0
      omega
  · rw [h e he]
    split <;> omega
/-- one arc makes it less -/
theorem BF.upd {G : Rd} (ok : G.ok) {d : List Int} (D : BF G d) {a b : Nat} (ha : a < G.N) (hb : b < G.N) (ht : G.tn a b = true) (hc : G.cl b = false) (h0 : 0 ≤ d.getD b 0) (hn : d.getD a 0 < 0 ∨ d.getD b 0 + G.w b < d.getD a 0) :
    BF G (d.set a (d.getD b 0 + G.w b)) ∧ sumD (d.set a (d.getD b 0 + G.w b)) < sumD d := by
  have w1 := ok.w1 b hb
  have w2 := ok.w2 b hb
  have le := ok.le
  have hl : a < d.length := by rw [D.len]; exact ha
  have gd : ∀ j, j < G.N → (d.set a (d.getD b 0 + G.w b)).getD j 0 = if a = j then d.getD b 0 + G.w b else d.getD j 0 := fun j hj => getD_set' (by rw [D.len]; exact hj) _
  have hng := negs_le d
  have hdl := D.len
  have hbb := D.bnd b hb
  have hba := D.bnd a ha
  have hs := sumD_set hl (d.getD b 0 + G.w b)
  have big : bigD (d.getD b 0 + G.w b) < bigD (d.getD a 0) := by
    unfold bigD
    rw [if_neg (by omega)]
    by_cases q : d.getD a 0 < 0
    · rw [if_pos q]
      omega
    · rw [if_neg q]
      omega
  have nn : negs (d.set a (d.getD b 0 + G.w b)) ≤ negs d ∧ d.getD b 0 + G.w b ≤ 65535 * ((G.N - negs (d.set a (d.getD b 0 + G.w b)) : Nat) : Int) := by
    by_cases q : d.getD a 0 < 0
    · have := negs_set hl q (x := d.getD b 0 + G.w b) (by omega)
      omega
    · have := negs_keep hl (by omega) (x := d.getD b 0 + G.w b) (by omega)
      rw [this]
      exact ⟨Nat.le_refl _, by omega⟩
  refine ⟨⟨by rw [List.length_set]; exact D.len, fun e he k => ?_, fun e he hf => ?_, fun e he k => ?_, fun e he => ?_⟩, by omega⟩
  · rw [gd e he] at k
    by_cases q : a = e
    · subst q
      exact .step ha hb ht hc (D.rch b hb h0)
    · rw [if_neg q] at k
      exact D.rch e he k
  · have := D.fin e he hf
    rw [gd e he]
    by_cases q : a = e
    · subst q
      omega
    · rw [if_neg q]
      exact this
  · rw [gd e he] at k
    by_cases q : a = e
    · subst q
      rw [if_pos rfl] at k
      omega
    · rw [if_neg q] at k
      exact D.zero e he k
  · rw [gd e he]
    by_cases q : a = e
    · rw [if_pos q]
      exact nn.2
    · rw [if_neg q]
      have := D.bnd e he
      omega
theorem BF.end {G : Rd} {d : List Int} (D : BF G d) (h : ∀ a b, a < G.N → b < G.N → G.tn a b = true → G.cl b = false → 0 ≤ d.getD b 0 → 0 ≤ d.getD a 0) : FarOk G d := by
  refine ⟨D.len, fun e he => ⟨D.rch e he, fun r => ?_⟩, fun e he => ⟨D.zero e he, D.fin e he⟩⟩
  clear he
  induction r with
  | base he hf => rw [D.fin _ he hf]; exact Int.le_refl _
  | step he hn ht hc _ ih => exact h _ _ he hn ht hc ih
end Go.Proofs.YteapijoibimfnaaGreat
