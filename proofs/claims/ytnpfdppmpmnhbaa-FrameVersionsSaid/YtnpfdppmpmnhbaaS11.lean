/- The law OctetsWrite: the plain law, and the walk. -/
import Derived.Test.YtnpfdppmpmnhbaaS10
set_option linter.unusedVariables false
namespace Go.Proofs.Ytnpfdppmpmnhbaa
open Go Go.Ab
/-! ### Two writers -/
def Apart (g : Nat) (p : Option (Nat × Nat)) (g' : Nat) (p' : Option (Nat × Nat)) : Prop := ∀ i, foot g p i → ¬ foot g' p' i
theorem Apart.symm {g g' : Nat} {p p' : Option (Nat × Nat)} (a : Apart g p g' p') : Apart g' p' g p := fun i k k' => a i k' k
theorem Apart.step {h : H} {g g' : Nat} {p p' pn : Option (Nat × Nat)} {ys : List Int} {sp : Bool} (a : Apart g p g' p') (w : WtrP h g' p' ys sp) (f : isFresh h p pn) : Apart g pn g' p' := fun i k k' => by
  have hi : i < h.next := by
    rcases k' with rfl | ⟨o, e⟩
    · exact w.lt
    · exact w.slt e
  exact a i (foot_fresh f i hi k) k'
/-! ### Plain -/
def Bts (xs : List Int) : Prop := ∀ x ∈ xs, 0 ≤ x ∧ x < 256
theorem Bts.append {xs ys : List Int} (h1 : Bts xs) (h2 : Bts ys) : Bts (xs ++ ys) := fun x hx => by
  rcases List.mem_append.1 hx with k | k
  · exact h1 x k
  · exact h2 x k
theorem wrap_u8 (x : Int) : 0 ≤ IntKind.u8.wrap x ∧ IntKind.u8.wrap x < 256 := by
  simp [IntKind.wrap, IntKind.bits, IntKind.signed]
  omega
theorem be_bts (v : Int) (n : Nat) : Bts (be v n) := by
  induction n with
  | zero => exact fun x hx => by cases hx
  | succ n ih =>
    intro x hx
    rcases List.mem_cons.1 hx with rfl | hx
    · exact wrap_u8 _
    · exact ih x hx
def refGo (k : Int) : List Int → List Int → Bool → List Int × Bool
  | [], ys, sp => (ys, sp)
  | v :: vs, ys, sp => refGo k vs (if misfit k v then ys else ys ++ be v k.toNat) (misfit k v || sp)
theorem refGo_spoilt (k : Int) : ∀ (vs ys : List Int), (refGo k vs ys true).2 = true
  | [], _ => rfl
  | v :: vs, ys => by
    rw [refGo, Bool.or_true]
    exact refGo_spoilt k vs _
theorem shr_nonneg {v k : Int} (h : 0 ≤ v) : 0 ≤ shr_ v k := Int.fdiv_nonneg h (Int.pow_nonneg (by decide))
theorem bad_misfit {k v : Int} (h : small k = false) : bad k v = misfit k v := by
  simp only [small, Bool.or_eq_false_iff] at h
  rw [bad, misfit, h.1, h.2, Bool.false_or, Bool.false_or]
  by_cases hv : v < 0
  · simp [hv]
  · have := shr_nonneg (k := k) (v := v) (by omega)
    have e : decide (0 < shr_ v k) = (shr_ v k != 0) := by
      rw [Bool.eq_iff_iff]
      simp
      omega
    rw [e]
theorem numsGo_refGo {k : Int} (hk : small k = false) : ∀ (vs xs ys : List Int) (sp : Bool), (sp = false → xs = ys) → (numsGo k vs xs sp).2 = (refGo k vs ys sp).2 ∧ ((refGo k vs ys sp).2 = false → (numsGo k vs xs sp).1 = (refGo k vs ys sp).1)
  | [], xs, ys, sp, h => ⟨rfl, h⟩
  | v :: vs, xs, ys, sp, h => by
    rw [numsGo, refGo, bad_misfit hk]
    cases hm : misfit k v with
    | true =>
      simp only [if_true, Bool.true_or]
      rw [refGo_spoilt]
      exact ⟨rfl, fun e => by cases e⟩
    | false =>
      simp only [Bool.false_or]
      exact numsGo_refGo hk vs _ _ sp (fun e => by rw [h e]; simp)
theorem nums_ref (k : Int) (vs xs ys : List Int) (sp : Bool) (h : sp = false → xs = ys) : (numsV k vs xs sp).2 = (refGo k vs ys (sp || small k)).2 ∧ ((refGo k vs ys (sp || small k)).2 = false → (numsV k vs xs sp).1 = (refGo k vs ys (sp || small k)).1) := by
  rw [numsV]
  cases hk : small k with
  | true =>
    rw [Bool.or_true, refGo_spoilt]
    exact ⟨rfl, fun e => by cases e⟩
  | false =>
    rw [Bool.or_false]
    exact numsGo_refGo hk vs xs ys sp h
theorem small_toNat {k : Int} (h : small k = false) : k.toNat ≤ 7 := by
  simp [small] at h
  omega
theorem misfit_small {k v : Int} (h : misfit k v = false) : small k = false := by
  simp [misfit] at h
  simp [small]
  omega
theorem numsGo_len {k : Int} (hk : small k = false) : ∀ (vs xs : List Int) (sp : Bool), (numsGo k vs xs sp).1.length ≤ xs.length + 7 * vs.length ∧ (Bts xs → Bts (numsGo k vs xs sp).1)
  | [], xs, sp => ⟨by simp [numsGo], id⟩
  | v :: vs, xs, sp => by
    rw [numsGo]
    cases hb : bad k v with
    | true => exact ⟨by simp, id⟩
    | false =>
      have := numsGo_len hk vs (xs ++ be v k.toNat) sp
      have h7 := small_toNat hk
      rw [List.length_append, be_length] at this
      simp only [if_neg (show ¬ (false = true) by decide)]
      exact ⟨by simp only [List.length_cons]; omega, fun h => this.2 (h.append (be_bts _ _))⟩
theorem numsV_len (k : Int) (vs xs : List Int) (sp : Bool) : (numsV k vs xs sp).1.length ≤ xs.length + 7 * vs.length ∧ (Bts xs → Bts (numsV k vs xs sp).1) := by
  rw [numsV]
  cases hk : small k with
  | true => exact ⟨by simp, id⟩
  | false => exact numsGo_len hk vs xs sp
end Go.Proofs.Ytnpfdppmpmnhbaa
