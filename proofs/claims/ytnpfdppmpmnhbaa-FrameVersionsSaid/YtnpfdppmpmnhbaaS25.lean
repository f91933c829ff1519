/- Slices of octets that a function makes for itself, and writes. -/
import Derived.Test.YtnpfdppmpmnhbaaS24
set_option linter.unusedVariables false
namespace Go.Proofs.Ytnpfdppmpmnhbaa
open Go Go.Ab
theorem bts_of {xs : List Int} (b : ∀ x ∈ xs, IntKind.u8.min ≤ x ∧ x ≤ IntKind.u8.max) : Bts xs := fun x hx => by
  have := b x hx
  simp [IntKind.min, IntKind.max, IntKind.signed, IntKind.bits] at this
  omega
theorem bt_of {x : Int} (b : IntKind.u8.min ≤ x ∧ x ≤ IntKind.u8.max) : 0 ≤ x ∧ x < 256 := by
  simp [IntKind.min, IntKind.max, IntKind.signed, IntKind.bits] at b
  omega
/-- a slice of integers, made since h0 -/
def NewS (h0 h : H) (k : IntKind) (p : Option (Nat × Nat)) (n : Nat) (xs : List Int) : Prop := SlIs h p n true 1 (ints k xs) ∧ (∀ i o, p = some (i, o) → h0.next ≤ i) ∧ Ab.Mod none_ h0 h
theorem NewS.empty (h : H) (k : IntKind) : NewS h (h.push (.row true 1 [])) k (some (h.next, 0)) 0 [] :=
  ⟨⟨rfl, .inr ⟨_, 0, true, [], rfl, H.obj_push_new _ _, fun e => e, by simp, by simp [ints]⟩⟩, fun i o e => by
    injection e with e
    injection e with e
    omega, Mod.push none_ h _⟩
theorem NewS.nil (h0 h : H) (k : IntKind) (m : Ab.Mod none_ h0 h) : NewS h0 h k none 0 [] := ⟨SlIs.nil _ _ _, (fun _ _ e => by cases e), m⟩
theorem NewS.app {h0 h1 h2 : H} {k : IntKind} {p p' : Option (Nat × Nat)} {n m : Nat} {xs ys : List Int} (w : NewS h0 h1 k p n xs) (hs : SlIs h2 p' (n + m) true 1 (ints k xs ++ ints k ys)) (hm : Ab.Mod (inSl p) h1 h2) (hf : isFresh h1 p p') : NewS h0 h2 k p' (n + m) (xs ++ ys) := by
  refine ⟨by rw [ints_append]; exact hs, fun i o e => ?_, w.2.2.trans' hm (fun _ _ k => k) (fun i hi k => ?_)⟩
  · rcases hf i o e with k | k
    · exact w.2.1 i o (by rw [← k, e])
    · exact Nat.le_trans w.2.2.next k
  · obtain ⟨o, k⟩ := k
    have := w.2.1 i o k
    omega
theorem NewS.keep {h0 h h' : H} {k : IntKind} {p : Option (Nat × Nat)} {n : Nat} {xs : List Int} (w : NewS h0 h k p n xs) (m : Ab.Mod none_ h h') : NewS h0 h' k p n xs :=
  ⟨SlIs.old w.1 m (fun _ _ k => k), w.2.1, mod_none w.2.2 m⟩
theorem NewS.len {h0 h : H} {k : IntKind} {p : Option (Nat × Nat)} {n : Nat} {xs : List Int} (w : NewS h0 h k p n xs) : n = xs.length := slo_len w.1.weak
theorem splice_one {α : Type} (cs : List α) (o : Nat) (v : α) : splice cs o [v] = cs.set o v := rfl
theorem NewS.put {h0 h : H} {k : IntKind} {p : Option (Nat × Nat)} {n : Nat} {xs : List Int} (w : NewS h0 h k p n xs) {j : Nat} (hj : j < n) (v : Int) : ∃ i c sz cs, p = some (i, c) ∧ h.obj i = some (.row true sz cs) ∧ c + j * 1 + 1 ≤ cs.length ∧ NewS h0 (h.set i (.row true sz (splice cs (c + j * 1) [V.int k v]))) k p n (xs.set j v) := by
  obtain ⟨⟨hl, hr⟩, hf, m⟩ := w
  rcases hr with ⟨rfl, _⟩ | ⟨i, c, o', r, rfl, e2, e3, e4, e5⟩
  · omega
  · obtain rfl := e3 rfl
    have hlen : (ints k xs).length = n * 1 := hl
    refine ⟨i, c, 1, r, rfl, e2, by omega, ⟨by rw [ints_length, List.length_set, ← ints_length k, hlen], .inr ⟨i, c, true, _, rfl, H.obj_set_same e2, fun e => e, ?_, ?_⟩⟩, hf, ?_⟩
    · rw [splice_one, List.length_set]
      exact e4
    · rw [splice_one, Nat.mul_one, Nat.mul_one, List.drop_set, if_neg (by omega), List.take_set]
      rw [Nat.mul_one] at e5
      rw [e5, show c + j - c = j by omega]
      simp [ints, List.map_set]
    · exact m.trans' (Mod.set (S := one i) rfl e2 rfl) (fun _ _ k => k) (fun i' hi k => by
        have := hf i c rfl
        unfold one at k
        omega)
theorem set4 {xs : List Int} {n : Nat} (hl : xs.length = n + 4) (a b c d : Int) : (((xs.set n a).set (n + 1) b).set (n + 2) c).set (n + 3) d = xs.take n ++ [a, b, c, d] := by
  apply List.ext_getElem?
  intro i
  rw [List.getElem?_set, List.getElem?_set, List.getElem?_set, List.getElem?_set, List.getElem?_append, List.length_take, Nat.min_eq_left (by omega), List.getElem?_take]
  simp only [List.length_set]
  by_cases h : i < n
  · rw [if_pos h, if_neg (by omega), if_neg (by omega), if_neg (by omega), if_neg (by omega), if_pos h]
  · rw [if_neg h]
    obtain ⟨j, rfl⟩ : ∃ j, i = n + j := ⟨i - n, by omega⟩
    rw [show n + j - n = j by omega]
    match j with
    | 0 => simp; omega
    | 1 => simp; omega
    | 2 => simp; omega
    | 3 => simp; omega
    | j + 4 =>
      rw [if_neg (by omega), if_neg (by omega), if_neg (by omega), if_neg (by omega), List.getElem?_eq_none (by omega)]
      rfl
end Go.Proofs.Ytnpfdppmpmnhbaa
