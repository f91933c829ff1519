/- The law OctetsBack: the plain law. -/
import Derived.Test.YtnpfdppmpmnhbaaS14
set_option linter.unusedVariables false
namespace Go.Proofs.Ytnpfdppmpmnhbaa
open Go Go.Ab
def Fit (k : Nat) (ns : List Int) : Prop := ∀ v ∈ ns, 0 ≤ v ∧ v < 2 ^ (8 * k)
def flatB (k : Nat) (ns : List Int) : List Int := ns.flatMap fun v => be v k
theorem flatB_length (k : Nat) (ns : List Int) : (flatB k ns).length = ns.length * k := by
  induction ns with
  | nil => simp [flatB]
  | cons v ns ih =>
    have e : flatB k (v :: ns) = be v k ++ flatB k ns := rfl
    rw [e, List.length_append, be_length, ih, List.length_cons, Nat.add_mul]
    omega
theorem flatB_append (k : Nat) (ns ms : List Int) : flatB k (ns ++ ms) = flatB k ns ++ flatB k ms := List.flatMap_append
theorem flatB_bts (k : Nat) : ∀ ns : List Int, Bts (flatB k ns)
  | [] => fun x hx => by cases hx
  | v :: ns => (be_bts v k).append (flatB_bts k ns)
theorem small_no {k : Nat} (h1 : 1 ≤ k) (h7 : k ≤ 7) : small k = false := by
  simp [small]
  omega
theorem numsGo_all {k : Nat} (h7 : k ≤ 7) : ∀ (ns xs : List Int), Fit k ns → numsGo k ns xs false = (xs ++ flatB k ns, false)
  | [], xs, _ => by simp [numsGo, flatB]
  | v :: ns, xs, h => by
    have hv := h v (List.mem_cons_self ..)
    have e : flatB k (v :: ns) = be v k ++ flatB k ns := rfl
    rw [numsGo, bad_no h7 hv.1 hv.2, if_neg (by decide), numsGo_all h7 ns _ (fun x hx => h x (List.mem_cons_of_mem _ hx)), e, List.append_assoc]
    rfl
theorem numsV_all {k : Nat} (h1 : 1 ≤ k) (h7 : k ≤ 7) (ns xs : List Int) (h : Fit k ns) : numsV k ns xs false = (xs ++ flatB k ns, false) := by
  rw [numsV, small_no h1 h7, if_neg (by decide)]
  exact numsGo_all h7 ns xs h
theorem numK_id {k : Nat} (h1 : 1 ≤ k) (h7 : k ≤ 7) : numK k = k := by rw [numK, if_neg (by omega)]
theorem be_fold {k : Nat} (h7 : k ≤ 7) {v : Int} (h0 : 0 ≤ v) (hv : v < 2 ^ (8 * k)) : (be v k).foldl shOr 0 = v := by
  obtain ⟨n, rfl⟩ : ∃ n : Nat, v = n := ⟨v.toNat, by omega⟩
  have e : (2 : Int) ^ (8 * k) = ((256 ^ k : Nat) : Int) := by
    rw [Int.pow_mul, Int.natCast_pow]
    rfl
  have hp := (pow_le h7).2
  rw [e] at hv hp
  have hm : n % 256 ^ k = n := Nat.mod_eq_of_lt (by omega)
  have := fold_be n k 0 h7 (by omega)
  rw [hm, Nat.zero_mul, Nat.zero_add] at this
  exact this
/-- one number read back -/
theorem read_num {k : Nat} (h1 : 1 ≤ k) (h7 : k ≤ 7) {v : Int} (h0 : 0 ≤ v) (hv : v < 2 ^ (8 * k)) (rest : List Int) : rawOk (be v k ++ rest) false (numK k) = true ∧ rawX (be v k ++ rest) false (numK k) = rest ∧ (rawV (be v k ++ rest) false (numK k)).foldl shOr 0 = v := by
  have ho : rawOk (be v k ++ rest) false (numK k) = true := by
    rw [numK_id h1 h7]
    simp [rawOk, be_length]
    omega
  refine ⟨ho, ?_, ?_⟩
  · rw [rawX, ho, numK_id h1 h7, if_pos rfl, Int.toNat_natCast, List.drop_left' (be_length v k)]
  · rw [rawV, ho, numK_id h1 h7, if_pos rfl, Int.toNat_natCast, List.take_left' (be_length v k)]
    exact be_fold h7 h0 hv
/-! ### Rows kept -/
theorem SlIs.ro_ne {h : H} {p : Option (Nat × Nat)} {n sz : Nat} {own : Bool} {cs : List V} (s : SlIs h p n own sz cs) {i : Nat} (hi : ∀ j o, p = some (j, o) → j ≠ i) : SlIs (h.ro i) p n own sz cs := by
  obtain ⟨h1, h2⟩ := s
  refine ⟨h1, ?_⟩
  rcases h2 with h2 | ⟨j, o, o', r, e1, e2, e3⟩
  · exact .inl h2
  · exact .inr ⟨j, o, o', r, e1, by rw [H.ro_ne _ (hi j o e1), e2], e3⟩
theorem WtrP.ro {h : H} {g : Nat} {p : Option (Nat × Nat)} {xs : List Int} {sp : Bool} (w : WtrP h g p xs sp) {i : Nat} (hi : ¬ foot g p i) : WtrP (h.ro i) g p xs sp :=
  ⟨by rw [H.ro_ne _ (fun e => hi (.inl e.symm)), w.1], SlIs.ro_ne w.2.1 (fun j o e k => hi (.inr ⟨o, by rw [← k, e]⟩)), w.2.2⟩
theorem SlIs.freeze {h : H} {p : Option (Nat × Nat)} {n sz : Nat} {own : Bool} {cs : List V} (s : SlIs h p n own sz cs) : ∃ i, (inSl p i ∨ h.next ≤ i) ∧ RoSl (h.ro i) p n sz cs := by
  obtain ⟨h1, h2⟩ := s
  rcases h2 with ⟨rfl, _⟩ | ⟨i, o, o', r, e1, e2, e3, e4, e5⟩
  · exact ⟨h.next, .inr (Nat.le_refl _), h1, .inl rfl⟩
  · exact ⟨i, .inl ⟨o, e1⟩, h1, .inr ⟨i, o, r, e1, H.ro_same e2, e4, e5⟩⟩
theorem WtrP.foot_lt {h : H} {g : Nat} {p : Option (Nat × Nat)} {xs : List Int} {sp : Bool} (w : WtrP h g p xs sp) {i : Nat} (k : foot g p i) : i < h.next := by
  rcases k with rfl | ⟨o, e⟩
  · exact w.lt
  · exact w.slt e
theorem SlIs.own_lt {h : H} {p : Option (Nat × Nat)} {n sz : Nat} {cs : List V} (s : SlIs h p n true sz cs) {i : Nat} (k : inSl p i) : i < h.next := by
  obtain ⟨o, rfl⟩ := k
  rcases s.2 with ⟨_, k | k⟩ | ⟨i', o', b, r, e1, e2, _⟩
  · cases k
  · cases k
  · injection e1 with e1
    injection e1 with e1
    subst e1
    exact h.lt _ _ e2
end Go.Proofs.Ytnpfdppmpmnhbaa
