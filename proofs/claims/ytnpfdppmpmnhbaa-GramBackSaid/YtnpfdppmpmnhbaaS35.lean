/- Messages: what reading tells, if the bytes are a message's. -/
import Derived.Test.YtnpfdppmpmnhbaaS34
set_option linter.unusedVariables false
namespace Go.Proofs.Ytnpfdppmpmnhbaa
open Go Go.Ab
structure Canon (m : Msg) : Prop where
  r : m.k ≠ 5 → m.es = [] ∧ m.w = 0
  n : m.k ≠ 7 → m.c = 0 ∧ m.e = 0 ∧ m.f = 0 ∧ m.l = 0
  d : m.k ≠ 1 → m.d = 0
  p : m.k ≠ 1 → m.k ≠ 2 → m.k ≠ 9 → m.p = 0
/-- b is m's bytes, and m has nothing that its kind does not name -/
structure Enc (b : List Int) (m : Msg) : Prop where
  can : Canon m
  ok : encOk m = true
  is : bytesP (parts m) = b
  e1 : -9223372036854775808 ≤ m.e
  e2 : m.e ≤ 9223372036854775807
def eqM (m m1 : Msg) : Prop := m1 = { m with ep := m1.ep }
theorem eqM.mk {m m1 : Msg} (k : m1.k = m.k) (p : m1.p = m.p) (d : m1.d = m.d) (es : m1.es = m.es) (w : m1.w = m.w) (c : m1.c = m.c) (e : m1.e = m.e) (f : m1.f = m.f) (l : m1.l = m.l) : eqM m m1 := by
  cases m
  cases m1
  simp only at k p d es w c e f l
  subst k p d es w c e f l
  rfl
theorem eqM.parts {m m1 : Msg} (h : eqM m m1) : parts m1 = parts m := by
  rw [h]
  rfl
theorem eqM.encOk {m m1 : Msg} (h : eqM m m1) : encOk m1 = encOk m := by
  rw [h]
  rfl
theorem eqM.encB {m m1 : Msg} (h : eqM m m1) : encB m1 = encB m := by
  rw [h]
  rfl
theorem eqM.same {m m1 m2 : Msg} (h1 : eqM m m1) (h2 : eqM m m2) : sameM m1 m2 = true := by
  rw [h1, h2]
  simp [sameM, hintL]
theorem sameM_refl (m : Msg) : sameM m m = true := by simp [sameM]
theorem Enc.encB {b : List Int} {m : Msg} (e : Enc b m) : encB m = b := by
  unfold Proofs.Ytnpfdppmpmnhbaa.encB
  rw [e.ok, if_pos rfl]
  exact e.is
/-! ### Reading -/
structure KnR (b xs : List Int) (sp : Bool) (R : Msg → List (Nat × Int)) : Prop where
  bts : Bts xs
  kn : ∀ m, Enc b m → sp = false ∧ xs = bytesP (R m) ∧ fitP (R m) = true
theorem fold_bound : ∀ (ys : List Int) (a : Nat), Bts ys → (a + 1) * 256 ^ ys.length ≤ 72057594037927936 → ∃ n : Nat, ys.foldl shOr (a : Int) = n ∧ n < (a + 1) * 256 ^ ys.length
  | [], a, _, _ => ⟨a, rfl, by simp⟩
  | y :: ys, a, hb, h => by
    have hy := hb y (by simp)
    obtain ⟨z, rfl⟩ := Int.eq_ofNat_of_zero_le hy.1
    have hz : z < 256 := by omega
    rw [List.length_cons, Nat.pow_succ] at h
    have h2 : (a + 1) * 256 ≤ 72057594037927936 := by
      refine Nat.le_trans ?_ h
      rw [Nat.mul_comm (256 ^ ys.length), ← Nat.mul_assoc]
      exact Nat.le_mul_of_pos_right _ (Nat.pow_pos (by decide))
    have e := shOr_eq (n := a) (b := z) (by omega) hz
    have h3 : (a * 256 + z + 1) * 256 ^ ys.length ≤ (a + 1) * (256 ^ ys.length * 256) := by
      rw [Nat.mul_comm (256 ^ ys.length), ← Nat.mul_assoc]
      exact Nat.mul_le_mul_right _ (by omega)
    obtain ⟨n, h4, h5⟩ := fold_bound ys (a * 256 + z) (fun x hx => hb x (by simp [hx])) (Nat.le_trans h3 h)
    refine ⟨n, ?_, ?_⟩
    · rw [List.foldl_cons]
      show ys.foldl shOr (shOr (a : Int) (z : Int)) = n
      rw [e, h4]
    · rw [List.length_cons, Nat.pow_succ]
      exact Nat.lt_of_lt_of_le h5 h3
theorem rawV_len {xs : List Int} {sp : Bool} {k : Nat} : (rawV xs sp (k : Int)).length ≤ k ∧ (Bts xs → Bts (rawV xs sp (k : Int))) ∧ (Bts xs → Bts (rawX xs sp (k : Int))) ∧ (rawX xs sp (k : Int)).length ≤ xs.length := by
  unfold rawV rawX
  split
  · rw [Int.toNat_natCast]
    exact ⟨by rw [List.length_take]; omega, fun h => bts_take h k, fun h => bts_drop h k, by rw [List.length_drop]; omega⟩
  · exact ⟨Nat.zero_le _, fun _ _ k => (by cases k), id, Nat.le_refl _⟩
theorem KnR.num {b xs : List Int} {sp : Bool} {R R' : Msg → List (Nat × Int)} (kr : KnR b xs sp R) {k : Nat} (h1 : 1 ≤ k) (h7 : k ≤ 7) {val : Msg → Int} (hR : ∀ m, Enc b m → R m = (k, val m) :: R' m) {g : Nat} {h h' : H} {v : V} (q : NumQ g xs sp (k : Int) h v h') :
    ∃ (n : Int) (xs' : List Int) (sp' : Bool), v = i64 n ∧ (∀ m, Enc b m → n = val m) ∧ (0 ≤ n ∧ n < 256 ^ k) ∧ Rdr h' g xs' sp' ∧ KnR b xs' sp' R' ∧ xs'.length ≤ xs.length ∧ Ab.Mod (one g) h h' := by
  obtain ⟨e, r, m⟩ := q
  rw [numK_id h1 h7] at e r
  obtain ⟨l1, l2, l3, l4⟩ := rawV_len (xs := xs) (sp := sp) (k := k)
  have hp : 256 ^ k ≤ 256 ^ 7 := Nat.pow_le_pow_right (by decide) h7
  have hp2 : 256 ^ (rawV xs sp (k : Int)).length ≤ 256 ^ k := Nat.pow_le_pow_right (by decide) l1
  have h256 : (256 : Nat) ^ 7 = 72057594037927936 := by decide
  obtain ⟨n, f1, f2⟩ := fold_bound (rawV xs sp (k : Int)) 0 (l2 kr.bts) (by omega)
  have f1 : (rawV xs sp (k : Int)).foldl shOr 0 = (n : Int) := f1
  refine ⟨_, _, _, e, fun m hm => ?_, ?_, r, ⟨l3 kr.bts, fun m hm => ?_⟩, l4, m⟩
  · obtain ⟨s, x, f⟩ := kr.kn m hm
    rw [hR m hm] at x f
    simp only [fitP, List.all_cons, Bool.and_eq_true, decide_eq_true_eq] at f
    have x : xs = be (val m) k ++ bytesP (R' m) := x
    subst x
    subst s
    have := (read_num h1 h7 f.1.1 f.1.2 (bytesP (R' m))).2.2
    rw [numK_id h1 h7] at this
    exact this
  · rw [f1]
    have e2 : (256 : Int) ^ k = ((256 ^ k : Nat) : Int) := by rw [Int.natCast_pow]; rfl
    rw [e2]
    omega
  · obtain ⟨s, x, f⟩ := kr.kn m hm
    rw [hR m hm] at x f
    simp only [fitP, List.all_cons, Bool.and_eq_true, decide_eq_true_eq] at f
    have x : xs = be (val m) k ++ bytesP (R' m) := x
    subst x
    subst s
    obtain ⟨t1, t2, _⟩ := read_num h1 h7 f.1.1 f.1.2 (bytesP (R' m))
    rw [numK_id h1 h7] at t1 t2
    refine ⟨by rw [t1]; rfl, t2, ?_⟩
    exact f.2
theorem KnR.start {b : List Int} (hb : Bts b) : KnR b b false parts := ⟨hb, fun m hm => ⟨rfl, hm.is.symm, by
  have := hm.ok
  rw [encOk, Bool.and_eq_true] at this
  exact this.2⟩⟩
def msg0 : Msg := ⟨0, 0, 0, none, [], 0, 0, 0, 0, 0⟩
/-- what both makes tell of bytes -/
def DecA (b : List Int) (m1 : Msg) (ok : Bool) : Prop := (ok = true ∧ Enc b m1 ∧ ∀ m, Enc b m → eqM m m1) ∨ (ok = false ∧ m1 = msg0 ∧ ∀ m, ¬ Enc b m)
theorem DecA.alike {b : List Int} {m1 m2 : Msg} {o1 o2 : Bool} (a : DecA b m1 o1) (c : DecA b m2 o2) : o1 = o2 ∧ sameM m1 m2 = true := by
  rcases a with ⟨rfl, a1, a2⟩ | ⟨rfl, rfl, a2⟩ <;> rcases c with ⟨rfl, c1, c2⟩ | ⟨rfl, rfl, c2⟩
  · exact ⟨rfl, eqM.same (a2 _ a1) (c2 _ a1)⟩
  · exact absurd a1 (c2 _)
  · exact absurd c1 (a2 _)
  · exact ⟨rfl, sameM_refl _⟩
/-- taken, or not: by what it is written as again -/
theorem decA_yes {b : List Int} {m1 : Msg} (hc : Canon m1) (he : encOk m1 = true) (hb : encB m1 = b) (r1 : -9223372036854775808 ≤ m1.e) (r2 : m1.e ≤ 9223372036854775807) (hk : ∀ m, Enc b m → eqM m m1) : DecA b m1 true := by
  refine .inl ⟨rfl, ⟨hc, he, ?_, r1, r2⟩, hk⟩
  rw [encB, he, if_pos rfl] at hb
  exact hb
theorem decA_no {b : List Int} {m1 : Msg} (h : encOk m1 = false ∨ encB m1 ≠ b) (hk : ∀ m, Enc b m → eqM m m1) : DecA b msg0 false := by
  refine .inr ⟨rfl, rfl, fun m hm => ?_⟩
  have e := hk m hm
  rcases h with h | h
  · rw [e.encOk, hm.ok] at h
    cases h
  · rw [e.encB] at h
    exact h hm.encB
end Go.Proofs.Ytnpfdppmpmnhbaa
