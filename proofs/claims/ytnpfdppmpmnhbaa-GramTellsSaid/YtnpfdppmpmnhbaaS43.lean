/- Datagrams: what is written, and what is in bytes; plain. -/
import Derived.Test.YtnpfdppmpmnhbaaS38
set_option linter.unusedVariables false
namespace Go.Proofs.Ytnpfdppmpmnhbaa
open Go Go.Ab
structure Grm where
  cn : Int
  k : Int
  sq : Int
  ak : Int
  cd : Int
  bp : Option (Nat × Nat)
  bd : List Int
def Grm.cells (m : Grm) : List V := [i64 m.cn, i64 m.k, i64 m.sq, i64 m.ak, i64 m.cd, .sl m.bp m.bd.length]
def Grm.ok (h : H) (m : Grm) : Prop := SlIs h m.bp m.bd.length false 1 (ints .u8 m.bd) ∧ Bts m.bd ∧ m.bd.length ≤ 100000
theorem Grm.ok.old {S : Nat → Prop} {h h' : H} {m : Grm} (o : m.ok h) (k : Ab.Mod S h h') (hS : ∀ i, i < h.next → ¬ S i) : m.ok h' := ⟨SlIs.old o.1 k hS, o.2⟩
theorem Grm.ok.by {S : Nat → Prop} {h h' : H} {m : Grm} (o : m.ok h) (k : Ab.Mod S h h') (hS : ∀ i o, m.bp = some (i, o) → ¬ S i ∨ m.bd.length = 0) : m.ok h' := by
  refine ⟨?_, o.2⟩
  obtain ⟨⟨l, r⟩, _⟩ := o
  refine ⟨l, ?_⟩
  rcases r with r | ⟨i, c, b, cs, e1, e2, e3⟩
  · exact .inl r
  · rcases hS i c e1 with s | s
    · exact .inr ⟨i, c, b, cs, e1, k.get e2 (.inl s), e3⟩
    · exact .inl ⟨s, .inr rfl⟩
theorem Grm.ok.lt {h : H} {m : Grm} (o : m.ok h) : ∀ i c, m.bp = some (i, c) → i < h.next ∨ m.bd.length = 0 := fun i c e => by
  rcases o.1.2 with ⟨r, _⟩ | ⟨i', c', b, cs, e1, e2, _⟩
  · exact .inr r
  · rw [e] at e1
    injection e1 with e1
    injection e1 with e1
    subst e1
    exact .inl (h.lt _ _ e2)
def gtail (m : Grm) : List (Nat × Int) :=
  if m.k = 1 then [(4, m.sq), (4, m.ak)] else if m.k = 2 then [(4, m.ak)] else if m.k = 3 then [(1, m.cd)] else []
def gparts (m : Grm) : List (Nat × Int) := (4, m.cn) :: gtail m
def gbody (m : Grm) : List Int := if m.k = 1 then m.bd else []
def gpay (m : Grm) : List Int := bytesP (gparts m) ++ gbody m
def gknd (m : Grm) : Bool := decide (1 ≤ m.k ∧ m.k ≤ 3)
def gOk (m : Grm) : Bool := gknd m && fitP (gparts m) && decide ((gpay m).length ≤ 2000)
def encG (m : Grm) : List Int := if gOk m then frm 77 3 m.k (gpay m) else []
theorem gtail_1 {m : Grm} (h : m.k = 1) : gtail m = [(4, m.sq), (4, m.ak)] := by rw [gtail, if_pos h]
theorem gtail_2 {m : Grm} (h : m.k = 2) : gtail m = [(4, m.ak)] := by rw [gtail, if_neg (by omega), if_pos h]
theorem gtail_3 {m : Grm} (h : m.k = 3) : gtail m = [(1, m.cd)] := by rw [gtail, if_neg (by omega), if_neg (by omega), if_pos h]
theorem gbody_1 {m : Grm} (h : m.k = 1) : gbody m = m.bd := by rw [gbody, if_pos h]
theorem gbody_n {m : Grm} (h : m.k ≠ 1) : gbody m = [] := by rw [gbody, if_neg h]
theorem gpay_bts {m : Grm} (hb : Bts m.bd) : Bts (gpay m) := by
  refine (bytesP_bts _).append ?_
  unfold gbody
  split
  · exact hb
  · exact fun _ k => by cases k
theorem gparts_len (m : Grm) : (gparts m).length ≤ 3 ∧ (bytesP (gparts m)).length ≤ 12 := by
  rw [bytesP_length]
  unfold gparts gtail
  split
  · exact ⟨show (3 : Nat) ≤ 3 by decide, show (12 : Nat) ≤ 12 by decide⟩
  · split
    · exact ⟨show (2 : Nat) ≤ 3 by decide, show (8 : Nat) ≤ 12 by decide⟩
    · split
      · exact ⟨show (2 : Nat) ≤ 3 by decide, show (5 : Nat) ≤ 12 by decide⟩
      · exact ⟨show (1 : Nat) ≤ 3 by decide, show (4 : Nat) ≤ 12 by decide⟩
theorem gpay_len (m : Grm) : (gpay m).length ≤ 12 + m.bd.length := by
  have := (gparts_len m).2
  rw [gpay, List.length_append]
  unfold gbody
  split
  · omega
  · simp only [List.length_nil]
    omega
theorem gk_byte {m : Grm} (h : gknd m = true) : 0 ≤ m.k ∧ m.k < 256 := by
  simp only [gknd, decide_eq_true_eq] at h
  omega
theorem encG_bts {m : Grm} (hb : Bts m.bd) : Bts (encG m) := by
  unfold encG
  split
  · rename_i h
    simp only [gOk, Bool.and_eq_true] at h
    exact frm_bts (by decide) (by decide) (gk_byte h.1.1) (gpay_bts hb)
  · exact fun _ k => by cases k
theorem encG_len (m : Grm) : (encG m).length ≤ 21 + m.bd.length := by
  unfold encG
  split
  · rw [frm_length]
    have := gpay_len m
    omega
  · exact Nat.zero_le _
theorem un_encG {m : Grm} (h : gOk m = true) : unV (encG m) = (m.k, gpay m, 0) := by
  rw [encG, h, if_pos rfl]
  simp only [gOk, Bool.and_eq_true, decide_eq_true_eq] at h
  rw [un_frm h.2]
  rfl
/-! ### Frames, the other way about -/
theorem un_inv {b : List Int} (bb : Bts b) {k : Int} {xs : List Int} (h : unV b = (k, xs, 0)) : b = frm 77 3 k xs ∧ xs.length ≤ 2000 ∧ Bts xs ∧ 0 ≤ k ∧ k < 256 := by
  unfold unV at h
  split at h
  · cases h
  · rename_i h1
    split at h
    · cases h
    · rename_i h2
      split at h
      · cases h
      · rename_i h3
        injection h with hk h
        injection h with hx _
        simp only [Bool.or_eq_true, not_or, bne_iff_ne, ne_eq, Decidable.not_not, decide_eq_true_eq] at h1 h2
        obtain ⟨⟨⟨h9, h77⟩, hl⟩, hs⟩ := h1
        have b3 := bts_getD bb 3
        have b4 := bts_getD bb 4
        have b2 := bts_getD bb 2
        have hN : (unN b : Int) = b.getD 3 0 * 256 + b.getD 4 0 := by
          unfold unN
          omega
        have hxl : xs.length = unN b := by
          rw [← hx, List.length_take, List.length_drop]
          omega
        have e5 : b.take 5 = hd 77 3 k xs.length := by
          obtain ⟨a0, a1, a2, a3, a4, rest, rfl⟩ := split5 (xs := b) (by omega)
          have g0 : a0 = 77 := h77
          have g1 : a1 = 3 := h2
          have g2 : a2 = k := hk
          have hN : (unN (a0 :: a1 :: a2 :: a3 :: a4 :: rest) : Int) = a3 * 256 + a4 := hN
          have b3 : 0 ≤ a3 ∧ a3 < 256 := b3
          have b4 : 0 ≤ a4 ∧ a4 < 256 := b4
          rw [g0, g1, g2, hxl]
          show [77, 3, k, a3, a4] = _
          unfold hd
          have e : ((unN (a0 :: a1 :: a2 :: a3 :: a4 :: rest) : Nat) : Int).fdiv (2 ^ (min (8 : Int).toNat IntKind.i64.bits)) = ((unN (a0 :: a1 :: a2 :: a3 :: a4 :: rest) : Nat) : Int) / 256 := Int.fdiv_eq_ediv_of_nonneg _ (by decide)
          rw [wrap_u8_eq, wrap_u8_eq, ← g0, ← g1, ← g2, e, hN]
          have q1 : (a3 * 256 + a4) / 256 % 256 = a3 := by omega
          have q2 : (a3 * 256 + a4) % 256 = a4 := by omega
          rw [q1, q2]
        have e6 : b.take (unN b + 5) = hd 77 3 k xs.length ++ xs := by
          rw [← e5, ← hx, Nat.add_comm, List.take_add]
        refine ⟨?_, by omega, ?_, by omega, by omega⟩
        · rw [frm, ← e6, hs, List.take_append_drop]
        · rw [← hx]
          exact bts_take (bts_drop bb 5) _
/-! ### Octets of a number, the other way about -/
theorem be_of_fold : ∀ (ys : List Int) (a : Nat), Bts ys → (a + 1) * 256 ^ ys.length ≤ 72057594037927936 → ∃ n : Nat, ys.foldl shOr (a : Int) = n ∧ n < (a + 1) * 256 ^ ys.length ∧ n / 256 ^ ys.length = a ∧ be (n : Int) ys.length = ys
  | [], a, _, _ => ⟨a, rfl, by simp, by simp, rfl⟩
  | y :: ys, a, hb, h => by
    have hy := hb y (by simp)
    obtain ⟨z, rfl⟩ := Int.eq_ofNat_of_zero_le hy.1
    have hz : z < 256 := by omega
    have hP : 0 < 256 ^ ys.length := Nat.pow_pos (by decide)
    rw [List.length_cons, Nat.pow_succ] at h
    have h2 : (a + 1) * 256 ≤ 72057594037927936 := by
      refine Nat.le_trans ?_ h
      rw [Nat.mul_comm (256 ^ ys.length), ← Nat.mul_assoc]
      exact Nat.le_mul_of_pos_right _ hP
    have e := shOr_eq (n := a) (b := z) (by omega) hz
    have h3 : (a * 256 + z + 1) * 256 ^ ys.length ≤ (a + 1) * (256 ^ ys.length * 256) := by
      rw [Nat.mul_comm (256 ^ ys.length), ← Nat.mul_assoc]
      exact Nat.mul_le_mul_right _ (by omega)
    obtain ⟨n, h4, h5, h6, h7⟩ := be_of_fold ys (a * 256 + z) (fun x hx => hb x (by simp [hx])) (Nat.le_trans h3 h)
    have h8 : n / 256 ^ (ys.length + 1) = a := by
      rw [Nat.pow_succ, ← Nat.div_div_eq_div_mul, h6]
      omega
    refine ⟨n, ?_, ?_, ?_, ?_⟩
    · rw [List.foldl_cons]
      show ys.foldl shOr (shOr (a : Int) (z : Int)) = n
      rw [e, h4]
    · rw [List.length_cons, Nat.pow_succ]
      exact Nat.lt_of_lt_of_le h5 h3
    · rw [List.length_cons]
      exact h8
    · rw [List.length_cons]
      have hl : ys.length ≤ 7 := by
        rcases Nat.lt_or_ge 7 ys.length with hlt | hge
        · have : 256 ^ 8 ≤ 256 ^ ys.length := Nat.pow_le_pow_right (by decide) hlt
          have e8 : (256 : Nat) ^ 8 = 18446744073709551616 := by decide
          have : 256 ^ ys.length ≤ (a + 1) * (256 ^ ys.length * 256) := by
            rw [Nat.mul_comm (256 ^ ys.length), ← Nat.mul_assoc]
            exact Nat.le_mul_of_pos_left _ (by omega)
          omega
        · exact hge
      show oct (n : Int) (ys.length : Nat) :: be (n : Int) ys.length = _
      rw [oct_eq hl, h6, h7]
      congr 1
      omega
/-- a number that was read, with nothing wrong -/
theorem back_pure {xs : List Int} {sp : Bool} (hb : Bts xs) {k : Nat} (h7 : k ≤ 7) :
    (0 ≤ (rawV xs sp (k : Int)).foldl shOr 0 ∧ (rawV xs sp (k : Int)).foldl shOr 0 < 2 ^ (8 * k)) ∧ ((!rawOk xs sp (k : Int)) = false → sp = false ∧ xs = be ((rawV xs sp (k : Int)).foldl shOr 0) k ++ rawX xs sp (k : Int)) := by
  obtain ⟨l1, l2, l3, l4⟩ := rawV_len (xs := xs) (sp := sp) (k := k)
  have hp : 256 ^ k ≤ 256 ^ 7 := Nat.pow_le_pow_right (by decide) h7
  have hp2 : 256 ^ (rawV xs sp (k : Int)).length ≤ 256 ^ k := Nat.pow_le_pow_right (by decide) l1
  have h256 : (256 : Nat) ^ 7 = 72057594037927936 := by decide
  obtain ⟨n, f1, f2, _, f4⟩ := be_of_fold (rawV xs sp (k : Int)) 0 (l2 hb) (by omega)
  have f1 : (rawV xs sp (k : Int)).foldl shOr 0 = (n : Int) := f1
  have e2 : (2 : Int) ^ (8 * k) = ((256 ^ k : Nat) : Int) := by
    rw [Int.pow_mul, Int.natCast_pow]
    rfl
  refine ⟨?_, fun hs => ?_⟩
  · rw [f1, e2]
    omega
  · have hr : rawOk xs sp (k : Int) = true := by simpa using hs
    rw [f1]
    rw [rawV, hr, if_pos rfl, Int.toNat_natCast] at f4
    rw [rawX, hr, if_pos rfl, Int.toNat_natCast]
    simp only [rawOk, Bool.and_eq_true, Bool.not_eq_true', decide_eq_true_eq] at hr
    have hl : (xs.take k).length = k := by
      rw [List.length_take]
      omega
    rw [hl] at f4
    exact ⟨hr.1.1, by rw [f4, List.take_append_drop]⟩
end Go.Proofs.Ytnpfdppmpmnhbaa
