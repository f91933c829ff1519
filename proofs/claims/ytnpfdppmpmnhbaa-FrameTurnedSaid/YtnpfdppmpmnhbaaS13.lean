/- Round; what is spoilt stays so; the octets of a number, read back. -/
import Derived.Test.YtnpfdppmpmnhbaaS11
set_option linter.unusedVariables false
namespace Go.Proofs.Ytnpfdppmpmnhbaa
open Go Go.Ab
theorem tmod_round {x m : Int} (hm : 0 < m) : (if x.tmod m < 0 then x.tmod m + m else x.tmod m) = x % m := by
  have h1 := Int.emod_nonneg x (show m ≠ 0 by omega)
  have h2 := Int.emod_lt_of_pos x hm
  rw [Int.tmod_eq_emod]
  split
  · rw [if_neg (by omega)]
    omega
  · rw [if_pos (by omega)]
    omega
theorem round33 {m : Int} (hm : 0 < m) (hm2 : m ≤ 72057594037927936) (x : Int) (h : H) : ACalls Try.prog 33 [i64 x, i64 m] h (fun r h' => h' = h ∧ r = i64 (x % m)) := by
  have hr := tmod_round (x := x) hm
  have h1 := Int.emod_nonneg x (show m ≠ 0 by omega)
  have h2 := Int.emod_lt_of_pos x hm
  refine call_ Try.func33 rfl rfl (by kernel_rfl) ?_
  conv => whnf
  refine ⟨by omega, ?_⟩
  conv => whnf
  refine br_mk (fun hb => ?_) (fun hb => ?_)
  · conv => whnf
    simp at hb
    rw [if_pos hb] at hr
    refine ⟨rfl, congrArg i64 ?_⟩
    rw [hr]
    exact wrap_i64 (by omega) (by omega)
  · conv => whnf
    simp at hb
    rw [if_neg (by omega)] at hr
    exact ⟨rfl, congrArg i64 hr⟩
theorem numsGo_spoilt (k : Int) : ∀ (vs xs : List Int), (numsGo k vs xs true).2 = true
  | [], _ => rfl
  | v :: vs, xs => by
    rw [numsGo]
    split
    · rfl
    · exact numsGo_spoilt k vs _
theorem numsV_spoilt (k : Int) (vs xs : List Int) : (numsV k vs xs true).2 = true := by
  rw [numsV]
  split
  · rfl
  · exact numsGo_spoilt k vs xs
theorem numsV_bad {k v : Int} (h : bad k v = true) (xs : List Int) (sp : Bool) : (numsV k [v] xs sp).2 = true := by
  rw [numsV, numsGo, h]
  split <;> rfl
theorem shr_eq {k : Nat} (hk : k ≤ 7) (v : Int) : shr_ v k = v / 2 ^ (8 * k) := by
  have h8 := wrap8 (i := (k : Int)) (by omega) (by omega)
  have e : min (IntKind.i64.wrap (8 * (k : Int))).toNat IntKind.i64.bits = 8 * k := by
    rw [h8]
    have : IntKind.i64.bits = 64 := rfl
    omega
  rw [shr_, e, Int.fdiv_eq_ediv_of_nonneg _ (Int.pow_nonneg (by decide))]
theorem bad_top {k : Nat} (h1 : 1 ≤ k) (hk : k ≤ 7) : bad k (2 ^ (8 * k)) = true := by
  have hp : (0 : Int) < 2 ^ (8 * k) := Int.pow_pos (by decide)
  simp only [bad, shr_eq hk, Int.ediv_self (Int.ne_of_gt hp)]
  simp
theorem bad_neg (k : Int) : bad k (-1) = true := by simp [bad]
theorem bad_no {k : Nat} (hk : k ≤ 7) {v : Int} (h0 : 0 ≤ v) (hv : v < 2 ^ (8 * k)) : bad k v = false := by
  simp only [bad, shr_eq hk, Int.ediv_eq_zero_of_lt h0 hv]
  simp
  exact h0
/-- the octets of a number, read back -/
theorem shOr_eq {n b : Nat} (hn : n < 281474976710656) (hb : b < 256) : shOr n b = ((n * 256 + b : Nat) : Int) := by
  have e1 : (min (8 : Int).toNat IntKind.i64.bits) = 8 := rfl
  rw [shOr, e1, wrap_i64 (x := (n : Int) * 2 ^ 8) (by omega) (by omega), wrap_i64 (x := (b : Int)) (by omega) (by omega)]
  have e2 : IntKind.i64.bits = 64 := rfl
  have e3 : (n : Int) * 2 ^ 8 = ((n * 256 : Nat) : Int) := by omega
  have : ((BitVec.ofInt IntKind.i64.bits ((n : Int) * 2 ^ 8) ||| BitVec.ofInt IntKind.i64.bits (b : Int)).toNat) = n * 256 + b := by
    rw [e2, e3, BitVec.ofInt_natCast, BitVec.ofInt_natCast, BitVec.toNat_or, BitVec.toNat_ofNat, BitVec.toNat_ofNat, Nat.mod_eq_of_lt (by omega), Nat.mod_eq_of_lt (by omega)]
    have := Nat.shiftLeft_add_eq_or_of_lt (b := b) (i := 8) (by omega) n
    rw [Nat.shiftLeft_eq] at this
    exact this.symm
  rw [this]
  exact wrap_i64 (by omega) (by omega)
theorem wrap_u8_eq (x : Int) : IntKind.u8.wrap x = x % 256 := by simp [IntKind.wrap, IntKind.bits, IntKind.signed]
theorem oct_eq {v n : Nat} (hn : n ≤ 7) : oct (v : Int) (n : Int) = ((v / 256 ^ n % 256 : Nat) : Int) := by
  have e : (2 : Int) ^ (8 * n) = ((256 ^ n : Nat) : Int) := by
    rw [Int.pow_mul, Int.natCast_pow]
    rfl
  rw [oct, shr_eq hn, e, wrap_u8_eq, Int.natCast_emod, Int.natCast_ediv]
  rfl
theorem fold_be (v : Nat) : ∀ (n a : Nat), n ≤ 7 → a * 256 ^ n + v % 256 ^ n < 72057594037927936 → (be (v : Int) n).foldl shOr (a : Int) = ((a * 256 ^ n + v % 256 ^ n : Nat) : Int)
  | 0, a, _, _ => by simp [be, Nat.mod_one]
  | n + 1, a, hn, h => by
    have hp : 0 < 256 ^ n := Nat.pow_pos (by decide)
    have e1 : v % 256 ^ (n + 1) = v % 256 ^ n + 256 ^ n * (v / 256 ^ n % 256) := by rw [Nat.pow_succ, Nat.mod_mul]
    have e2 : (a * 256 + v / 256 ^ n % 256) * 256 ^ n = a * 256 ^ (n + 1) + 256 ^ n * (v / 256 ^ n % 256) := by
      rw [Nat.add_mul, Nat.pow_succ, Nat.mul_assoc, Nat.mul_comm 256 (256 ^ n), Nat.mul_comm (v / 256 ^ n % 256)]
    have ha : a < 281474976710656 := by
      have : a * 256 ≤ a * 256 ^ (n + 1) := Nat.mul_le_mul_left _ (by rw [Nat.pow_succ]; exact Nat.le_mul_of_pos_left _ hp)
      omega
    have hb : v / 256 ^ n % 256 < 256 := Nat.mod_lt _ (by decide)
    rw [be, List.foldl_cons, oct_eq (by omega), shOr_eq ha hb, fold_be v n _ (by omega) (by omega)]
    congr 1
    omega
end Go.Proofs.Ytnpfdppmpmnhbaa
