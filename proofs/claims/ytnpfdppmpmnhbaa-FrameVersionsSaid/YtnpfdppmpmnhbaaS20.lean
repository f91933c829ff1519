/- The checksum as a linear map: one to three bits that turn are seen. -/
import Derived.Test.YtnpfdppmpmnhbaaS17
set_option linter.unusedVariables false
namespace Go.Proofs.Ytnpfdppmpmnhbaa
open Go Go.Ab
abbrev W := BitVec 32
def poly : W := 2197175160#32
def stepB (v : W) : W := match v.getLsbD 0 with
  | true => (v >>> 1) ^^^ poly
  | false => v >>> 1
def stepsB : Nat → W → W
  | 0, v => v
  | n + 1, v => stepsB n (stepB v)
def octB (v : W) (x : Int) : W := stepsB 8 (v ^^^ BitVec.ofInt 32 x)
def crcB (v : W) (xs : List Int) : W := xs.foldl octB v
theorem stepB_bit (v : W) (i : Nat) : (stepB v).getLsbD i = (v.getLsbD (i + 1) ^^ (v.getLsbD 0 && poly.getLsbD i)) := by
  unfold stepB
  cases h : v.getLsbD 0 with
  | true => simp [BitVec.getLsbD_xor, BitVec.getLsbD_ushiftRight, Nat.add_comm]
  | false => simp [BitVec.getLsbD_ushiftRight, Nat.add_comm]
theorem stepB_xor (a b : W) : stepB (a ^^^ b) = stepB a ^^^ stepB b := by
  apply BitVec.eq_of_getLsbD_eq
  intro i hi
  rw [BitVec.getLsbD_xor, stepB_bit, stepB_bit, stepB_bit, BitVec.getLsbD_xor, BitVec.getLsbD_xor]
  cases a.getLsbD (i + 1) <;> cases b.getLsbD (i + 1) <;> cases a.getLsbD 0 <;> cases b.getLsbD 0 <;> cases poly.getLsbD i <;> rfl
theorem stepsB_xor : ∀ (n : Nat) (a b : W), stepsB n (a ^^^ b) = stepsB n a ^^^ stepsB n b
  | 0, _, _ => rfl
  | n + 1, a, b => by rw [stepsB, stepsB, stepsB, stepB_xor, stepsB_xor n]
theorem stepsB_add : ∀ (n m : Nat) (a : W), stepsB (n + m) a = stepsB m (stepsB n a)
  | 0, m, a => by rw [Nat.zero_add]; rfl
  | n + 1, m, a => by rw [Nat.add_right_comm, stepsB, stepsB_add n m]; rfl
theorem stepB_zero {v : W} (h : stepB v = 0#32) : v = 0#32 := by
  have hb : ∀ i, (v.getLsbD (i + 1) ^^ (v.getLsbD 0 && poly.getLsbD i)) = false := fun i => by
    rw [← stepB_bit, h]
    simp
  have h0 : v.getLsbD 0 = false := by
    have := hb 31
    rw [BitVec.getLsbD_of_ge v 32 (Nat.le_refl _), show poly.getLsbD 31 = true by decide] at this
    simpa using this
  apply BitVec.eq_of_getLsbD_eq
  intro i hi
  cases i with
  | zero => rw [h0]; simp
  | succ i =>
    have := hb i
    rw [h0] at this
    simpa using this
theorem stepsB_zero : ∀ (n : Nat) {v : W}, stepsB n v = 0#32 → v = 0#32
  | 0, _, h => h
  | n + 1, _, h => stepB_zero (stepsB_zero n h)
theorem xor_zero_eq {a b : W} (h : a ^^^ b = 0#32) : a = b := by
  have : a ^^^ b ^^^ b = 0#32 ^^^ b := by rw [h]
  rwa [BitVec.xor_assoc, BitVec.xor_self, BitVec.xor_zero, BitVec.zero_xor] at this
theorem crcB_xor : ∀ (xs : List Int) (a d : W), crcB (a ^^^ d) xs = crcB a xs ^^^ stepsB (8 * xs.length) d
  | [], a, d => rfl
  | x :: xs, a, d => by
    have e : octB (a ^^^ d) x = octB a x ^^^ stepsB 8 d := by
      rw [octB, octB, ← stepsB_xor, BitVec.xor_assoc, BitVec.xor_comm d, ← BitVec.xor_assoc]
    show crcB (octB (a ^^^ d) x) xs = crcB (octB a x) xs ^^^ _
    rw [e, crcB_xor xs, List.length_cons, show 8 * (xs.length + 1) = 8 + 8 * xs.length by omega, stepsB_add 8]
/-- one octet turned -/
theorem crcB_set : ∀ (xs : List Int) (i : Nat) (x y : Int) (d v : W), xs[i]? = some x → BitVec.ofInt 32 y = BitVec.ofInt 32 x ^^^ d → crcB v (xs.set i y) = crcB v xs ^^^ stepsB (8 * (xs.length - i)) d
  | [], i, x, y, d, v, h, _ => by simp at h
  | z :: xs, 0, x, y, d, v, h, e => by
    simp at h
    subst h
    show crcB (octB v y) xs = crcB (octB v z) xs ^^^ _
    have : octB v y = octB v z ^^^ stepsB 8 d := by
      rw [octB, octB, ← stepsB_xor, e, BitVec.xor_assoc]
    rw [this, crcB_xor, List.length_cons, show 8 * (xs.length + 1 - 0) = 8 + 8 * xs.length by omega, stepsB_add 8]
  | z :: xs, i + 1, x, y, d, v, h, e => by
    show crcB (octB v z) (xs.set i y) = crcB (octB v z) xs ^^^ _
    rw [crcB_set xs i x y d _ (by simpa using h) e, List.length_cons, Nat.add_sub_add_right]
/-! ### Units -/
def e31 : W := 2147483648#32
def U (q : Nat) : W := stepsB q e31
theorem U_add (q n : Nat) : stepsB n (U q) = U (q + n) := (stepsB_add q n e31).symm
theorem U_bit : ∀ j, j < 32 → U (31 - j) = 1#32 <<< j := by decide +kernel
/-- how many bits, odd or even -/
def par (v : W) : Bool := (List.range 32).foldl (fun b i => b ^^ v.getLsbD i) false
theorem par_xor (a b : W) : par (a ^^^ b) = (par a ^^ par b) := by
  have : ∀ (l : List Nat) (x y : Bool), l.foldl (fun c i => c ^^ (a ^^^ b).getLsbD i) (x ^^ y) = (l.foldl (fun c i => c ^^ a.getLsbD i) x ^^ l.foldl (fun c i => c ^^ b.getLsbD i) y) := by
    intro l
    induction l with
    | nil => intro x y; rfl
    | cons i l ih =>
      intro x y
      simp only [List.foldl_cons]
      rw [← ih]
      congr 1
      rw [BitVec.getLsbD_xor]
      cases x <;> cases y <;> cases a.getLsbD i <;> cases b.getLsbD i <;> rfl
  exact this _ false false
theorem foldl_xor_add (f g : Nat → Bool) : ∀ (l : List Nat) (x y : Bool), l.foldl (fun c i => c ^^ (f i ^^ g i)) (x ^^ y) = (l.foldl (fun c i => c ^^ f i) x ^^ l.foldl (fun c i => c ^^ g i) y)
  | [], _, _ => rfl
  | i :: l, x, y => by
    simp only [List.foldl_cons]
    rw [← foldl_xor_add f g l]
    congr 1
    cases x <;> cases y <;> cases f i <;> cases g i <;> rfl
theorem par_step (v : W) : par (stepB v) = par v := by
  have e1 : par (stepB v) = (List.range 32).foldl (fun b i => b ^^ (v.getLsbD (i + 1) ^^ (v.getLsbD 0 && poly.getLsbD i))) (false ^^ false) := by
    unfold par
    congr 1
    funext b i
    rw [stepB_bit]
  rw [e1, foldl_xor_add]
  have e2 : (List.range 32).foldl (fun b i => b ^^ (v.getLsbD 0 && poly.getLsbD i)) false = v.getLsbD 0 := by
    cases v.getLsbD 0 <;> decide
  rw [e2]
  have e3 : (List.range 32) = 0 :: (List.range 31).map (· + 1) := by decide
  have e4 : (List.range 32) = List.range 31 ++ [31] := by decide
  have e5 : (List.range 32).foldl (fun c i => c ^^ v.getLsbD (i + 1)) false = (List.range 31).foldl (fun c i => c ^^ v.getLsbD (i + 1)) false := by
    rw [e4, List.foldl_append, List.foldl_cons, List.foldl_nil, BitVec.getLsbD_of_ge v (31 + 1) (Nat.le_refl _), Bool.xor_false]
  rw [e5]
  unfold par
  rw [e3, List.foldl_cons, List.foldl_map]
  have h5 : ∀ (l : List Nat) (x : Bool), (l.foldl (fun b i => b ^^ v.getLsbD (i + 1)) x) = (x ^^ l.foldl (fun b i => b ^^ v.getLsbD (i + 1)) false) := by
    intro l
    induction l with
    | nil => intro x; simp
    | cons i l ih =>
      intro x
      simp only [List.foldl_cons]
      rw [ih (x ^^ _), ih (false ^^ _)]
      simp
  rw [h5 _ (false ^^ v.getLsbD 0), Bool.false_xor, Bool.xor_comm]
theorem par_steps : ∀ (n : Nat) (v : W), par (stepsB n v) = par v
  | 0, _ => rfl
  | n + 1, v => by rw [stepsB, par_steps n, par_step]
theorem par_U (q : Nat) : par (U q) = true := by
  rw [U, par_steps]
  decide +kernel
theorem par_zero : par 0#32 = false := by decide +kernel
/-- the steps, on numbers -/
def stepN (n : Nat) : Nat := bif Nat.beq (n % 2) 1 then Nat.xor (n / 2) 2197175160 else n / 2
def never (z : Nat) : Nat → Nat → Bool
  | 0, _ => true
  | k + 1, n => !(Nat.beq n z) && never z k (stepN n)
theorem stepN_eq (v : W) : stepN v.toNat = (stepB v).toNat := by
  unfold stepN stepB
  have h0 : v.getLsbD 0 = Nat.beq (v.toNat % 2) 1 := by
    rw [← BitVec.testBit_toNat, Nat.testBit_zero]
    rcases Nat.mod_two_eq_zero_or_one v.toNat with h | h <;> rw [h] <;> rfl
  rw [h0]
  cases Nat.beq (v.toNat % 2) 1 with
  | true =>
    simp only [cond_true, BitVec.toNat_xor, BitVec.toNat_ushiftRight, Nat.shiftRight_eq_div_pow, Nat.pow_one]
    rfl
  | false => simp only [cond_false, BitVec.toNat_ushiftRight, Nat.shiftRight_eq_div_pow, Nat.pow_one]
theorem never_spec (z : Nat) : ∀ (k : Nat) (v : W), never z k v.toNat = true → ∀ d, d < k → (stepsB d v).toNat ≠ z
  | 0, _, _, d, hd => by omega
  | k + 1, v, h, d, hd => by
    simp only [never, Bool.and_eq_true, Bool.not_eq_true'] at h
    cases d with
    | zero => exact Nat.ne_of_beq_eq_false h.1
    | succ d =>
      rw [stepsB]
      exact never_spec z k (stepB v) (by rw [← stepN_eq]; exact h.2) d (by omega)
set_option maxRecDepth 100000 in
theorem never_4000 : never 2147483648 4000 (stepB e31).toNat = true := by decide +kernel
theorem U_inj_lt {a b : Nat} (h : a < b) (hb : b - a ≤ 4000) : U a ≠ U b := by
  intro e
  have e2 : stepsB a (e31 ^^^ U (b - a)) = 0#32 := by
    rw [stepsB_xor]
    have : stepsB a (U (b - a)) = U b := by rw [U_add]; congr 1; omega
    rw [this, ← e]
    exact BitVec.xor_self
  have e3 := xor_zero_eq (stepsB_zero a e2)
  have e4 : U (b - a) = stepsB (b - a - 1) (stepB e31) := by
    have : b - a = 1 + (b - a - 1) := by omega
    rw [U, this, stepsB_add 1, show 1 + (b - a - 1) - 1 = b - a - 1 by omega]
    rfl
  exact never_spec _ _ _ never_4000 (b - a - 1) (by omega) (by rw [← e4, ← e3]; rfl)
theorem U_inj {a b : Nat} (ha : a ≤ 4000) (hb : b ≤ 4000) (e : U a = U b) : a = b := by
  rcases Nat.lt_trichotomy a b with h | h | h
  · exact absurd e (U_inj_lt h (by omega))
  · exact h
  · exact absurd e.symm (U_inj_lt h (by omega))
/-! ### The Int form -/
theorem toNat_ofInt_toNat (v : W) : BitVec.ofInt 32 (v.toNat : Int) = v := by
  rw [BitVec.ofInt_natCast, BitVec.ofNat_toNat, BitVec.setWidth_eq]
theorem wrap_u32_toNat (v : W) : IntKind.u32.wrap (v.toNat : Int) = (v.toNat : Int) := by
  have := v.isLt
  simp only [IntKind.wrap, IntKind.bits, IntKind.signed]
  simp
  omega
theorem bit1_eq (v : W) : bit1 (v.toNat : Int) = ((stepB v).toNat : Int) := by
  have hsh : shr1 (v.toNat : Int) = ((v >>> 1).toNat : Int) := by
    rw [BitVec.toNat_ushiftRight, Nat.shiftRight_eq_div_pow, Nat.pow_one]
    show (v.toNat : Int).fdiv (2 ^ 1) = _
    rw [Int.fdiv_eq_ediv_of_nonneg _ (by decide)]
    rfl
  have hlow : low1 (v.toNat : Int) = ((v.toNat % 2 : Nat) : Int) := by
    unfold low1
    have e1 : BitVec.ofInt IntKind.u32.bits (v.toNat : Int) = v := toNat_ofInt_toNat v
    have e2 : (v &&& BitVec.ofInt 32 1).toNat = v.toNat % 2 := by
      rw [BitVec.toNat_and, show (BitVec.ofInt 32 1).toNat = 1 from rfl, Nat.and_one_is_mod]
    rw [e1]
    show IntKind.u32.wrap (((v &&& BitVec.ofInt 32 1).toNat : Nat) : Int) = _
    rw [wrap_u32_toNat, e2]
  rw [bit1, hlow, hsh, stepB]
  have h0 : v.getLsbD 0 = decide (v.toNat % 2 = 1) := by
    rw [← BitVec.testBit_toNat, Nat.testBit_zero]
  rw [h0]
  by_cases h : v.toNat % 2 = 1
  · rw [h]
    simp only [decide_true]
    rw [if_pos (by decide)]
    unfold xor32
    have e1 : BitVec.ofInt IntKind.u32.bits ((v >>> 1).toNat : Int) = v >>> 1 := toNat_ofInt_toNat _
    rw [e1]
    exact wrap_u32_toNat _
  · rw [show v.toNat % 2 = 0 by omega]
    rfl
theorem bits_eq : ∀ (n : Nat) (v : W), bits n (v.toNat : Int) = ((stepsB n v).toNat : Int)
  | 0, _ => rfl
  | n + 1, v => by rw [bits, bit1_eq, bits_eq n, stepsB]
theorem ofInt_wrap_u32 (x : Int) : BitVec.ofInt 32 (IntKind.u32.wrap x) = BitVec.ofInt 32 x := by
  apply BitVec.eq_of_toInt_eq
  rw [BitVec.toInt_ofInt, BitVec.toInt_ofInt]
  have : IntKind.u32.wrap x = x % 4294967296 := by simp [IntKind.wrap, IntKind.bits, IntKind.signed]
  rw [this]
  exact Int.emod_bmod x 4294967296
theorem octet_eq (v : W) (x : Int) : octet (v.toNat : Int) x = ((octB v x).toNat : Int) := by
  unfold octet octB xor32
  have e1 : BitVec.ofInt IntKind.u32.bits (v.toNat : Int) = v := toNat_ofInt_toNat v
  have e2 : BitVec.ofInt IntKind.u32.bits (IntKind.u32.wrap x) = BitVec.ofInt 32 x := ofInt_wrap_u32 x
  rw [e1, e2]
  have e3 : IntKind.u32.wrap ((v ^^^ BitVec.ofInt 32 x).toNat : Int) = ((v ^^^ BitVec.ofInt 32 x).toNat : Int) := wrap_u32_toNat _
  show bits 8 (IntKind.u32.wrap ((v ^^^ BitVec.ofInt 32 x).toNat : Int)) = _
  rw [e3, bits_eq]
theorem fold_eq : ∀ (xs : List Int) (v : W), xs.foldl octet (v.toNat : Int) = ((crcB v xs).toNat : Int)
  | [], _ => rfl
  | x :: xs, v => by
    rw [List.foldl_cons, octet_eq, fold_eq xs]
    rfl
def ones : W := 4294967295#32
theorem sumV_eq (xs : List Int) : sumV xs = ((ones ^^^ crcB ones xs).toNat : Int) := by
  unfold sumV
  have e1 : xs.foldl octet 4294967295 = ((crcB ones xs).toNat : Int) := fold_eq xs ones
  rw [e1]
  have e2 : BitVec.ofInt IntKind.u32.bits ((crcB ones xs).toNat : Int) = crcB ones xs := toNat_ofInt_toNat _
  rw [e2]
  exact wrap_u32_toNat _
end Go.Proofs.Ytnpfdppmpmnhbaa
