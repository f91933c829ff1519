/- Frames: what is turned in one to three bits has another sum. -/
import Derived.Test.YtnpfdppmpmnhbaaS20
import Derived.Test.YtnpfdppmpmnhbaaS19
set_option linter.unusedVariables false
namespace Go.Proofs.Ytnpfdppmpmnhbaa
open Go Go.Ab
def wordB (v : W) (xs : List Int) : W := xs.foldl (fun v x => v <<< 8 ^^^ BitVec.ofInt 32 x) v
def word (xs : List Int) : W := wordB 0#32 xs
theorem wordB_xor : ∀ (xs : List Int) (a d : W), wordB (a ^^^ d) xs = wordB a xs ^^^ d <<< (8 * xs.length)
  | [], a, d => by simp [wordB]
  | x :: xs, a, d => by
    have e : (a ^^^ d) <<< 8 ^^^ BitVec.ofInt 32 x = (a <<< 8 ^^^ BitVec.ofInt 32 x) ^^^ d <<< 8 := by
      rw [BitVec.shiftLeft_xor_distrib, BitVec.xor_assoc, BitVec.xor_comm (d <<< 8), ← BitVec.xor_assoc]
    show wordB ((a ^^^ d) <<< 8 ^^^ BitVec.ofInt 32 x) xs = wordB (a <<< 8 ^^^ BitVec.ofInt 32 x) xs ^^^ _
    rw [e, wordB_xor xs, List.length_cons, show 8 * (xs.length + 1) = 8 + 8 * xs.length by omega, BitVec.shiftLeft_add]
theorem wordB_set : ∀ (xs : List Int) (i : Nat) (x y : Int) (d v : W), xs[i]? = some x → BitVec.ofInt 32 y = BitVec.ofInt 32 x ^^^ d → wordB v (xs.set i y) = wordB v xs ^^^ d <<< (8 * (xs.length - 1 - i))
  | [], i, x, y, d, v, h, _ => by simp at h
  | z :: xs, 0, x, y, d, v, h, e => by
    simp at h
    subst h
    show wordB (v <<< 8 ^^^ BitVec.ofInt 32 y) xs = wordB (v <<< 8 ^^^ BitVec.ofInt 32 z) xs ^^^ _
    rw [e, ← BitVec.xor_assoc, wordB_xor, List.length_cons]
    rfl
  | z :: xs, i + 1, x, y, d, v, h, e => by
    show wordB (v <<< 8 ^^^ BitVec.ofInt 32 z) (xs.set i y) = wordB (v <<< 8 ^^^ BitVec.ofInt 32 z) xs ^^^ _
    rw [wordB_set xs i x y d _ (by simpa using h) e, List.length_cons]
    congr 2
    have := (List.getElem?_eq_some_iff.1 (show xs[i]? = some x by simpa using h)).1
    omega
theorem shc_toNat (v : W) (i : Nat) (hi : i ≤ 32) : shc (v.toNat : Int) i = ((v.toNat / 2 ^ i % 256 : Nat) : Int) := by
  have e : min (i : Int).toNat IntKind.u32.bits = i := by
    rw [Int.toNat_natCast]
    exact Nat.min_eq_left hi
  rw [shc, e, Int.fdiv_eq_ediv_of_nonneg _ (Int.le_of_lt (Int.pow_pos (by decide))), wrap_u8_eq, Int.natCast_emod, Int.natCast_ediv, Int.natCast_pow]
  rfl
theorem sum4_toNat (v : W) : sum4 (v.toNat : Int) = [((v.toNat / 2 ^ 24 % 256 : Nat) : Int), ((v.toNat / 2 ^ 16 % 256 : Nat) : Int), ((v.toNat / 2 ^ 8 % 256 : Nat) : Int), ((v.toNat % 256 : Nat) : Int)] := by
  rw [sum4, shc_toNat v 24 (by decide), shc_toNat v 16 (by decide), shc_toNat v 8 (by decide), wrap_u8_eq]
  rfl
/-- a word, of its four octets -/
theorem word_four {a b c d : Nat} (ha : a < 256) (hb : b < 256) (hc : c < 256) (hd : d < 256) : (word [(a : Int), (b : Int), (c : Int), (d : Int)]).toNat = ((a * 256 + b) * 256 + c) * 256 + d := by
  have key : ∀ (v : W) (x : Nat), v.toNat < 16777216 → x < 256 → (v <<< 8 ^^^ BitVec.ofInt 32 (x : Int)).toNat = v.toNat * 256 + x := by
    intro v x hv hx
    have e1 : (v <<< 8).toNat = 2 ^ 8 * v.toNat := by
      rw [BitVec.toNat_shiftLeft, Nat.shiftLeft_eq, Nat.mod_eq_of_lt (by omega), Nat.mul_comm]
    have e2 : (BitVec.ofInt 32 (x : Int)).toNat = x := by
      rw [BitVec.ofInt_natCast, BitVec.toNat_ofNat, Nat.mod_eq_of_lt (by omega)]
    rw [BitVec.toNat_xor, e1, e2]
    have : 2 ^ 8 * v.toNat ^^^ x = 2 ^ 8 * v.toNat ||| x := by
      apply Nat.eq_of_testBit_eq
      intro j
      rw [Nat.testBit_xor, Nat.testBit_or]
      rw [Nat.testBit_two_pow_mul]
      by_cases h : 8 ≤ j
      · have : x.testBit j = false := Nat.testBit_lt_two_pow (Nat.lt_of_lt_of_le hx (by
          have : 2 ^ 8 ≤ 2 ^ j := Nat.pow_le_pow_right (by decide) h
          omega))
        rw [this]
        simp
      · simp [h]
    rw [this, ← Nat.two_pow_add_eq_or_of_lt (i := 8) hx]
    omega
  have e0 : (0#32).toNat = 0 := rfl
  have k1 := key 0#32 a (by decide) ha
  have k2 := key _ b (by rw [k1]; omega) hb
  have k3 := key _ c (by rw [k2, k1]; omega) hc
  have k4 := key _ d (by rw [k3, k2, k1]; omega) hd
  show ((((0#32 <<< 8 ^^^ BitVec.ofInt 32 (a : Int)) <<< 8 ^^^ BitVec.ofInt 32 (b : Int)) <<< 8 ^^^ BitVec.ofInt 32 (c : Int)) <<< 8 ^^^ BitVec.ofInt 32 (d : Int)).toNat = _
  rw [k4, k3, k2, k1, e0]
  omega
theorem four_split {ws : List Int} (hl : ws.length = 4) (hb : Bts ws) : ∃ a b c d : Nat, a < 256 ∧ b < 256 ∧ c < 256 ∧ d < 256 ∧ ws = [(a : Int), (b : Int), (c : Int), (d : Int)] := by
  match ws, hl with
  | [a, b, c, d], _ =>
    have h1 := hb a (by simp)
    have h2 := hb b (by simp)
    have h3 := hb c (by simp)
    have h4 := hb d (by simp)
    refine ⟨a.toNat, b.toNat, c.toNat, d.toNat, by omega, by omega, by omega, by omega, ?_⟩
    rw [Int.toNat_of_nonneg h1.1, Int.toNat_of_nonneg h2.1, Int.toNat_of_nonneg h3.1, Int.toNat_of_nonneg h4.1]
theorem four_word {ws : List Int} (hl : ws.length = 4) (hb : Bts ws) : sum4 ((word ws).toNat : Int) = ws := by
  obtain ⟨a, b, c, d, ha, hb', hc, hd, rfl⟩ := four_split hl hb
  rw [sum4_toNat, word_four ha hb' hc hd]
  congr 1
  · omega
  congr 1
  · omega
  congr 1
  · omega
  congr 1
  omega
theorem sum4_bts (c : Int) : Bts (sum4 c) := by
  intro x hx
  simp only [sum4, List.mem_cons, List.not_mem_nil, or_false] at hx
  rcases hx with rfl | rfl | rfl | rfl
  all_goals exact wrap_u8 _
theorem word_sum4 (v : W) : word (sum4 (v.toNat : Int)) = v := by
  rw [sum4_toNat]
  apply BitVec.eq_of_toNat_eq
  rw [word_four (Nat.mod_lt _ (by decide)) (Nat.mod_lt _ (by decide)) (Nat.mod_lt _ (by decide)) (Nat.mod_lt _ (by decide))]
  have := v.isLt
  omega
/-- zero just where the sum is right -/
def syn (c : List Int) (m : Nat) : W := word (c.drop m) ^^^ (ones ^^^ crcB ones (c.take m))
theorem syn_iff {c : List Int} {m : Nat} (hl : c.length = m + 4) (hb : Bts c) : sum4 (sumV (c.take m)) = c.drop m ↔ syn c m = 0#32 := by
  have h4 : (c.drop m).length = 4 := by rw [List.length_drop]; omega
  have hb4 : Bts (c.drop m) := fun x hx => hb x (List.mem_of_mem_drop hx)
  rw [sumV_eq]
  constructor
  · intro h
    rw [syn, ← h, word_sum4]
    exact BitVec.xor_self
  · intro h
    rw [← xor_zero_eq h]
    exact four_word h4 hb4
/-- one bit of an octet, turned -/
def tw (x : Int) (j : Nat) : Int := IntKind.u8.wrap (BitVec.ofInt IntKind.u8.bits x ^^^ BitVec.ofInt IntKind.u8.bits (IntKind.u8.wrap (1 * 2 ^ (min (j : Int).toNat IntKind.u8.bits)))).toNat
theorem tw_facts : ∀ x : Nat, x < 256 → ∀ j : Nat, j < 8 → BitVec.ofInt 32 (tw (x : Int) j) = BitVec.ofInt 32 (x : Int) ^^^ 1#32 <<< j ∧ tw (tw (x : Int) j) j = x := by
  decide +kernel
theorem tw_bts (x : Int) (j : Nat) : 0 ≤ tw x j ∧ tw x j < 256 := wrap_u8 _
def skips (k : Nat) : Bool := Nat.beq (k / 8) 3 || Nat.beq (k / 8) 4
def turn1 (c : List Int) (k : Nat) : List Int := if skips k then c else c.set (k / 8) (tw (c.getD (k / 8) 0) (k % 8))
theorem turn1_length (c : List Int) (k : Nat) : (turn1 c k).length = c.length := by
  unfold turn1
  split <;> simp
theorem turn1_bts {c : List Int} (hb : Bts c) (k : Nat) : Bts (turn1 c k) := by
  unfold turn1
  split
  · exact hb
  · intro x hx
    rcases List.mem_or_eq_of_mem_set hx with h | rfl
    · exact hb x h
    · exact tw_bts _ _
theorem getD_mem {c : List Int} {i : Nat} (h : i < c.length) : c.getD i 0 ∈ c := by
  rw [List.getD_eq_getElem?_getD, List.getElem?_eq_getElem h]
  exact List.getElem_mem h
theorem get_getD {c : List Int} {i : Nat} (h : i < c.length) : c[i]? = some (c.getD i 0) := by
  rw [List.getD_eq_getElem?_getD, List.getElem?_eq_getElem h]
  rfl
theorem turn1_turn1 {c : List Int} (hb : Bts c) {k : Nat} (hk : k / 8 < c.length) : turn1 (turn1 c k) k = c := by
  unfold turn1
  cases hs : skips k with
  | true => rfl
  | false =>
    simp only [Bool.false_eq_true, if_false]
    have e : (c.set (k / 8) (tw (c.getD (k / 8) 0) (k % 8))).getD (k / 8) 0 = tw (c.getD (k / 8) 0) (k % 8) := by
      rw [List.getD_eq_getElem?_getD, List.getElem?_set_self hk]
      rfl
    rw [e, List.set_set]
    have hx := hb _ (getD_mem hk)
    have := (tw_facts (c.getD (k / 8) 0).toNat (by omega) (k % 8) (Nat.mod_lt _ (by decide))).2
    rw [Int.toNat_of_nonneg hx.1] at this
    rw [this]
    apply List.ext_getElem?
    intro i
    rw [List.getElem?_set]
    split
    · rename_i e
      subst e
      exact (get_getD hk).symm
    · rfl
theorem turn1_other {c : List Int} {k i : Nat} (hi : i ≠ k / 8) : (turn1 c k).getD i 0 = c.getD i 0 := by
  unfold turn1
  split
  · rfl
  · rw [List.getD_eq_getElem?_getD, List.getElem?_set_ne (fun e => hi e.symm), List.getD_eq_getElem?_getD]
theorem turn1_head {c : List Int} {k : Nat} : (turn1 c k).getD 3 0 = c.getD 3 0 ∧ (turn1 c k).getD 4 0 = c.getD 4 0 := by
  cases hs : skips k with
  | true =>
    unfold turn1
    rw [hs]
    exact ⟨rfl, rfl⟩
  | false =>
    simp only [skips, Bool.or_eq_false_iff] at hs
    exact ⟨turn1_other (fun e => Nat.ne_of_beq_eq_false hs.1 e.symm), turn1_other (fun e => Nat.ne_of_beq_eq_false hs.2 e.symm)⟩
/-- where a bit stands, as a power -/
def expo (m k : Nat) : Nat := if k / 8 < m then 8 * (m - k / 8) + 31 - k % 8 else 31 - (8 * (3 - (k / 8 - m)) + k % 8)
theorem syn_turn {c : List Int} {m : Nat} (hl : c.length = m + 4) (hb : Bts c) {k : Nat} (hk : k / 8 < c.length) (hs : skips k = false) : syn (turn1 c k) m = syn c m ^^^ U (expo m k) := by
  have hx := hb _ (getD_mem hk)
  have hj : k % 8 < 8 := Nat.mod_lt _ (by decide)
  have ht := (tw_facts (c.getD (k / 8) 0).toNat (by omega) (k % 8) hj).1
  rw [Int.toNat_of_nonneg hx.1] at ht
  unfold turn1 expo
  rw [hs]
  simp only [Bool.false_eq_true, if_false]
  generalize tw (c.getD (k / 8) 0) (k % 8) = y at *
  have hu := U_bit (k % 8) (by omega)
  by_cases h : k / 8 < m
  · rw [if_pos h, syn, syn, List.drop_set_of_lt h, List.take_set]
    rw [crcB_set (c.take m) (k / 8) (c.getD (k / 8) 0) y _ ones (by rw [List.getElem?_take, if_pos h, get_getD hk]) ht]
    rw [← hu, U_add, List.length_take, Nat.min_eq_left (by omega)]
    have : 31 - k % 8 + 8 * (m - k / 8) = 8 * (m - k / 8) + 31 - k % 8 := by omega
    rw [this, ← BitVec.xor_assoc ones, ← BitVec.xor_assoc]
  · rw [if_neg h, syn, syn]
    have e1 : (c.set (k / 8) y).take m = c.take m := by
      rw [List.take_set]
      apply List.ext_getElem?
      intro i
      rw [List.getElem?_set]
      split
      · rename_i e
        subst e
        rw [List.length_take, if_neg (by omega), List.getElem?_take, if_neg (by omega)]
      · rfl
    have e2 : (c.set (k / 8) y).drop m = (c.drop m).set (k / 8 - m) y := by
      rw [List.drop_set, if_neg h]
    rw [e1, e2, word, wordB_set (c.drop m) (k / 8 - m) (c.getD (k / 8) 0) y _ _ (by rw [List.getElem?_drop, show m + (k / 8 - m) = k / 8 by omega, get_getD hk]) ht]
    rw [List.length_drop, ← BitVec.shiftLeft_add, ← U_bit _ (show k % 8 + 8 * (c.length - m - 1 - (k / 8 - m)) < 32 by omega)]
    have : 31 - (k % 8 + 8 * (c.length - m - 1 - (k / 8 - m))) = 31 - (8 * (3 - (k / 8 - m)) + k % 8) := by omega
    rw [this, BitVec.xor_assoc, BitVec.xor_comm (U _), ← BitVec.xor_assoc]
    rfl
theorem expo_inj {m a b : Nat} (ha : a / 8 < m + 4) (hb : b / 8 < m + 4) (h : expo m a = expo m b) : a = b := by
  unfold expo at h
  split at h <;> split at h <;> omega
theorem expo_le {m a : Nat} (hm : m ≤ 405) : expo m a ≤ 4000 := by
  unfold expo
  split <;> omega
/-- one to three bits, and the sum right again: then nothing has turned -/
theorem turn3 {c : List Int} {m : Nat} (hm : m ≤ 405) (hl : c.length = m + 4) (hb : Bts c) {a b d : Nat} (ha : a / 8 < m + 4) (hb' : b / 8 < m + 4) (hd : d / 8 < m + 4) (h0 : syn c m = 0#32) (h3 : syn (turn1 (turn1 (turn1 c a) b) d) m = 0#32) : turn1 (turn1 (turn1 c a) b) d = c := by
  have la := turn1_length c a
  have lb := turn1_length (turn1 c a) b
  have ba := turn1_bts hb a
  have bb := turn1_bts ba b
  have sk : ∀ (x : List Int) (k : Nat), skips k = true → turn1 x k = x := fun x k h => by
    unfold turn1
    rw [h]
    rfl
  have p0 : ∀ {v : W}, 0#32 ^^^ v = v := fun {v} => BitVec.zero_xor
  cases sa : skips a with
  | true =>
    rw [sk c a sa] at h3 ⊢
    cases sb : skips b with
    | true =>
      rw [sk c b sb] at h3 ⊢
      cases sd : skips d with
      | true => exact sk c d sd
      | false =>
        rw [syn_turn hl hb (by omega) sd, h0, p0] at h3
        have := par_U (expo m d)
        rw [h3, par_zero] at this
        cases this
    | false =>
      have lb := turn1_length c b
      have bb := turn1_bts hb b
      cases sd : skips d with
      | true =>
        rw [sk _ d sd] at h3
        rw [syn_turn hl hb (by omega) sb, h0, p0] at h3
        have := par_U (expo m b)
        rw [h3, par_zero] at this
        cases this
      | false =>
        rw [syn_turn (by omega) bb (by omega) sd, syn_turn hl hb (by omega) sb, h0, p0] at h3
        have e := expo_inj hb' hd (U_inj (expo_le hm) (expo_le hm) (xor_zero_eq h3))
        subst e
        exact turn1_turn1 hb (by omega)
  | false =>
    cases sb : skips b with
    | true =>
      rw [sk _ b sb] at h3 ⊢
      cases sd : skips d with
      | true =>
        rw [sk _ d sd] at h3
        rw [syn_turn hl hb (by omega) sa, h0, p0] at h3
        have := par_U (expo m a)
        rw [h3, par_zero] at this
        cases this
      | false =>
        rw [syn_turn (by omega) ba (by omega) sd, syn_turn hl hb (by omega) sa, h0, p0] at h3
        have e := expo_inj ha hd (U_inj (expo_le hm) (expo_le hm) (xor_zero_eq h3))
        subst e
        exact turn1_turn1 hb (by omega)
    | false =>
      cases sd : skips d with
      | true =>
        rw [sk _ d sd] at h3 ⊢
        rw [syn_turn (by omega) ba (by omega) sb, syn_turn hl hb (by omega) sa, h0, p0] at h3
        have e := expo_inj ha hb' (U_inj (expo_le hm) (expo_le hm) (xor_zero_eq h3))
        subst e
        exact turn1_turn1 hb (by omega)
      | false =>
        rw [syn_turn (by omega) bb (by omega) sd, syn_turn (by omega) ba (by omega) sb, syn_turn hl hb (by omega) sa, h0, p0] at h3
        have := congrArg par h3
        rw [par_xor, par_xor, par_U, par_U, par_U, par_zero] at this
        cases this
end Go.Proofs.Ytnpfdppmpmnhbaa
