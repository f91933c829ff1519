/- The checksum: what both makes compute. -/
import Derived.Test.YtnpfdppmpmnhbaaS12
set_option linter.unusedVariables false
namespace Go.Proofs.Ytnpfdppmpmnhbaa
open Go Go.Ab
/-- one bit of the sum, as the reference computes it -/
def shr1 (c : Int) : Int := c.fdiv (2 ^ (min (1 : Int).toNat IntKind.u32.bits))
def xor32 (a b : Int) : Int := IntKind.u32.wrap (BitVec.ofInt IntKind.u32.bits a ^^^ BitVec.ofInt IntKind.u32.bits b).toNat
def low1 (c : Int) : Int := IntKind.u32.wrap (BitVec.ofInt IntKind.u32.bits c &&& BitVec.ofInt IntKind.u32.bits 1).toNat
def bit1 (c : Int) : Int := if low1 c == 1 then xor32 (shr1 c) 2197175160 else shr1 c
def bits (n : Nat) (c : Int) : Int := match n with
  | 0 => c
  | n + 1 => bits n (bit1 c)
def octet (c b : Int) : Int := bits 8 (xor32 c (IntKind.u32.wrap b))
def sumV (xs : List Int) : Int := IntKind.u32.wrap (BitVec.ofInt IntKind.u32.bits (if IntKind.u32.signed then -1 else IntKind.u32.max) ^^^ BitVec.ofInt IntKind.u32.bits (xs.foldl octet 4294967295)).toNat
theorem bits_succ (n : Nat) (c : Int) : bits (n + 1) c = bit1 (bits n c) := by
  induction n generalizing c with
  | zero => rfl
  | succ n ih => exact ih (bit1 c)
theorem low1_cases (c : Int) : low1 c = 0 ∨ low1 c = 1 := by
  have h : (BitVec.ofInt IntKind.u32.bits c &&& BitVec.ofInt IntKind.u32.bits 1).toNat = 0 ∨ (BitVec.ofInt IntKind.u32.bits c &&& BitVec.ofInt IntKind.u32.bits 1).toNat = 1 := by
    have e : (BitVec.ofInt IntKind.u32.bits 1).toNat = 1 := rfl
    rw [BitVec.toNat_and, e, Nat.and_one_is_mod]
    omega
  unfold low1
  rcases h with h | h <;> rw [h]
  · exact .inl rfl
  · exact .inr rfl
theorem bit1_gtr (c : Int) : (if decide (low1 c > 0) then xor32 (shr1 c) 2197175160 else shr1 c) = bit1 c := by
  rcases low1_cases c with h | h <;> simp [bit1, h]

theorem slo_len {h : H} {p : Option (Nat × Nat)} {n : Nat} {own : Bool} {k : IntKind} {xs : List Int} (o : SlIs h p n own 1 (ints k xs)) : n = xs.length := by
  have := o.1
  rw [ints_length] at this
  omega
theorem slo_get {h : H} {p : Option (Nat × Nat)} {n : Nat} {own : Bool} {k : IntKind} {xs : List Int} (o : SlIs h p n own 1 (ints k xs)) {j : Nat} (hj : j < n) : ∃ i c, p = some (i, c) ∧ Cell h i (c + j * 1) (.int k (xs.getD j 0)) := by
  have := slo_len o
  rw [Nat.mul_one]
  exact SlIs.cell o (ints_get (by omega))
theorem SlIs.old {S : Nat → Prop} {h h' : H} {p : Option (Nat × Nat)} {n sz : Nat} {own : Bool} {cs : List V} (s : SlIs h p n own sz cs) (m : Ab.Mod S h h') (hS : ∀ i, i < h.next → ¬ S i) : SlIs h' p n own sz cs := by
  obtain ⟨h1, h2⟩ := s
  refine ⟨h1, ?_⟩
  rcases h2 with h2 | ⟨i, o, o', r, e1, e2, e3⟩
  · exact .inl h2
  · exact .inr ⟨i, o, o', r, e1, m.get e2 (.inl (hS i (h.lt _ _ e2))), e3⟩
theorem sum35 {h : H} {p : Option (Nat × Nat)} {n : Nat} {xs : List Int} (o : SlIs h p n false 1 (ints .u8 xs)) (hn : n ≤ 70368744177664) : ACalls Try.prog 35 [.sl p n] h (fun r h' => h' = h ∧ r = .int .u32 (sumV xs)) := by
  have hl := slo_len o
  subst hl
  refine call_ Try.func35 rfl rfl (by kernel_rfl) ?_
  conv => whnf
  refine ⟨fun env hh => hh = h ∧ ∃ (j : Nat) (z : Int), j ≤ xs.length ∧ z = j ∧ env = [(4, i64 z), (3, .int .u32 ((xs.take j).foldl octet 4294967295)), (0, .sl p xs.length)],
    fun env _ => match get env 4 with
      | .int _ z => (xs.length - z).toNat
      | _ => 0, ⟨_, Forget.cons rfl (Forget.cons rfl (Forget.cons rfl (Forget.nil _))), rfl, 0, _, Nat.zero_le _, rfl, rfl⟩, ?_⟩
  rintro _ hh ⟨eh, j, z, hj, rfl, rfl⟩
  subst hh
  conv => whnf
  refine br_mk (fun hb => ?_) (fun hb => ?_)
  rotate_left
  · conv => whnf
    simp at hb
    obtain rfl : j = xs.length := by omega
    rw [List.take_length]
    exact ⟨rfl, rfl⟩
  conv => whnf
  simp at hb
  obtain ⟨i, c, rfl, hc⟩ := slo_get o hb
  refine ⟨i, c, j, rfl, rfl, hb, ?_⟩
  conv => whnf
  refine ⟨_, hc, ?_⟩
  conv => whnf
  have hs := succ_i64 (j := j) (n := xs.length) hb (by omega)
  refine ⟨fun env hh => hh = h ∧ ∃ (a : Nat) (z : Int), a ≤ 8 ∧ z = a ∧ env = [(5, i64 z), (4, i64 j), (3, .int .u32 (bits a (xor32 ((xs.take j).foldl octet 4294967295) (IntKind.u32.wrap (xs.getD j 0))))), (0, .sl (some (i, c)) xs.length)],
    fun env _ => match get env 5 with
      | .int _ z => ((8 : Int) - z).toNat
      | _ => 0, ⟨_, Forget.cons rfl (Forget.cons rfl (Forget.cons rfl (Forget.cons rfl (Forget.nil _)))), rfl, 0, _, Nat.zero_le _, rfl, rfl⟩, ?_⟩
  rintro _ hh ⟨eh, a, z, ha, rfl, rfl⟩
  subst hh
  conv => whnf
  refine br_mk (fun hd => ?_) (fun hd => ?_)
  rotate_left
  · conv => whnf
    simp at hd
    obtain rfl : a = 8 := by omega
    refine ⟨_, Forget.cons rfl (Forget.cons ?_ (Forget.cons rfl (Forget.nil _))), ⟨rfl, j + 1, _, by omega, hs, rfl⟩, ?_⟩
    · rw [foldl_take hb]
      rfl
    · show (xs.length - IntKind.i64.wrap ((j : Int) + 1)).toNat < (xs.length - (j : Int)).toNat
      rw [hs]
      omega
  conv => whnf
  simp at hd
  have hs2 := succ_i64 (j := a) (n := 8) (by omega) (by omega)
  refine br_mk (fun he => ?_) (fun he => ?_)
  · conv => whnf
    refine ⟨by decide, ?_⟩
    conv => whnf
    refine ⟨_, Forget.cons rfl (Forget.cons rfl (Forget.cons ?_ (Forget.cons rfl (Forget.nil _)))), ⟨rfl, a + 1, _, by omega, hs2, rfl⟩, ?_⟩
    · have he' : (low1 (bits a (xor32 ((xs.take j).foldl octet 4294967295) (IntKind.u32.wrap (xs.getD j 0)))) == 1) = true := he
      rw [bits_succ, bit1, if_pos he']
      rfl
    · show ((8 : Int) - IntKind.i64.wrap ((a : Int) + 1)).toNat < ((8 : Int) - (a : Int)).toNat
      rw [hs2]
      omega
  · conv => whnf
    refine ⟨by decide, ?_⟩
    conv => whnf
    refine ⟨_, Forget.cons rfl (Forget.cons rfl (Forget.cons ?_ (Forget.cons rfl (Forget.nil _)))), ⟨rfl, a + 1, _, by omega, hs2, rfl⟩, ?_⟩
    · have he' : (low1 (bits a (xor32 ((xs.take j).foldl octet 4294967295) (IntKind.u32.wrap (xs.getD j 0)))) == 1) = false := he
      rw [bits_succ, bit1, if_neg (by rw [he']; decide)]
      rfl
    · show ((8 : Int) - IntKind.i64.wrap ((a : Int) + 1)).toNat < ((8 : Int) - (a : Int)).toNat
      rw [hs2]
      omega
theorem sum55 {h : H} {q p : Option (Nat × Nat)} {n : Nat} {xs : List Int} (s : SlIs h q 1 false 1 [.sl p n]) (o : SlIs h p n false 1 (ints .u8 xs)) (hn : n ≤ 70368744177664) : ACalls Try.prog 55 [.sl q 1] h (fun r h' => h' = h ∧ r = .int .u32 (sumV xs)) := by
  have hl := slo_len o
  subst hl
  refine call_ Try.func55 rfl rfl (by kernel_rfl) ?_
  conv => whnf
  refine ⟨fun env hh => hh = h ∧ ∃ (b : Bool), env = [(11, i64 (if b then 1 else 0)), (10, i64 1), (9, .sl q 1), (3, .int .u32 (if b then xs.foldl octet 4294967295 else 4294967295))],
    fun env _ => match get env 11 with
      | .int _ z => ((1 : Int) - z).toNat
      | _ => 0, ⟨_, Forget.cons rfl (Forget.cons rfl (Forget.cons rfl (Forget.cons rfl (Forget.nil _)))), rfl, false, rfl⟩, ?_⟩
  rintro _ hh ⟨eh, b, rfl⟩
  subst hh
  cases b with
  | true =>
    conv => whnf
    exact ⟨rfl, rfl⟩
  | false =>
    conv => whnf
    obtain ⟨i0, c0, rfl, k0⟩ := SlIs.cell s (j := 0) (v := .sl p xs.length) rfl
    refine ⟨i0, c0, 0, rfl, rfl, by decide, ?_⟩
    conv => whnf
    refine ⟨_, k0, ?_⟩
    conv => whnf
    refine ⟨fun env hh => hh = h ∧ ∃ (j : Nat) (z : Int), j ≤ xs.length ∧ z = j ∧ env = [(17, i64 z), (16, i64 xs.length), (15, .sl p xs.length), (3, .int .u32 ((xs.take j).foldl octet 4294967295)), (11, i64 0), (10, i64 1), (9, .sl (some (i0, c0)) 1)],
      fun env _ => match get env 17 with
        | .int _ z => (xs.length - z).toNat
        | _ => 0, ⟨_, Forget.cons rfl (Forget.cons rfl (Forget.cons rfl (Forget.cons rfl (Forget.cons rfl (Forget.cons rfl (Forget.cons rfl (Forget.nil _))))))), rfl, 0, _, Nat.zero_le _, rfl, rfl⟩, ?_⟩
    rintro _ hh ⟨eh, j, z, hj, rfl, rfl⟩
    subst hh
    conv => whnf
    refine br_mk (fun hb => ?_) (fun hb => ?_)
    rotate_left
    · conv => whnf
      simp at hb
      obtain rfl : j = xs.length := by omega
      rw [List.take_length]
      refine ⟨_, Forget.cons rfl (Forget.cons rfl (Forget.cons rfl (Forget.cons rfl (Forget.nil _)))), ⟨rfl, true, rfl⟩, ?_⟩
      exact (show (0 : Nat) < 1 from Nat.zero_lt_one)
    conv => whnf
    simp at hb
    obtain ⟨i, c, rfl, hc⟩ := slo_get o hb
    refine ⟨i, c, j, rfl, rfl, hb, ?_⟩
    conv => whnf
    refine ⟨_, hc, ?_⟩
    conv => whnf
    have hs := succ_i64 (j := j) (n := xs.length) hb (by omega)
    refine ⟨fun env hh => hh = h ∧ ∃ (a : Nat) (z : Int), a ≤ 8 ∧ z = a ∧ env = [(25, i64 z), (17, i64 j), (16, i64 xs.length), (15, .sl (some (i, c)) xs.length), (3, .int .u32 (bits a (xor32 ((xs.take j).foldl octet 4294967295) (IntKind.u32.wrap (xs.getD j 0))))), (11, i64 0), (10, i64 1), (9, .sl (some (i0, c0)) 1)],
      fun env _ => match get env 25 with
        | .int _ z => ((8 : Int) - z).toNat
        | _ => 0, ⟨_, Forget.cons rfl (Forget.cons rfl (Forget.cons rfl (Forget.cons rfl (Forget.cons rfl (Forget.cons rfl (Forget.cons rfl (Forget.cons rfl (Forget.nil _)))))))), rfl, 0, _, Nat.zero_le _, rfl, rfl⟩, ?_⟩
    rintro _ hh ⟨eh, a, z, ha, rfl, rfl⟩
    subst hh
    conv => whnf
    refine br_mk (fun hd => ?_) (fun hd => ?_)
    rotate_left
    · conv => whnf
      simp at hd
      obtain rfl : a = 8 := by omega
      refine ⟨_, Forget.cons rfl (Forget.cons rfl (Forget.cons rfl (Forget.cons ?_ (Forget.cons rfl (Forget.cons rfl (Forget.cons rfl (Forget.nil _))))))), ⟨rfl, j + 1, _, by omega, hs, rfl⟩, ?_⟩
      · rw [foldl_take hb]
        rfl
      · show (xs.length - IntKind.i64.wrap ((j : Int) + 1)).toNat < (xs.length - (j : Int)).toNat
        rw [hs]
        omega
    conv => whnf
    simp at hd
    have hs2 := succ_i64 (j := a) (n := 8) (by omega) (by omega)
    have hb1 := bit1_gtr (bits a (xor32 ((xs.take j).foldl octet 4294967295) (IntKind.u32.wrap (xs.getD j 0))))
    have hmu : ((8 : Int) - IntKind.i64.wrap ((a : Int) + 1)).toNat < ((8 : Int) - (a : Int)).toNat := by
      rw [hs2]
      omega
    refine ⟨by decide, ?_⟩
    conv => whnf
    refine br_mk (fun he => ?_) (fun he => ?_)
    · conv => whnf
      refine ⟨_, Forget.cons rfl (Forget.cons rfl (Forget.cons rfl (Forget.cons rfl (Forget.cons ?_ (Forget.cons rfl (Forget.cons rfl (Forget.cons rfl (Forget.nil _)))))))), ⟨rfl, a + 1, _, by omega, hs2, rfl⟩, hmu⟩
      have he' : decide (low1 (bits a (xor32 ((xs.take j).foldl octet 4294967295) (IntKind.u32.wrap (xs.getD j 0)))) > 0) = true := he
      rw [bits_succ, ← hb1, if_pos he']
      rfl
    · conv => whnf
      refine ⟨_, Forget.cons rfl (Forget.cons rfl (Forget.cons rfl (Forget.cons rfl (Forget.cons ?_ (Forget.cons rfl (Forget.cons rfl (Forget.cons rfl (Forget.nil _)))))))), ⟨rfl, a + 1, _, by omega, hs2, rfl⟩, hmu⟩
      have he' : decide (low1 (bits a (xor32 ((xs.take j).foldl octet 4294967295) (IntKind.u32.wrap (xs.getD j 0)))) > 0) = false := he
      rw [bits_succ, ← hb1, if_neg (by rw [he']; decide)]
      rfl
end Go.Proofs.Ytnpfdppmpmnhbaa
