/- Graphs: numbers within bounds; the order of bans. -/
import Derived.Test.YtjjcalkeodfokaaP2
set_option linter.unusedVariables false
namespace Go.Proofs.Ytjjcalkeodfokaa
open Go Go.Ab
def inB (n lo hi : Int) : Bool := decide (lo ≤ n) && decide (n ≤ hi)
theorem within44 (h : H) (n lo hi : Int) : ACalls Try.prog 44 [i64 n, i64 lo, i64 hi] h (fun r h' => h' = h ∧ r = .bool (inB n lo hi)) := by
  refine call_ Try.func44 rfl rfl (by kernel_rfl) ?_
  conv => whnf
  refine br_mk (fun hb => ?_) (fun hb => ?_)
  · conv => whnf
    refine ⟨rfl, ?_⟩
    have hb : decide (lo ≤ n) = true := hb
    rw [inB, hb]
    rfl
  · conv => whnf
    refine ⟨rfl, ?_⟩
    have hb : decide (lo ≤ n) = false := hb
    rw [inB, hb]
    rfl
theorem within41 (h : H) (n lo hi : Int) : ACalls Try.prog 41 [i64 n, i64 lo, i64 hi] h (fun r h' => h' = h ∧ r = .bool (inB n lo hi)) := by
  refine call_ Try.func41 rfl rfl (by kernel_rfl) ?_
  conv => whnf
  refine br_mk (fun hb => ?_) (fun hb => ?_)
  · conv => whnf
    refine ⟨rfl, ?_⟩
    have hb : decide (lo ≤ n) = true := hb
    rw [inB, hb]
    rfl
  · conv => whnf
    refine ⟨rfl, ?_⟩
    have hb : decide (lo ≤ n) = false := hb
    rw [inB, hb]
    rfl
theorem isNaN49 (h : H) (n : Int) : ACalls Try.prog 49 [i64 n] h (fun r h' => h' = h ∧ r = .bool false) := by
  refine call_ Try.func49 rfl rfl (by kernel_rfl) ?_
  conv => whnf
  refine ⟨rfl, ?_⟩
  have : (n != n) = false := by simp
  rw [this]
def cmpI (x y : Int) : Int := if x < y then -1 else if y < x then 1 else 0
theorem compare48 (h : H) (x y : Int) : ACalls Try.prog 48 [i64 x, i64 y] h (fun r h' => h' = h ∧ r = i64 (cmpI x y)) := by
  refine call_ Try.func48 rfl rfl (by kernel_rfl) ?_
  conv => whnf
  refine (isNaN49 h x).mono ?_
  rintro _ h' ⟨eh, rfl⟩
  subst h'
  conv => whnf
  refine (isNaN49 h y).mono ?_
  rintro _ h' ⟨eh, rfl⟩
  subst h'
  conv => whnf
  refine br_mk (fun hb => ?_) (fun hb => ?_)
  · conv => whnf
    simp at hb
    exact ⟨rfl, by rw [cmpI, if_pos hb]⟩
  conv => whnf
  simp at hb
  refine br_mk (fun hc => ?_) (fun hc => ?_)
  · conv => whnf
    simp at hc
    exact ⟨rfl, by rw [cmpI, if_neg (by omega), if_pos hc]⟩
  · conv => whnf
    simp at hc
    exact ⟨rfl, by rw [cmpI, if_neg (by omega), if_neg (by omega)]⟩
def orI (a b : Int) : Int := if a ≠ 0 then a else b
theorem or47 {h : H} {i : Nat} {a b : Int} (g : h.obj i = some (.row true 1 (ints .i64 [a, b]))) : ACalls Try.prog 47 [.sl (some (i, 0)) 2] h (fun r h' => h' = h ∧ r = i64 (orI a b)) := by
  refine call_ Try.func47 rfl rfl (by kernel_rfl) ?_
  conv => whnf
  refine ⟨fun env hh => hh = h ∧ ∃ (j : Nat) (z : Int), j ≤ 2 ∧ z = j ∧ (∀ k, k < j → ([a, b] : List Int).getD k 0 = 0) ∧ env = [(8, i64 z), (7, i64 2), (6, .sl (some (i, 0)) 2), (3, i64 0)],
    fun env _ => match get env 8 with
      | .int _ z => (2 - z).toNat
      | _ => 0, ⟨_, Forget.cons rfl (Forget.cons rfl (Forget.cons rfl (Forget.cons rfl (Forget.nil _)))), rfl, 0, _, Nat.zero_le _, rfl, fun k hk => absurd hk (Nat.not_lt_zero k), rfl⟩, ?_⟩
  rintro _ _ ⟨rfl, j, z, hj, rfl, hz, rfl⟩
  conv => whnf
  refine br_mk (fun hb => ?_) (fun hb => ?_)
  rotate_left
  · conv => whnf
    simp at hb
    have h0 := hz 0 (by omega)
    have h1 := hz 1 (by omega)
    have h0 : a = 0 := h0
    have h1 : b = 0 := h1
    subst h0 h1
    exact ⟨rfl, rfl⟩
  conv => whnf
  simp at hb
  refine ⟨i, 0, j, rfl, rfl, by omega, ?_⟩
  conv => whnf
  refine ⟨_, Cell.mk (v := i64 (([a, b] : List Int).getD j 0)) g ?_, ?_⟩
  · match j, hb with
    | 0, _ => rfl
    | 1, _ => rfl
  conv => whnf
  refine br_mk (fun hc => ?_) (fun hc => ?_)
  · conv => whnf
    simp at hc
    refine ⟨rfl, ?_⟩
    match j, hb, hc, hz with
    | 0, _, hc, _ =>
      have hc : a ≠ 0 := hc
      rw [orI, if_pos hc]
      rfl
    | 1, _, hc, hz =>
      have h0 : a = 0 := hz 0 (by omega)
      rw [orI, if_neg (by simp [h0])]
      rfl
  conv => whnf
  simp at hc
  have hs2 := succ_i64 (j := j) (n := 2) (by omega) (by omega)
  refine ⟨_, Forget.cons rfl (Forget.cons rfl (Forget.cons rfl (Forget.cons rfl (Forget.nil _)))), ⟨rfl, j + 1, _, by omega, hs2, fun k hk => ?_, rfl⟩, ?_⟩
  · rcases Nat.lt_or_ge k j with hkj | hkj
    · exact hz k hkj
    · obtain rfl : k = j := by omega
      simpa using hc
  · show ((2 : Int) - IntKind.i64.wrap ((j : Int) + 1)).toNat < ((2 : Int) - (j : Int)).toNat
    rw [hs2]
    omega
def ordI (a b : Int × Int) : Int := orI (cmpI a.1 b.1) (cmpI a.2 b.2)
theorem order45 (h : H) (a b : Int × Int) : ACalls Try.prog 45 [.agg [i64 a.1, i64 a.2], .agg [i64 b.1, i64 b.2]] h (fun r h' => r = i64 (ordI a b) ∧ Ab.Mod none_ h h') := by
  refine call_ Try.func45 rfl rfl (by kernel_rfl) ?_
  conv => whnf
  have m1 := Mod.push none_ h (.row true 2 [i64 a.1, i64 a.2])
  have m2 := Mod.push none_ (h.push (.row true 2 [i64 a.1, i64 a.2])) (.row true 2 [i64 b.1, i64 b.2])
  have g1 : ((h.push (.row true 2 [i64 a.1, i64 a.2])).push (.row true 2 [i64 b.1, i64 b.2])).obj h.next = some (.row true 2 [i64 a.1, i64 a.2]) := m2.get (H.obj_push_new _ _) (.inl (fun k => k))
  have g2 : ((h.push (.row true 2 [i64 a.1, i64 a.2])).push (.row true 2 [i64 b.1, i64 b.2])).obj (h.next + 1) = some (.row true 2 [i64 b.1, i64 b.2]) := H.obj_push_new (h.push (.row true 2 [i64 a.1, i64 a.2])) _
  have mm := mod_none m1 m2
  refine ⟨[0, 1, 2, 3, 5, 6, 7, 8, 4, 9, 10, 11, 12], [0, 1, 0, 4, 15, 0, 32, 0, 128, 511, 1023, 2047, 4095], by kernel_rfl, ?_⟩
  conv => whnf
  refine ⟨_, Cell.mk g1 rfl, ?_⟩
  conv => whnf
  refine ⟨_, Cell.mk g2 rfl, ?_⟩
  conv => whnf
  refine ⟨_, Cell.mk g1 rfl, ?_⟩
  conv => whnf
  refine ⟨_, Cell.mk g2 rfl, ?_⟩
  conv => whnf
  refine (compare48 _ a.1 b.1).mono ?_
  rintro _ h' ⟨eh, rfl⟩
  subst h'
  conv => whnf
  refine ⟨?_, ?_⟩
  · conv => whnf
    exact ⟨_, Cell.mk g2 rfl, rfl⟩
  refine ⟨?_, ?_⟩
  · conv => whnf
    exact ⟨_, Cell.mk g1 rfl, rfl⟩
  conv => whnf
  refine (compare48 _ a.2 b.2).mono ?_
  rintro _ h' ⟨eh, rfl⟩
  subst h'
  conv => whnf
  rw [twoNum]
  have m3 := Mod.push none_ ((h.push (.row true 2 [i64 a.1, i64 a.2])).push (.row true 2 [i64 b.1, i64 b.2])) (.row true 1 (ints .i64 [cmpI a.1 b.1, cmpI a.2 b.2]))
  refine (or47 (H.obj_push_new ((h.push (.row true 2 [i64 a.1, i64 a.2])).push (.row true 2 [i64 b.1, i64 b.2])) (.row true 1 (ints .i64 [cmpI a.1 b.1, cmpI a.2 b.2])))).mono ?_
  rintro _ h' ⟨eh, rfl⟩
  subst h'
  conv => whnf
  exact ⟨rfl, mod_none mm m3⟩
end Go.Proofs.Ytjjcalkeodfokaa
