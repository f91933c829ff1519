/- Files: SameGraph, Few of the reference. -/
import Derived.Test.YtjjcalkeodfokaaR12
set_option linter.unusedVariables false
namespace Go.Proofs.Ytjjcalkeodfokaa
open Go Go.Ab
def sameG (a b : Gra) : Bool := decide (a.ns = b.ns) && (decide (a.es = b.es) && decide (a.bs = b.bs))
theorem sameG_iff {a b : Gra} : sameG a b = true ↔ eqG a b := by
  simp only [sameG, Bool.and_eq_true, decide_eq_true_eq, eqG]
  exact ⟨fun ⟨h1, h2, h3⟩ => ⟨h1.symm, h2.symm, h3.symm⟩, fun ⟨h1, h2, h3⟩ => ⟨h1.symm, h2.symm, h3.symm⟩⟩
theorem same_no1 {a b : Gra} (h : ¬ a.ns = b.ns) : sameG a b = false := by rw [sameG, decide_eq_false h, Bool.false_and]
theorem same_no2 {a b : Gra} (h : ¬ a.es = b.es) : sameG a b = false := by rw [sameG, decide_eq_false h, Bool.false_and, Bool.and_false]
theorem same_no3 {a b : Gra} (h : ¬ a.bs = b.bs) : sameG a b = false := by rw [sameG, decide_eq_false h, Bool.and_false, Bool.and_false]
theorem same_list {α : Type} {xs ys : List α} (hl : xs.length = ys.length) (h : ∀ k, k < xs.length → xs[k]? = ys[k]?) : xs = ys := by
  apply List.ext_getElem?
  intro k
  rcases Nat.lt_or_ge k xs.length with q | q
  · exact h k q
  · rw [List.getElem?_eq_none q, List.getElem?_eq_none (by omega)]
set_option maxHeartbeats 1000000 in
theorem same13 {h : H} (a b : Gra) (oa : a.ok h) (ob : b.ok h) : ACalls Try.prog 13 [.agg a.cells, .agg b.cells] h (fun r h' => r = .bool (sameG a b) ∧ Ab.Mod none_ h h') := by
  refine call_ Try.func13 rfl rfl (by kernel_rfl) ?_
  conv => whnf
  have m1 := Mod.push none_ h (.row true 3 a.cells)
  have m2 := Mod.push none_ (h.push (.row true 3 a.cells)) (.row true 3 b.cells)
  have ga : ((h.push (.row true 3 a.cells)).push (.row true 3 b.cells)).obj h.next = some (.row true 3 a.cells) := m2.get (H.obj_push_new _ _) (.inl (fun k => k))
  have gb : ((h.push (.row true 3 a.cells)).push (.row true 3 b.cells)).obj (h.next + 1) = some (.row true 3 b.cells) := H.obj_push_new (h.push (.row true 3 a.cells)) _
  have mm := mod_none m1 m2
  have oa := oa.old mm (fun _ _ k => k)
  have ob := ob.old mm (fun _ _ k => k)
  clear m1 m2
  refine ⟨_, Cell.mk ga rfl, ?_⟩
  conv => whnf
  refine ⟨_, Cell.mk gb rfl, ?_⟩
  conv => whnf
  refine br_mk (fun h1 => ?_) (fun h1 => ?_)
  · conv => whnf
    simp at h1
    exact ⟨by rw [same_no1 (fun e => h1 (by rw [e]))], mm⟩
  conv => whnf
  simp at h1
  refine ⟨_, Cell.mk ga rfl, ?_⟩
  conv => whnf
  refine ⟨_, Cell.mk gb rfl, ?_⟩
  conv => whnf
  refine br_mk (fun h2 => ?_) (fun h2 => ?_)
  · conv => whnf
    simp at h2
    exact ⟨by rw [same_no2 (fun e => h2 (by rw [e]))], mm⟩
  conv => whnf
  simp at h2
  refine ⟨_, Cell.mk ga rfl, ?_⟩
  conv => whnf
  refine ⟨_, Cell.mk gb rfl, ?_⟩
  conv => whnf
  refine br_mk (fun h3 => ?_) (fun h3 => ?_)
  · conv => whnf
    simp at h3
    exact ⟨by rw [same_no3 (fun e => h3 (by rw [e]))], mm⟩
  conv => whnf
  simp at h3
  refine ⟨fun env hh => ∃ (j : Nat) (z : Int), j ≤ a.ns.length ∧ z = j ∧ hh = (h.push (.row true 3 a.cells)).push (.row true 3 b.cells) ∧ (∀ k, k < j → a.ns[k]? = b.ns[k]?) ∧ env = [(5, i64 z), (2, .ptr (some (h.next, 0))), (3, .ptr (some (h.next + 1, 0)))],
    fun env _ => match get env 5 with
      | .int _ z => (a.ns.length - z).toNat
      | _ => 0, ⟨_, Forget.cons rfl (Forget.cons rfl (Forget.cons rfl (Forget.nil _))), 0, _, Nat.zero_le _, rfl, rfl, fun k hk => absurd hk (Nat.not_lt_zero k), rfl⟩, ?_⟩
  rintro _ _ ⟨j, z, hj, rfl, rfl, hall, rfl⟩
  conv => whnf
  refine ⟨_, Cell.mk ga rfl, ?_⟩
  conv => whnf
  refine br_mk (fun hd => ?_) (fun hd => ?_)
  · conv => whnf
    simp at hd
    have hd2 : j < b.ns.length := by omega
    obtain ⟨i1, c1, e1, k1, _⟩ := sls_get pC_len oa.n rfl hd
    obtain ⟨i2, c2, e2, k2, _⟩ := sls_get pC_len ob.n rfl hd2
    refine ⟨[0, 1, 2, 3, 4, 5, 6, 7, 8, 9, 10], [0, 1, 0, 7, 15, 0, 32, 0, 224, 480, 1023], by kernel_rfl, ?_⟩
    conv => whnf
    refine ⟨_, Cell.mk ga rfl, ?_⟩
    conv => whnf
    refine ⟨i1, c1, j, e1, rfl, hd, ?_⟩
    conv => whnf
    refine ⟨_, k1, ?_⟩
    conv => whnf
    refine ⟨_, Cell.mk gb rfl, ?_⟩
    conv => whnf
    refine ⟨i2, c2, j, e2, rfl, hd2, ?_⟩
    conv => whnf
    refine ⟨_, k2, ?_⟩
    conv => whnf
    refine ⟨_, _, rfl, rfl, ?_⟩
    conv => whnf
    refine br_mk (fun he => ?_) (fun he => ?_)
    · conv => whnf
      exact ⟨by rw [same_no1 (fun e => by
        have e3 : a.ns[j] = b.ns[j] := by simp only [e]
        rw [e3] at he
        simp at he)], mm⟩
    conv => whnf
    have he : a.ns[j] = b.ns[j] := by
      simp only [Bool.not_eq_false', beq_iff_eq, List.cons.injEq, and_true] at he
      exact Prod.ext he.1 he.2
    have hs2 := succ_i64 (j := j) (n := a.ns.length) hd (by have := oa.ln; omega)
    refine ⟨_, Forget.cons rfl (Forget.cons rfl (Forget.cons rfl (Forget.nil _))), ⟨j + 1, _, by omega, hs2, rfl, fun k hk => ?_, rfl⟩, ?_⟩
    · rcases Nat.lt_or_ge k j with q | q
      · exact hall k q
      · obtain rfl : k = j := by omega
        rw [List.getElem?_eq_getElem hd, List.getElem?_eq_getElem hd2, he]
    show (a.ns.length - IntKind.i64.wrap ((j : Int) + 1)).toNat < (a.ns.length - (j : Int)).toNat
    rw [hs2]
    omega
  conv => whnf
  simp at hd
  have eq_ns : a.ns = b.ns := same_list (by omega) (fun k hk => hall k (by omega))
  clear hall hd hj
  refine ⟨fun env hh => ∃ (j : Nat) (z : Int), j ≤ a.es.length ∧ z = j ∧ hh = (h.push (.row true 3 a.cells)).push (.row true 3 b.cells) ∧ (∀ k, k < j → a.es[k]? = b.es[k]?) ∧ env = [(6, i64 z), (2, .ptr (some (h.next, 0))), (3, .ptr (some (h.next + 1, 0)))],
    fun env _ => match get env 6 with
      | .int _ z => (a.es.length - z).toNat
      | _ => 0, ⟨_, Forget.cons rfl (Forget.cons rfl (Forget.cons rfl (Forget.nil _))), 0, _, Nat.zero_le _, rfl, rfl, fun k hk => absurd hk (Nat.not_lt_zero k), rfl⟩, ?_⟩
  rintro _ _ ⟨j, z, hj, rfl, rfl, hall, rfl⟩
  conv => whnf
  refine ⟨_, Cell.mk ga rfl, ?_⟩
  conv => whnf
  refine br_mk (fun hd => ?_) (fun hd => ?_)
  · conv => whnf
    simp at hd
    have hd2 : j < b.es.length := by omega
    obtain ⟨i1, c1, e1, k1, _⟩ := sls_get eC_len oa.e rfl hd
    obtain ⟨i2, c2, e2, k2, _⟩ := sls_get eC_len ob.e rfl hd2
    refine ⟨[0, 1, 2, 3, 4, 5, 6, 7, 8, 9, 10], [0, 1, 0, 7, 15, 0, 32, 0, 224, 480, 1023], by kernel_rfl, ?_⟩
    conv => whnf
    refine ⟨_, Cell.mk ga rfl, ?_⟩
    conv => whnf
    refine ⟨i1, c1, j, e1, rfl, hd, ?_⟩
    conv => whnf
    refine ⟨_, k1, ?_⟩
    conv => whnf
    refine ⟨_, Cell.mk gb rfl, ?_⟩
    conv => whnf
    refine ⟨i2, c2, j, e2, rfl, hd2, ?_⟩
    conv => whnf
    refine ⟨_, k2, ?_⟩
    conv => whnf
    refine ⟨_, _, rfl, rfl, ?_⟩
    conv => whnf
    refine br_mk (fun he => ?_) (fun he => ?_)
    · conv => whnf
      exact ⟨by rw [same_no2 (fun e => by
        have e3 : a.es[j] = b.es[j] := by simp only [e]
        rw [e3] at he
        simp at he)], mm⟩
    conv => whnf
    have he : a.es[j] = b.es[j] := by
      simp only [Bool.not_eq_false', beq_iff_eq, List.cons.injEq, and_true] at he
      exact Prod.ext he.1 (Prod.ext he.2.1 he.2.2)
    have hs2 := succ_i64 (j := j) (n := a.es.length) hd (by have := oa.le; omega)
    refine ⟨_, Forget.cons rfl (Forget.cons rfl (Forget.cons rfl (Forget.nil _))), ⟨j + 1, _, by omega, hs2, rfl, fun k hk => ?_, rfl⟩, ?_⟩
    · rcases Nat.lt_or_ge k j with q | q
      · exact hall k q
      · obtain rfl : k = j := by omega
        rw [List.getElem?_eq_getElem hd, List.getElem?_eq_getElem hd2, he]
    show (a.es.length - IntKind.i64.wrap ((j : Int) + 1)).toNat < (a.es.length - (j : Int)).toNat
    rw [hs2]
    omega
  conv => whnf
  simp at hd
  have eq_es : a.es = b.es := same_list (by omega) (fun k hk => hall k (by omega))
  clear hall hd hj
  refine ⟨fun env hh => ∃ (j : Nat) (z : Int), j ≤ a.bs.length ∧ z = j ∧ hh = (h.push (.row true 3 a.cells)).push (.row true 3 b.cells) ∧ (∀ k, k < j → a.bs[k]? = b.bs[k]?) ∧ env = [(7, i64 z), (2, .ptr (some (h.next, 0))), (3, .ptr (some (h.next + 1, 0)))],
    fun env _ => match get env 7 with
      | .int _ z => (a.bs.length - z).toNat
      | _ => 0, ⟨_, Forget.cons rfl (Forget.cons rfl (Forget.cons rfl (Forget.nil _))), 0, _, Nat.zero_le _, rfl, rfl, fun k hk => absurd hk (Nat.not_lt_zero k), rfl⟩, ?_⟩
  rintro _ _ ⟨j, z, hj, rfl, rfl, hall, rfl⟩
  conv => whnf
  refine ⟨_, Cell.mk ga rfl, ?_⟩
  conv => whnf
  refine br_mk (fun hd => ?_) (fun hd => ?_)
  · conv => whnf
    simp at hd
    have hd2 : j < b.bs.length := by omega
    obtain ⟨i1, c1, e1, k1, _⟩ := sls_get pC_len oa.b rfl hd
    obtain ⟨i2, c2, e2, k2, _⟩ := sls_get pC_len ob.b rfl hd2
    refine ⟨[0, 1, 2, 3, 4, 5, 6, 7, 8, 9, 10], [0, 1, 0, 7, 15, 0, 32, 0, 224, 480, 1023], by kernel_rfl, ?_⟩
    conv => whnf
    refine ⟨_, Cell.mk ga rfl, ?_⟩
    conv => whnf
    refine ⟨i1, c1, j, e1, rfl, hd, ?_⟩
    conv => whnf
    refine ⟨_, k1, ?_⟩
    conv => whnf
    refine ⟨_, Cell.mk gb rfl, ?_⟩
    conv => whnf
    refine ⟨i2, c2, j, e2, rfl, hd2, ?_⟩
    conv => whnf
    refine ⟨_, k2, ?_⟩
    conv => whnf
    refine ⟨_, _, rfl, rfl, ?_⟩
    conv => whnf
    refine br_mk (fun he => ?_) (fun he => ?_)
    · conv => whnf
      exact ⟨by rw [same_no3 (fun e => by
        have e3 : a.bs[j] = b.bs[j] := by simp only [e]
        rw [e3] at he
        simp at he)], mm⟩
    conv => whnf
    have he : a.bs[j] = b.bs[j] := by
      simp only [Bool.not_eq_false', beq_iff_eq, List.cons.injEq, and_true] at he
      exact Prod.ext he.1 he.2
    have hs2 := succ_i64 (j := j) (n := a.bs.length) hd (by have := oa.lb; omega)
    refine ⟨_, Forget.cons rfl (Forget.cons rfl (Forget.cons rfl (Forget.nil _))), ⟨j + 1, _, by omega, hs2, rfl, fun k hk => ?_, rfl⟩, ?_⟩
    · rcases Nat.lt_or_ge k j with q | q
      · exact hall k q
      · obtain rfl : k = j := by omega
        rw [List.getElem?_eq_getElem hd, List.getElem?_eq_getElem hd2, he]
    show (a.bs.length - IntKind.i64.wrap ((j : Int) + 1)).toNat < (a.bs.length - (j : Int)).toNat
    rw [hs2]
    omega
  conv => whnf
  simp at hd
  have eq_bs : a.bs = b.bs := same_list (by omega) (fun k hk => hall k (by omega))
  clear hall hd hj
  refine ⟨?_, mm⟩
  rw [sameG, decide_eq_true eq_ns, decide_eq_true eq_es, decide_eq_true eq_bs]
  rfl
def fewG (g : Gra) : Bool := decide (g.ns.length ≤ 20) && (decide (g.es.length ≤ 50) && decide (g.bs.length ≤ 80))
theorem few6 {h : H} (g : Gra) : ACalls Try.prog 6 [.agg g.cells] h (fun r h' => r = .bool (fewG g) ∧ Ab.Mod none_ h h') := by
  refine call_ Try.func6 rfl rfl (by kernel_rfl) ?_
  conv => whnf
  have mm := Mod.push none_ h (.row true 3 g.cells)
  have ga : (h.push (.row true 3 g.cells)).obj h.next = some (.row true 3 g.cells) := H.obj_push_new _ _
  refine ⟨_, Cell.mk ga rfl, ?_⟩
  conv => whnf
  refine br_mk (fun h1 => ?_) (fun h1 => ?_)
  rotate_left
  · conv => whnf
    simp at h1
    exact ⟨by rw [fewG, decide_eq_false (show ¬ g.ns.length ≤ 20 by omega), Bool.false_and], mm⟩
  conv => whnf
  simp at h1
  refine ⟨_, Cell.mk ga rfl, ?_⟩
  conv => whnf
  refine br_mk (fun h2 => ?_) (fun h2 => ?_)
  rotate_left
  · conv => whnf
    simp at h2
    exact ⟨by rw [fewG, decide_eq_false (show ¬ g.es.length ≤ 50 by omega), Bool.false_and, Bool.and_false], mm⟩
  conv => whnf
  simp at h2
  refine ⟨_, Cell.mk ga rfl, ?_⟩
  conv => whnf
  refine ⟨?_, mm⟩
  have e1 : decide (g.ns.length ≤ 20) = true := by simp; omega
  have e2 : decide (g.es.length ≤ 50) = true := by simp; omega
  rw [fewG, e1, e2, Bool.true_and, Bool.true_and]
  congr 1
  rw [Bool.eq_iff_iff, decide_eq_true_iff, decide_eq_true_iff]
  omega
end Go.Proofs.Ytjjcalkeodfokaa
