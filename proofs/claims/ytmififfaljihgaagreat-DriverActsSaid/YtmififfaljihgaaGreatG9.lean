/- The great seat: rows of bytes, messages, being one. -/
import Derived.Test.YtmififfaljihgaaGreatG7
set_option linter.unusedVariables false
namespace Go.Proofs.YtmififfaljihgaaGreat
open Go Go.Ab
theorem sameMsg45 {h : H} (a b : Msg) (oa : a.ok h) (ob : b.ok h) : ACalls Tryz.prog 23 [.agg a.cells, .agg b.cells] h (fun r h' => r = .bool (sameM a b) ∧ Ab.Mod none_ h h') := by
  refine call_ Tryz.func23 rfl rfl (by kernel_rfl) ?_
  conv => whnf
  have m1 := Mod.push none_ h (.row true 9 a.cells)
  have m2 := Mod.push none_ (h.push (.row true 9 a.cells)) (.row true 9 b.cells)
  have g1 : ((h.push (.row true 9 a.cells)).push (.row true 9 b.cells)).obj h.next = some (.row true 9 a.cells) := m2.get (H.obj_push_new _ _) (.inl (fun k => k))
  have g2 : ((h.push (.row true 9 a.cells)).push (.row true 9 b.cells)).obj (h.next + 1) = some (.row true 9 b.cells) := H.obj_push_new (h.push (.row true 9 a.cells)) _
  have m12 := mod_none m1 m2
  have oa := oa.old m12 (fun _ _ k => k)
  have ob := ob.old m12 (fun _ _ k => k)
  have ne : ∀ {x y : Int}, (x != y) = true → (x == y) = false := fun {x y} e => by
    cases k : x == y with
    | false => rfl
    | true => rw [bne, k] at e; cases e
  have eq : ∀ {x y : Int}, (x != y) = false → (x == y) = true := fun {x y} e => by
    cases k : x == y with
    | true => rfl
    | false => rw [bne, k] at e; cases e
  refine ⟨_, Cell.mk g1 rfl, ?_⟩
  conv => whnf
  refine ⟨_, Cell.mk g2 rfl, ?_⟩
  conv => whnf
  refine br_mk (fun hk => ?_) (fun hk => ?_)
  · conv => whnf
    exact ⟨by rw [sameM, ne hk, Bool.false_and], m12⟩
  conv => whnf
  refine ⟨_, Cell.mk g1 rfl, ?_⟩
  conv => whnf
  refine ⟨_, Cell.mk g2 rfl, ?_⟩
  conv => whnf
  refine br_mk (fun hp => ?_) (fun hp => ?_)
  · conv => whnf
    exact ⟨by rw [sameM, ne hp, Bool.false_and, Bool.and_false], m12⟩
  conv => whnf
  refine ⟨_, Cell.mk g1 rfl, ?_⟩
  conv => whnf
  refine ⟨_, Cell.mk g2 rfl, ?_⟩
  conv => whnf
  refine br_mk (fun hd => ?_) (fun hd => ?_)
  · conv => whnf
    exact ⟨by rw [sameM, ne hd, Bool.false_and, Bool.and_false, Bool.and_false], m12⟩
  conv => whnf
  refine ⟨_, Cell.mk g1 rfl, ?_⟩
  conv => whnf
  refine ⟨_, Cell.mk g2 rfl, ?_⟩
  conv => whnf
  refine br_mk (fun hw => ?_) (fun hw => ?_)
  · conv => whnf
    exact ⟨by rw [sameM, ne hw, Bool.false_and, Bool.and_false, Bool.and_false, Bool.and_false, Bool.and_false], m12⟩
  conv => whnf
  refine ⟨[i64 a.c, i64 a.e, i64 a.f, i64 a.l], Cells.mk g1 (Nat.le_of_ble_eq_true rfl) rfl, ?_⟩
  conv => whnf
  refine ⟨[i64 b.c, i64 b.e, i64 b.f, i64 b.l], Cells.mk g2 (Nat.le_of_ble_eq_true rfl) rfl, ?_⟩
  conv => whnf
  refine ⟨_, _, rfl, rfl, ?_⟩
  conv => whnf
  refine br_mk (fun hh => ?_) (fun hh => ?_)
  · conv => whnf
    have hh : (!(hintL a == hintL b)) = true := hh
    have hh : (hintL a == hintL b) = false := by simpa using hh
    exact ⟨by rw [sameM, hh, Bool.and_false, Bool.and_false, Bool.and_false, Bool.and_false, Bool.and_false], m12⟩
  conv => whnf
  have hh : (!(hintL a == hintL b)) = false := hh
  have hh : (hintL a == hintL b) = true := by simpa using hh
  refine ⟨_, Cell.mk g1 rfl, ?_⟩
  conv => whnf
  refine ⟨_, Cell.mk g2 rfl, ?_⟩
  conv => whnf
  refine br_mk (fun hl => ?_) (fun hl => ?_)
  · conv => whnf
    simp at hl
    exact ⟨by rw [sameM, beq_len_ne (xs := a.es) (ys := b.es) (by omega), Bool.false_and, Bool.and_false, Bool.and_false, Bool.and_false], m12⟩
  conv => whnf
  simp at hl
  have hS : sameM a b = (a.es == b.es) := by rw [sameM, eq hk, eq hp, eq hd, eq hw, hh, Bool.and_true, Bool.true_and, Bool.true_and, Bool.true_and, Bool.and_true]
  have hla := oa.2.2.2
  rw [hS]
  refine ⟨fun env hh => hh = (h.push (.row true 9 a.cells)).push (.row true 9 b.cells) ∧ ∃ (j : Nat) (z : Int), j ≤ a.es.length ∧ z = j ∧ a.es.take j = b.es.take j ∧ env = [(5, i64 z), (3, .ptr (some (h.next + 1, 0))), (2, .ptr (some (h.next, 0)))],
    fun env _ => match get env 5 with
      | .int _ z => (a.es.length - z).toNat
      | _ => 0, ⟨_, Forget.cons rfl (Forget.cons rfl (Forget.cons rfl (Forget.nil _))), rfl, 0, _, Nat.zero_le _, rfl, rfl, rfl⟩, ?_⟩
  rintro _ hx ⟨ex, j, z, hj, rfl, ht, rfl⟩
  subst ex
  conv => whnf
  refine ⟨_, Cell.mk g1 rfl, ?_⟩
  conv => whnf
  refine br_mk (fun hc => ?_) (fun hc => ?_)
  rotate_left
  · conv => whnf
    simp at hc
    obtain rfl : j = a.es.length := by omega
    have : a.es = b.es := by
      rw [List.take_length] at ht
      rw [ht, List.take_of_length_le (by omega)]
    rw [this, beq_self_eq_true]
    exact ⟨rfl, m12⟩
  conv => whnf
  simp at hc
  refine ⟨[0, 1, 2, 3, 4, 5, 6, 7, 8, 9, 10], [0, 1, 0, 7, 15, 0, 32, 0, 224, 480, 1023], by kernel_rfl, ?_⟩
  conv => whnf
  refine ⟨_, Cell.mk g1 rfl, ?_⟩
  conv => whnf
  obtain ⟨i, c, e1, k1⟩ := slo_get oa.1 hc
  rw [e1]
  refine ⟨_, _, j, rfl, rfl, hc, ?_⟩
  conv => whnf
  refine ⟨_, k1, ?_⟩
  conv => whnf
  refine ⟨_, Cell.mk g2 rfl, ?_⟩
  conv => whnf
  obtain ⟨i', c', e2, k2⟩ := slo_get ob.1 (j := j) (by omega)
  rw [e2]
  refine ⟨_, _, j, rfl, rfl, by omega, ?_⟩
  conv => whnf
  refine ⟨_, k2, ?_⟩
  conv => whnf
  refine br_mk (fun hd => ?_) (fun hd => ?_)
  · conv => whnf
    rw [beq_get_ne (xs := a.es) (ys := b.es) (j := j) (by simpa using hd)]
    exact ⟨rfl, m12⟩
  conv => whnf
  have hs2 := succ_i64 (j := j) (n := a.es.length) hc (by omega)
  refine ⟨_, Forget.cons rfl (Forget.cons rfl (Forget.cons rfl (Forget.nil _))), ⟨rfl, j + 1, _, by omega, hs2, take_succ_eq hc (by omega) ht (by simpa using hd), rfl⟩, ?_⟩
  show (a.es.length - IntKind.i64.wrap ((j : Int) + 1)).toNat < (a.es.length - (j : Int)).toNat
  rw [hs2]
  omega
theorem rows25 {h : H} {p q : Option (Nat × Nat)} {X : List (List Int)} (s : Rws h p X) (t : Rws h q X) (hb : ∀ x ∈ X, Bts x) (hn : X.length ≤ 1000000) : ACalls Tryz.prog 25 [.sl p X.length, .sl q X.length] h (fun r h' => h' = h ∧ r = .bool true) := by
  refine call_ Tryz.func25 rfl rfl (by kernel_rfl) ?_
  conv => whnf
  rw [show ((X.length : Int) != (X.length : Int)) = false by simp]
  conv => whnf
  refine ⟨fun env hh => ∃ (j : Nat) (z : Int), j ≤ X.length ∧ z = j ∧ hh = h ∧ env = [(5, i64 z), (0, .sl p X.length), (1, .sl q X.length)],
    fun env _ => match get env 5 with
      | .int _ z => ((X.length : Int) - z).toNat
      | _ => 0, ⟨_, Forget.cons rfl (Forget.cons rfl (Forget.cons rfl (Forget.nil _))), 0, _, Nat.zero_le _, rfl, rfl, rfl⟩, ?_⟩
  rintro _ hh ⟨j, z, hj, rfl, rfl, rfl⟩
  conv => whnf
  refine br_mk (fun hd => ?_) (fun hd => ?_)
  rotate_left
  · conv => whnf
    exact ⟨rfl, rfl⟩
  have hd : j < X.length := by simpa using hd
  obtain ⟨i1, c1, p1, f1, f2, f3⟩ := s.cell hd
  obtain ⟨i2, c2, p2, g1, g2, g3⟩ := t.cell hd
  have bj := hb _ (List.getElem_mem hd)
  conv => whnf
  refine ⟨[0, 1, 2, 3, 4, 5, 6, 7, 8, 9, 10], [0, 0, 3, 7, 15, 0, 0, 96, 224, 480, 1023], by kernel_rfl, ?_⟩
  conv => whnf
  refine ⟨i1, c1, j, f1, rfl, hd, ?_⟩
  conv => whnf
  refine ⟨_, f2, ?_⟩
  conv => whnf
  refine ⟨_, f3.is, bj, ?_⟩
  conv => whnf
  refine ⟨i2, c2, j, g1, rfl, hd, ?_⟩
  conv => whnf
  refine ⟨_, g2, ?_⟩
  conv => whnf
  refine ⟨_, g3.is, bj, ?_⟩
  conv => whnf
  refine br_mk (fun hI => ?_) (fun hI => ?_)
  · exact absurd hI (by simp)
  conv => whnf
  rw [succ_i64 hd (by omega)]
  refine ⟨_, Forget.cons rfl (Forget.cons rfl (Forget.cons rfl (Forget.nil _))), ⟨j + 1, _, hd, rfl, rfl, rfl⟩, ?_⟩
  show ((X.length : Int) - ((j + 1 : Nat) : Int)).toNat < ((X.length : Int) - (j : Int)).toNat
  omega
end Go.Proofs.YtmififfaljihgaaGreat
