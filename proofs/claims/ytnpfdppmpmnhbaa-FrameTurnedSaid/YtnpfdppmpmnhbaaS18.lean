/- Frames of the reference: summed, Wrap. -/
import Derived.Test.YtnpfdppmpmnhbaaS17
import Derived.Test.YtnpfdppmpmnhbaaS14
set_option linter.unusedVariables false
namespace Go.Proofs.Ytnpfdppmpmnhbaa
open Go Go.Ab
def shc (c : Int) (i : Nat) : Int := IntKind.u8.wrap (c.fdiv (2 ^ (min (i : Int).toNat IntKind.u32.bits)))
def sum4 (c : Int) : List Int := [shc c 24, shc c 16, shc c 8, IntKind.u8.wrap c]
theorem summed56 {h : H} {p : Option (Nat × Nat)} {n : Nat} {xs : List Int} (o : SlIs h p n false 1 (ints .u8 xs)) (hn : n ≤ 1000000) : ACalls Try.prog 56 [.sl p n] h (fun r h' => ∃ q, r = .sl q (xs.length + 4) ∧ Oct h' q (xs.length + 4) (xs ++ sum4 (sumV xs)) ∧ Ab.Mod none_ h h') := by
  have hl := slo_len o
  subst hl
  refine ACalls.ro (Q := fun v h' => ∃ q, v = .sl q (xs.length + 4) ∧ NewSl h h' q (xs.length + 4) 1 (ints .u8 (xs ++ sum4 (sumV xs))) ∧ Ab.Mod none_ h h') ?_ ?_
  rotate_left
  · rintro r h' ⟨q, rfl, n1, m⟩
    obtain ⟨i, _, k1, k2⟩ := n1.freeze m
    exact ⟨i, q, rfl, k1, k2⟩
  refine call_ Try.func56 rfl rfl (by kernel_rfl) ?_
  conv => whnf
  refine (sum35 o (by omega)).mono ?_
  rintro _ h' ⟨eh, rfl⟩
  subst h'
  conv => whnf
  have mp := Mod.push none_ h (.row true (T.at_ 5).size (zerosV 0 (vcells (T.at_ 5).zero)))
  refine ⟨[], _, ⟨rfl, .inr ⟨_, 0, true, [], rfl, by simp [H.push]; rfl, fun e => e, by simp, by simp⟩⟩, o.get mp (fun _ _ _ => .inl (fun k => k)), by rw [T5b]; omega, by omega, fun p1 h1 hs1 hm1 hf1 => ?_⟩
  conv => whnf
  refine ⟨by decide, ?_⟩
  conv => whnf
  refine ⟨by decide, ?_⟩
  conv => whnf
  refine ⟨by decide, ?_⟩
  conv => whnf
  have n1 : Ab.Mod none_ h h1 := mp.trans' hm1 (fun _ _ k => k) (fun i hi k => by
    obtain ⟨o, k⟩ := k
    injection k with k
    injection k with k
    omega)
  have f1 : ∀ i o, p1 = some (i, o) → h.next ≤ i := fun i o e => by
    rcases hf1 i o e with k | k
    · rw [e] at k
      injection k with k
      injection k with k
      omega
    · exact Nat.le_trans (Nat.le_succ _) k
  refine ⟨_, _, hs1.get (Mod.push none_ _ _) (fun _ _ _ => .inl (fun k => k)), (SlIs.row (n := 4) (H.obj_push_new _ _) rfl).weak, by rw [T5b]; omega, by omega, fun p2 h2 hs2 hm2 hf2 => ?_⟩
  conv => whnf
  have mq := Mod.push none_ h1 (.row true 1 (ints .u8 (sum4 (sumV xs))))
  have hs3 : SlIs h2 p2 (xs.length + 4) true 1 (ints .u8 (xs ++ sum4 (sumV xs))) := by
    rw [ints_append, ← Nat.zero_add xs.length]
    exact hs2
  refine ⟨p2, by rw [Nat.zero_add], ⟨hs3, fun i o e => ?_⟩, (n1.trans' mq (S2 := none_) (fun _ _ k => k) (fun _ _ k => k)).trans' hm2 (fun _ _ k => k) (fun i hi k => ?_)⟩
  · rcases hf2 i o e with k | k
    · exact f1 i o (by rw [← k, e])
    · exact Nat.le_trans n1.next (Nat.le_trans (Nat.le_succ _) k)
  · obtain ⟨o, k⟩ := k
    have := f1 i o k
    omega
def wrHead (x : Int) (xs : List Int) : List Int := [77, 3, IntKind.u8.wrap x, IntKind.u8.wrap ((xs.length : Int).fdiv (2 ^ (min (8 : Int).toNat IntKind.i64.bits))), IntKind.u8.wrap xs.length]
def wrBad (x : Int) (xs : List Int) : Bool := decide (x < 0) || decide (255 < x) || decide (2000 < xs.length)
def wrOk (x : Int) (xs : List Int) : List Int := (wrHead x xs ++ xs) ++ sum4 (sumV (wrHead x xs ++ xs))
def wrV (x : Int) (xs : List Int) : List Int := if wrBad x xs then [] else wrOk x xs
def WrQ (x : Int) (xs : List Int) (h : H) (r : V) (h' : H) : Prop := ∃ q, r = .tup [.sl q (wrV x xs).length, i64 (if wrBad x xs then 1 else 0)] ∧ Oct h' q (wrV x xs).length (wrV x xs) ∧ Ab.Mod none_ h h'
theorem wrQ_bad {x : Int} {xs : List Int} (hb : wrBad x xs = true) (h : H) : WrQ x xs h (.tup [.sl none 0, i64 1]) h := by
  unfold WrQ wrV
  rw [hb]
  exact ⟨none, rfl, Oct.nil _ _, Nat.le_refl _, fun _ _ _ => rfl⟩
theorem wrap37 {h : H} {p : Option (Nat × Nat)} {n : Nat} {xs : List Int} (o : SlIs h p n false 1 (ints .u8 xs)) (hn : n ≤ maxLen) (x : Int) : ACalls Try.prog 37 [i64 x, .sl p n] h (WrQ x xs h) := by
  have hl := slo_len o
  subst hl
  refine call_ Try.func37 rfl rfl (by kernel_rfl) ?_
  conv => whnf
  refine br_mk (fun hb => ?_) (fun hb => ?_)
  · conv => whnf
    simp at hb
    exact wrQ_bad (by simp [wrBad]; omega) h
  conv => whnf
  refine br_mk (fun hc => ?_) (fun hc => ?_)
  · conv => whnf
    simp at hc
    exact wrQ_bad (by simp [wrBad]; omega) h
  conv => whnf
  refine br_mk (fun hd => ?_) (fun hd => ?_)
  · conv => whnf
    simp at hd
    exact wrQ_bad (by simp [wrBad]; omega) h
  conv => whnf
  simp at hb hc hd
  have hw : wrBad x xs = false := by simp [wrBad]; omega
  refine ⟨by decide, ?_⟩
  conv => whnf
  have mp := Mod.push none_ h (.row true 1 (ints .u8 (wrHead x xs)))
  refine ⟨_, _, SlIs.row (n := 5) (H.obj_push_new _ _) rfl, SlIs.old o mp (fun _ _ k => k), by rw [T5b]; omega, by omega, fun p1 h1 hs1 hm1 hf1 => ?_⟩
  conv => whnf
  have n1 : Ab.Mod none_ h h1 := mp.trans' hm1 (fun _ _ k => k) (fun i hi k => by
    obtain ⟨o, k⟩ := k
    injection k with k
    injection k with k
    omega)
  have hs2 : SlIs h1 p1 (5 + xs.length) false 1 (ints .u8 (wrHead x xs ++ xs)) := by
    rw [ints_append]
    exact SlIs.weak hs1
  refine (summed56 hs2 (by omega)).mono ?_
  rintro _ h2 ⟨q, rfl, oq, mq⟩
  conv => whnf
  have e : (wrHead x xs ++ xs).length + 4 = (wrOk x xs).length := by
    unfold wrOk
    generalize wrHead x xs ++ xs = b
    rw [List.length_append]
    rfl
  rw [e] at oq ⊢
  unfold wrV
  rw [hw]
  exact ⟨q, rfl, oq, n1.trans' mq (fun _ _ k => k) (fun _ _ k => k)⟩
end Go.Proofs.Ytnpfdppmpmnhbaa
