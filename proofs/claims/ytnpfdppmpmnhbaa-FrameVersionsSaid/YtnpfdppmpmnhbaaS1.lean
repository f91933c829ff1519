/- The readers, one function after the other. -/
import Derived.Test.YtnpfdppmpmnhbaaS0
set_option linter.unusedVariables false
namespace Go.Proofs.Ytnpfdppmpmnhbaa
open Go Go.Ab

theorem T5b : (T.at_ 5).bytes = 1 := rfl
theorem T5s : (T.at_ 5).size = 1 := rfl
def Oct (h : H) (p : Option (Nat × Nat)) (n : Nat) (xs : List Int) : Prop := RoSl h p n 1 (ints .u8 xs)
theorem Oct.len {h : H} {p : Option (Nat × Nat)} {n : Nat} {xs : List Int} (o : Oct h p n xs) : n = xs.length := by
  have := o.1
  rw [ints_length] at this
  omega
theorem Oct.get {S : Nat → Prop} {h h' : H} {p : Option (Nat × Nat)} {n : Nat} {xs : List Int} (o : Oct h p n xs) (m : Mod S h h') : Oct h' p n xs := RoSl.get o m
theorem Oct.cut {h : H} {p : Option (Nat × Nat)} {n : Nat} {xs : List Int} (o : Oct h p n xs) {l m : Nat} (h1 : l ≤ m) (h2 : m ≤ n) : Oct h (slp p l) (m - l) ((xs.drop l).take (m - l)) := by
  have := RoSl.cut o h1 h2
  rw [Nat.mul_one, Nat.mul_one, ints_drop, ints_take] at this
  exact this
theorem Oct.nil (h : H) (p : Option (Nat × Nat)) : Oct h p 0 [] := RoSl.nil h p 1

/-- A reader, of either make. -/
def Rdr (h : H) (g : Nat) (xs : List Int) (sp : Bool) : Prop := ∃ p n, h.obj g = some (.row true 2 [.sl p n, .bool sp]) ∧ Oct h p n xs
theorem Rdr.get {S : Nat → Prop} {h h' : H} {g : Nat} {xs : List Int} {sp : Bool} (r : Rdr h g xs sp) (m : Mod S h h') (hs : ¬ S g) : Rdr h' g xs sp := by
  obtain ⟨p, n, h1, h2⟩ := r
  exact ⟨p, n, m.get h1 (.inl hs), h2.get m⟩
def leftV (xs : List Int) (sp : Bool) : Int := if sp then 0 else xs.length
def one (g : Nat) : Nat → Prop := fun i => i = g

theorem left29 {h : H} {g : Nat} {xs : List Int} {sp : Bool} (r : Rdr h g xs sp) : ACalls Try.prog 29 [.ptr (some (g, 0))] h (fun v h' => h' = h ∧ v = i64 (leftV xs sp)) := by
  obtain ⟨p, n, hg, ho⟩ := r
  have hl := ho.len
  subst hl
  refine call_ Try.func29 rfl rfl (by kernel_rfl) ?_
  conv => whnf
  refine ⟨_, Cell.mk hg rfl, ?_⟩
  conv => whnf
  refine br_mk (fun hb => ?_) (fun hb => ?_)
  · conv => whnf
    simp [hb, leftV]
  conv => whnf
  refine ⟨_, Cell.mk hg rfl, ?_⟩
  conv => whnf
  simp [hb, leftV]
theorem left30 {h : H} {g : Nat} {xs : List Int} {sp : Bool} (r : Rdr h g xs sp) : ACalls Try.prog 30 [.ptr (some (g, 0))] h (fun v h' => h' = h ∧ v = i64 (leftV xs sp)) := by
  obtain ⟨p, n, hg, ho⟩ := r
  have hl := ho.len
  subst hl
  refine call_ Try.func30 rfl rfl (by kernel_rfl) ?_
  conv => whnf
  refine ⟨_, Cell.mk hg rfl, ?_⟩
  conv => whnf
  refine br_mk (fun hb => ?_) (fun hb => ?_)
  · conv => whnf
    simp [hb, leftV]
  conv => whnf
  refine ⟨_, Cell.mk hg rfl, ?_⟩
  conv => whnf
  simp [hb, leftV]
def doneV (xs : List Int) (sp : Bool) : Bool := !sp && xs.isEmpty
theorem done31 {h : H} {g : Nat} {xs : List Int} {sp : Bool} (r : Rdr h g xs sp) : ACalls Try.prog 31 [.ptr (some (g, 0))] h (fun v h' => h' = h ∧ v = i64 (if doneV xs sp then 0 else 2)) := by
  obtain ⟨p, n, hg, ho⟩ := r
  have hl := ho.len
  subst hl
  refine call_ Try.func31 rfl rfl (by kernel_rfl) ?_
  conv => whnf
  refine ⟨_, Cell.mk hg rfl, ?_⟩
  conv => whnf
  refine br_mk (fun hb => ?_) (fun hb => ?_)
  · conv => whnf
    simp [hb, doneV]
  conv => whnf
  refine ⟨_, Cell.mk hg rfl, ?_⟩
  conv => whnf
  refine br_mk (fun hc => ?_) (fun hc => ?_)
  · conv => whnf
    cases xs with
    | nil => simp at hc
    | cons x xs => simp [doneV]
  · conv => whnf
    cases xs with
    | nil => simp [hb, doneV]
    | cons x xs => simp at hc
theorem done32 {h : H} {g : Nat} {xs : List Int} {sp : Bool} (r : Rdr h g xs sp) : ACalls Try.prog 32 [.ptr (some (g, 0))] h (fun v h' => h' = h ∧ v = .bool (doneV xs sp)) := by
  obtain ⟨p, n, hg, ho⟩ := r
  have hl := ho.len
  subst hl
  refine call_ Try.func32 rfl rfl (by kernel_rfl) ?_
  conv => whnf
  refine ⟨_, Cell.mk hg rfl, ?_⟩
  conv => whnf
  refine br_mk (fun hb => ?_) (fun hb => ?_)
  · conv => whnf
    refine ⟨_, Cell.mk hg rfl, ?_⟩
    conv => whnf
    cases xs with
    | nil => simp [hb, doneV]
    | cons x xs =>
      simp [doneV, hb]
      omega
  conv => whnf
  simp_all [doneV]
/-- a copy of octets -/
theorem clone54 {h : H} {p : Option (Nat × Nat)} {n : Nat} {xs : List Int} (o : SlIs h p n false 1 (ints .u8 xs)) (hn : xs.length ≤ 70368744177664) : ACalls Try.prog 54 [.sl p n] h (fun v h' => ∃ q, v = .sl q n ∧ Oct h' q n xs ∧ Mod none_ h h') := by
  have hl : n = xs.length := by
    have := o.1
    rw [ints_length] at this
    omega
  subst hl
  refine ACalls.ro (Q := fun v h' => ∃ q, v = .sl q xs.length ∧ NewSl h h' q xs.length 1 (ints .u8 xs) ∧ Mod none_ h h') ?_ ?_
  rotate_left
  · rintro r h' ⟨q, rfl, n1, m⟩
    obtain ⟨i, _, k1, k2⟩ := n1.freeze m
    exact ⟨i, q, rfl, k1, k2⟩
  refine call_ Try.func54 rfl rfl (by kernel_rfl) ?_
  conv => whnf
  refine br_mk (fun hb => ?_) (fun hb => ?_)
  · conv => whnf
    cases p with
    | some x => simp at hb
    | none =>
      rcases o.2 with ⟨h0, _⟩ | ⟨i, j, b, r, e, _⟩
      · cases xs with
        | nil => exact ⟨none, rfl, NewSl.nil _ _ _, ⟨Nat.le_refl _, fun _ _ _ => rfl⟩⟩
        | cons x xs => simp at h0
      · cases e
  conv => whnf
  refine ⟨[], _, ⟨rfl, .inr ⟨_, 0, true, [], rfl, by simp [H.push]; rfl, fun e => e, by simp, by simp⟩⟩, o.get (Mod.push none_ h _) (fun _ _ _ => .inl (fun k => k)), by rw [T5b]; omega, by omega, fun p' h' hs hm hf => ?_⟩
  conv => whnf
  rw [Nat.zero_add] at hs ⊢
  refine ⟨p', rfl, ⟨hs, fun i o e => ?_⟩, (Mod.push none_ h _).trans' hm (fun _ _ k => k) (fun i hi k => ?_)⟩
  · rcases hf i o e with k | k
    · rw [e] at k
      injection k with k
      injection k with k
      omega
    · exact Nat.le_trans (Nat.le_succ _) k
  · obtain ⟨o, k⟩ := k
    injection k with k
    injection k with k
    omega
end Go.Proofs.Ytnpfdppmpmnhbaa
