/- Rows and closures of graphs: clones, keys, the rows of edges. -/
import Derived.Test.YtjjcalkeodfokaaR3
set_option linter.unusedVariables false
namespace Go.Proofs.Ytjjcalkeodfokaa
open Go Go.Ab
theorem clone34 {h : H} {p : Option (Nat × Nat)} {n : Nat} {cs : List V} (o : SlIs h p n false 2 cs) (hn : n ≤ 1000000) : ACalls Try.prog 34 [.sl p n] h (fun v h' => ∃ q, v = .sl q n ∧ NewSl h h' q n 2 cs ∧ Ab.Mod none_ h h') := by
  refine call_ Try.func34 rfl rfl (by kernel_rfl) ?_
  conv => whnf
  refine br_mk (fun hb => ?_) (fun hb => ?_)
  · conv => whnf
    cases p with
    | some x => simp at hb
    | none =>
      have hl := o.1
      rcases o.2 with ⟨h0, _⟩ | ⟨i, j, b, r, e, _⟩
      · subst h0
        rw [Nat.zero_mul] at hl
        rw [List.eq_nil_of_length_eq_zero hl]
        exact ⟨none, rfl, NewSl.nil _ _ _, ⟨Nat.le_refl _, fun _ _ _ => rfl⟩⟩
      · cases e
  conv => whnf
  refine ⟨[], _, ⟨rfl, .inr ⟨_, 0, true, [], rfl, by simp [H.push]; rfl, fun e => e, by simp, by simp⟩⟩, o.get (Mod.push none_ h _) (fun _ _ _ => .inl (fun k => k)), by rw [show (T.at_ 50).bytes = 16 from rfl]; omega, by omega, fun p' h' hs hm hf => ?_⟩
  conv => whnf
  rw [Nat.zero_add] at hs ⊢
  refine ⟨p', rfl, ⟨hs, fun i o e => ?_⟩, (Mod.push none_ h _).trans' hm (fun _ _ k => k) (fun i hi k => ?_)⟩
  · rcases hf i o e with k | k
    · rw [e] at k
      injection k with k
      injection k with k
      omega
    · exact Nat.le_trans (Nat.le_succ _) k
  · obtain ⟨o, k⟩ := k
    injection k with k
    injection k with k
    omega
theorem clone35 {h : H} {p : Option (Nat × Nat)} {n : Nat} {cs : List V} (o : SlIs h p n false 3 cs) (hn : n ≤ 1000000) : ACalls Try.prog 35 [.sl p n] h (fun v h' => ∃ q, v = .sl q n ∧ NewSl h h' q n 3 cs ∧ Ab.Mod none_ h h') := by
  refine call_ Try.func35 rfl rfl (by kernel_rfl) ?_
  conv => whnf
  refine br_mk (fun hb => ?_) (fun hb => ?_)
  · conv => whnf
    cases p with
    | some x => simp at hb
    | none =>
      have hl := o.1
      rcases o.2 with ⟨h0, _⟩ | ⟨i, j, b, r, e, _⟩
      · subst h0
        rw [Nat.zero_mul] at hl
        rw [List.eq_nil_of_length_eq_zero hl]
        exact ⟨none, rfl, NewSl.nil _ _ _, ⟨Nat.le_refl _, fun _ _ _ => rfl⟩⟩
      · cases e
  conv => whnf
  refine ⟨[], _, ⟨rfl, .inr ⟨_, 0, true, [], rfl, by simp [H.push]; rfl, fun e => e, by simp, by simp⟩⟩, o.get (Mod.push none_ h _) (fun _ _ _ => .inl (fun k => k)), by rw [show (T.at_ 52).bytes = 24 from rfl]; omega, by omega, fun p' h' hs hm hf => ?_⟩
  conv => whnf
  rw [Nat.zero_add] at hs ⊢
  refine ⟨p', rfl, ⟨hs, fun i o e => ?_⟩, (Mod.push none_ h _).trans' hm (fun _ _ k => k) (fun i hi k => ?_)⟩
  · rcases hf i o e with k | k
    · rw [e] at k
      injection k with k
      injection k with k
      omega
    · exact Nat.le_trans (Nat.le_succ _) k
  · obtain ⟨o, k⟩ := k
    injection k with k
    injection k with k
    omega
theorem clone36 {h : H} {p : Option (Nat × Nat)} {n : Nat} {cs : List V} (o : SlIs h p n false 2 cs) (hn : n ≤ 1000000) : ACalls Try.prog 36 [.sl p n] h (fun v h' => ∃ q, v = .sl q n ∧ NewSl h h' q n 2 cs ∧ Ab.Mod none_ h h') := by
  refine call_ Try.func36 rfl rfl (by kernel_rfl) ?_
  conv => whnf
  refine br_mk (fun hb => ?_) (fun hb => ?_)
  · conv => whnf
    cases p with
    | some x => simp at hb
    | none =>
      have hl := o.1
      rcases o.2 with ⟨h0, _⟩ | ⟨i, j, b, r, e, _⟩
      · subst h0
        rw [Nat.zero_mul] at hl
        rw [List.eq_nil_of_length_eq_zero hl]
        exact ⟨none, rfl, NewSl.nil _ _ _, ⟨Nat.le_refl _, fun _ _ _ => rfl⟩⟩
      · cases e
  conv => whnf
  refine ⟨[], _, ⟨rfl, .inr ⟨_, 0, true, [], rfl, by simp [H.push]; rfl, fun e => e, by simp, by simp⟩⟩, o.get (Mod.push none_ h _) (fun _ _ _ => .inl (fun k => k)), by rw [show (T.at_ 63).bytes = 16 from rfl]; omega, by omega, fun p' h' hs hm hf => ?_⟩
  conv => whnf
  rw [Nat.zero_add] at hs ⊢
  refine ⟨p', rfl, ⟨hs, fun i o e => ?_⟩, (Mod.push none_ h _).trans' hm (fun _ _ k => k) (fun i hi k => ?_)⟩
  · rcases hf i o e with k | k
    · rw [e] at k
      injection k with k
      injection k with k
      omega
    · exact Nat.le_trans (Nat.le_succ _) k
  · obtain ⟨o, k⟩ := k
    injection k with k
    injection k with k
    omega
theorem clone46 {h : H} {p : Option (Nat × Nat)} {n : Nat} {cs : List V} (o : SlIs h p n false 1 cs) (hn : n ≤ 1000000) : ACalls Try.prog 46 [.sl p n] h (fun v h' => ∃ q, v = .sl q n ∧ NewSl h h' q n 1 cs ∧ Ab.Mod none_ h h') := by
  refine call_ Try.func46 rfl rfl (by kernel_rfl) ?_
  conv => whnf
  refine br_mk (fun hb => ?_) (fun hb => ?_)
  · conv => whnf
    cases p with
    | some x => simp at hb
    | none =>
      have hl := o.1
      rcases o.2 with ⟨h0, _⟩ | ⟨i, j, b, r, e, _⟩
      · subst h0
        rw [Nat.zero_mul] at hl
        rw [List.eq_nil_of_length_eq_zero hl]
        exact ⟨none, rfl, NewSl.nil _ _ _, ⟨Nat.le_refl _, fun _ _ _ => rfl⟩⟩
      · cases e
  conv => whnf
  refine ⟨[], _, ⟨rfl, .inr ⟨_, 0, true, [], rfl, by simp [H.push]; rfl, fun e => e, by simp, by simp⟩⟩, o.get (Mod.push none_ h _) (fun _ _ _ => .inl (fun k => k)), by rw [show (T.at_ 3).bytes = 8 from rfl]; omega, by omega, fun p' h' hs hm hf => ?_⟩
  conv => whnf
  rw [Nat.zero_add] at hs ⊢
  refine ⟨p', rfl, ⟨hs, fun i o e => ?_⟩, (Mod.push none_ h _).trans' hm (fun _ _ k => k) (fun i hi k => ?_)⟩
  · rcases hf i o e with k | k
    · rw [e] at k
      injection k with k
      injection k with k
      omega
    · exact Nat.le_trans (Nat.le_succ _) k
  · obtain ⟨o, k⟩ := k
    injection k with k
    injection k with k
    omega
theorem key38 (h : H) (e : Int × Int × Int) : ACalls Try.prog 38 [.agg (eC e)] h (fun v h' => v = i64 e.1 ∧ Ab.Mod none_ h h') := by
  refine call_ Try.func38 rfl rfl (by kernel_rfl) ?_
  conv => whnf
  refine ⟨_, Cell.mk (H.obj_push_new h (.row true 3 (eC e))) rfl, ?_⟩
  conv => whnf
  exact ⟨rfl, Mod.push none_ h (.row true 3 (eC e))⟩
theorem key39 (h : H) (e : Int × Int × Int) : ACalls Try.prog 39 [.agg (eC e)] h (fun v h' => v = i64 e.2.1 ∧ Ab.Mod none_ h h') := by
  refine call_ Try.func39 rfl rfl (by kernel_rfl) ?_
  conv => whnf
  refine ⟨_, Cell.mk (H.obj_push_new h (.row true 3 (eC e))) rfl, ?_⟩
  conv => whnf
  exact ⟨rfl, Mod.push none_ h (.row true 3 (eC e))⟩
end Go.Proofs.Ytjjcalkeodfokaa
