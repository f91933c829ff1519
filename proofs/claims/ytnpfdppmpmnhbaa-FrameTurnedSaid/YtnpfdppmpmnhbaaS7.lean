/- The writers: Raw, Bytes. -/
import Derived.Test.YtnpfdppmpmnhbaaS6
set_option linter.unusedVariables false
namespace Go.Proofs.Ytnpfdppmpmnhbaa
open Go Go.Ab
theorem raw22 {h : H} {g : Nat} {p : Option (Nat × Nat)} {xs : List Int} {sp : Bool} (w : WtrP h g p xs sp) {q : Option (Nat × Nat)} {m : Nat} {ys : List Int} (hv : SlIs h q m false 1 (ints .u8 ys)) (hx : xs.length ≤ 1000000) (hm : ys.length ≤ 1000000) :
    ACalls Try.prog 22 [.ptr (some (g, 0)), .sl q m] h (fun r h' => r = .ptr (some (g, 0)) ∧ WtrQ h g p (xs ++ ys) sp h') := by
  have hl : m = ys.length := by
    have := hv.1
    rw [ints_length] at this
    omega
  subst hl
  refine call_ Try.func22 rfl rfl (by kernel_rfl) ?_
  conv => whnf
  refine ⟨_, Cell.mk w.1 rfl, ?_⟩
  conv => whnf
  refine ⟨_, _, w.2.1, hv, by rw [T5b]; omega, by omega, fun p2 h2 hs hm2 hf2 => ?_⟩
  conv => whnf
  obtain ⟨e2, q2⟩ := w.app (ys := ys) ⟨Nat.le_refl _, fun _ _ _ => rfl⟩ hs hm2 hf2
  refine ⟨_, _, e2, Nat.le_of_ble_eq_true rfl, ?_⟩
  conv => whnf
  exact ⟨rfl, q2⟩
theorem bytes23 {h : H} {g : Nat} {p : Option (Nat × Nat)} {xs : List Int} {sp : Bool} (w : WtrP h g p xs sp) (hx : xs.length ≤ 1000000) :
    ACalls Try.prog 23 [.ptr (some (g, 0))] h (fun r h' => ∃ q n, r = .tup [.sl q n, i64 (if sp then 1 else 0)] ∧ Oct h' q n (if sp then [] else xs) ∧ Ab.Mod none_ h h') := by
  refine call_ Try.func23 rfl rfl (by kernel_rfl) ?_
  conv => whnf
  refine ⟨_, Cell.mk w.1 rfl, ?_⟩
  conv => whnf
  refine br_mk (fun hb => ?_) (fun hb => ?_)
  · conv => whnf
    simp only [hb, if_true]
    exact ⟨none, 0, rfl, Oct.nil _ _, Nat.le_refl _, fun _ _ _ => rfl⟩
  conv => whnf
  refine ⟨_, Cell.mk w.1 rfl, ?_⟩
  conv => whnf
  refine (clone54 w.2.1.weak (by omega)).mono ?_
  rintro _ h' ⟨q, rfl, hq, hm⟩
  conv => whnf
  simp only [hb]
  exact ⟨q, _, rfl, hq, hm⟩
theorem bytes23_ok {h : H} {g : Nat} {p : Option (Nat × Nat)} {xs : List Int} (w : WtrP h g p xs false) (hx : xs.length ≤ 1000000) :
    ACalls Try.prog 23 [.ptr (some (g, 0))] h (fun r h' => ∃ q, r = .tup [.sl q xs.length, i64 0] ∧ Oct h' q xs.length xs ∧ Ab.Mod none_ h h') :=
  (bytes23 w hx).mono fun r h' ⟨q, n, e, o, m⟩ => by
    have := o.len
    subst this
    exact ⟨q, e, o, m⟩
theorem bytes23_bad {h : H} {g : Nat} {p : Option (Nat × Nat)} {xs : List Int} (w : WtrP h g p xs true) (hx : xs.length ≤ 1000000) :
    ACalls Try.prog 23 [.ptr (some (g, 0))] h (fun r h' => ∃ q, r = .tup [.sl q 0, i64 1] ∧ Ab.Mod none_ h h') :=
  (bytes23 w hx).mono fun r h' ⟨q, n, e, o, m⟩ => by
    have := o.len
    subst this
    exact ⟨q, e, m⟩
theorem nums19n (h : H) (k v : V) : ACalls Try.prog 19 [.ptr none, k, v] h (fun r h' => r = .ptr none ∧ h' = h) := by
  refine call_ Try.func19 rfl rfl (by kernel_rfl) ?_
  conv => whnf
  exact ⟨rfl, rfl⟩
theorem bytes23n (h : H) : ACalls Try.prog 23 [.ptr none] h (fun r h' => r = .tup [.sl none 0, i64 1] ∧ h' = h) := by
  refine call_ Try.func23 rfl rfl (by kernel_rfl) ?_
  conv => whnf
  exact ⟨rfl, rfl⟩
theorem raw27n (h : H) (k : Int) : ACalls Try.prog 27 [.ptr none, i64 k] h (fun r h' => r = .sl none 0 ∧ h' = h) := by
  refine call_ Try.func27 rfl rfl (by kernel_rfl) ?_
  conv => whnf
  exact ⟨rfl, rfl⟩
theorem done31n (h : H) : ACalls Try.prog 31 [.ptr none] h (fun r h' => r = i64 2 ∧ h' = h) := by
  refine call_ Try.func31 rfl rfl (by kernel_rfl) ?_
  conv => whnf
  exact ⟨rfl, rfl⟩
theorem num25n (h : H) : ACalls Try.prog 25 [.ptr none, i64 1] h (fun r h' => r = i64 0 ∧ h' = h) := by
  refine call_ Try.func25 rfl rfl (by kernel_rfl) ?_
  conv => whnf
  refine (raw27n h 1).mono ?_
  rintro _ h' ⟨rfl, eh⟩
  subst h'
  conv => whnf
  refine ⟨fun env hh => hh = h ∧ env = [(17, i64 0), (16, i64 0), (4, i64 0)], fun _ _ => 0, ⟨_, Forget.cons rfl (Forget.cons rfl (Forget.cons rfl (Forget.nil _))), rfl, rfl⟩, ?_⟩
  rintro _ _ ⟨rfl, rfl⟩
  conv => whnf
  exact ⟨rfl, rfl⟩
end Go.Proofs.Ytnpfdppmpmnhbaa
