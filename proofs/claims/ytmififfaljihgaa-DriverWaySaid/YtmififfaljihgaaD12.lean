/- The driver: Way. -/
import Derived.Test.YtmififfaljihgaaD11
set_option linter.unusedVariables false
namespace Go.Proofs.Ytmififfaljihgaa
open Go Go.Ab
def CloneQ (xs : List Int) (h : H) (r : V) (h' : H) : Prop := ∃ q, r = .sl q xs.length ∧ RoSl h' q xs.length 1 (ints .i64 xs) ∧ Ab.Mod none_ h h'
theorem clone42 {h : H} {p : Option (Nat × Nat)} {xs : List Int} (o : SlIs h p xs.length false 1 (ints .i64 xs)) (hn : xs.length ≤ 1000000) : ACalls Try.prog 42 [.sl p xs.length] h (CloneQ xs h) := by
  refine ACalls.ro (Q := fun r h' => ∃ q, r = .sl q xs.length ∧ NewSl h h' q xs.length 1 (ints .i64 xs) ∧ Ab.Mod none_ h h') ?_ (by
    rintro r h' ⟨q, rfl, nq, m⟩
    obtain ⟨i, a1, a2, a3⟩ := nq.freeze m
    exact ⟨i, q, rfl, a2, a3⟩)
  refine call_ Try.func42 rfl rfl (by kernel_rfl) ?_
  conv => whnf
  refine br_mk (fun hb => ?_) (fun hb => ?_)
  · conv => whnf
    cases p with
    | some x => simp at hb
    | none =>
      rcases o.2 with ⟨h0, _⟩ | ⟨i, j, b, r, e, _⟩
      · cases xs with
        | nil => exact ⟨none, rfl, NewSl.nil _ _ _, mod_refl _ _⟩
        | cons x xs => simp at h0
      · cases e
  conv => whnf
  obtain ⟨y1, y2, y3⟩ := app0 (h0 := h) o
  refine ⟨_, _, y1, y2, by rw [show (T.at_ 3).bytes = 8 from rfl]; omega, by omega, fun pA hA hs hm hf => ?_⟩
  obtain ⟨nA, mA⟩ := y3 pA hA hs hm hf
  conv => whnf
  exact ⟨pA, by rw [Nat.zero_add], nA, mA⟩
def wayOf (v : DV) : List Int := if v.has then v.way else []
def WayQ (v : DV) (h : H) (r : V) (h' : H) : Prop := ∃ q, r = .tup [.sl q (wayOf v).length, .bool v.has] ∧ RoSl h' q (wayOf v).length 1 (ints .i64 (wayOf v)) ∧ Ab.Mod none_ h h'
theorem dWay {h : H} {di : Nat} {v : DV} (s : DrB h di v) (hn : v.way.length ≤ 1000000) : ACalls Try.prog 21 [.ptr (some (di, 0))] h (WayQ v h) := by
  obtain ⟨ch, pw, b, w⟩ := s
  refine call_ Try.func21 rfl rfl (by kernel_rfl) ?_
  conv => whnf
  refine ⟨_, Cell.mk b rfl, ?_⟩
  cases eh : v.has with
  | false =>
    have ew : wayOf v = [] := by rw [wayOf, eh]; rfl
    conv => whnf
    exact ⟨none, by rw [ew, eh]; rfl, by rw [ew]; exact ⟨rfl, .inl rfl⟩, mod_refl _ _⟩
  | true =>
    have ew : wayOf v = v.way := by rw [wayOf, eh]; rfl
    conv => whnf
    refine ⟨_, Cell.mk b rfl, ?_⟩
    conv => whnf
    refine (clone42 w.is hn).mono ?_
    rintro _ h1 ⟨q, rfl, o, m⟩
    conv => whnf
    exact ⟨q, by rw [ew, eh], by rw [ew]; exact o, m⟩
end Go.Proofs.Ytmififfaljihgaa
