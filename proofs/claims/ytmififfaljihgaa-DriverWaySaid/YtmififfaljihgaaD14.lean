/- The driver: Follow. -/
import Derived.Test.YtmififfaljihgaaD13
set_option linter.unusedVariables false
namespace Go.Proofs.Ytmififfaljihgaa
open Go Go.Ab
theorem repM_len (p : Int) : (encB (repM p)).length ≤ 100000 := by
  rw [encB]
  split
  · have e : bytesP (parts (repM p)) = be 2 1 ++ (be p 2 ++ []) := rfl
    rw [e]
    simp [be_length]
  · exact Nat.zero_le _
def FollowQ (h : H) (di : Nat) (d : CId) (po : Option (Nat × Nat)) (v : DV) (cv : CV) (now : Int) (r : V) (h' : H) : Prop :=
  ((v.live = false ∨ v.way = []) ∧ r = .tup [.sl none 0, i64 4] ∧ h' = h) ∨
  (v.live = true ∧ ∃ p l, v.way = p :: l ∧ ReportQ h di d po v (pushV cv now (encB (repM p))) p r h')
theorem dFollow {h : H} {di : Nat} {d : CId} {po : Option (Nat × Nat)} {v : DV} {cv : CV} (s : DrS h di d po v cv) (g : CG cv) (hN : cv.cnt ≤ 1000000) {now : Int} (hn0 : -1000000000 ≤ now) (hn1 : now ≤ 1000000000) (hf : ∀ b : List Int, (pushV cv now b).1.1.length ≤ 100000) :
    ACalls Try.prog 23 [.ptr (some (di, 0)), i64 now] h (FollowQ h di d po v cv now) := by
  refine call_ Try.func23 rfl rfl (by kernel_rfl) ?_
  conv => whnf
  refine (dLive s.b).mono ?_
  rintro _ h1 ⟨eh, rfl⟩
  subst eh
  cases el : v.live with
  | false =>
    conv => whnf
    exact .inl ⟨.inl el, rfl, rfl⟩
  | true =>
  obtain ⟨pw, b1, b2⟩ := s.box
  conv => whnf
  refine ⟨_, Cell.mk b1 rfl, ?_⟩
  conv => whnf
  cases ew : v.way with
  | nil =>
    conv => whnf
    exact .inl ⟨.inr ew, rfl, rfl⟩
  | cons p l =>
    obtain ⟨i1, c1, f1, f2⟩ := slo_get b2.is (show 0 < v.way.length by rw [ew]; exact Nat.zero_lt_succ _)
    have e0 : v.way.getD 0 0 = p := by rw [ew]; rfl
    rw [e0] at f2
    rw [show ((((p :: l).length : Nat) : Int) == 0) = false from by simp; omega]
    conv => whnf
    refine ⟨_, Cell.mk b1 rfl, ?_⟩
    conv => whnf
    refine ⟨i1, c1, 0, f1, rfl, by rw [ew]; exact Nat.zero_lt_succ _, ?_⟩
    conv => whnf
    refine ⟨_, f2, ?_⟩
    conv => whnf
    refine (dReport s g hN hn0 hn1 p (repM_len p) hf).mono ?_
    rintro r h2 q
    have q0 := q
    rcases q with ⟨q, _⟩ | ⟨_, _, rfl, _⟩ | ⟨_, _, qq, po', out, v', rfl, _⟩
    · rw [el] at q
      cases q
    · conv => whnf
      refine ⟨_, rfl, ?_⟩
      conv => whnf
      refine ⟨_, rfl, ?_⟩
      conv => whnf
      exact .inr ⟨el, p, l, ew, q0⟩
    · conv => whnf
      refine ⟨_, rfl, ?_⟩
      conv => whnf
      refine ⟨_, rfl, ?_⟩
      conv => whnf
      exact .inr ⟨el, p, l, ew, q0⟩
end Go.Proofs.Ytmififfaljihgaa
