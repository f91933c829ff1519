/- Senders: the words that the document fixes. -/
import Derived.Test.YtoljllfbabahpaaU14
set_option linter.unusedVariables false
namespace Go.Proofs.Ytoljllfbabahpaa
open Go Go.Ab
theorem sNew0 (h : H) : ACalls Try.prog 41 [i64 1, .ptr none] h (fun r h' => h' = h ∧ r = .tup [.ptr none, i64 1]) := by
  refine call_ Try.func41 rfl rfl (by kernel_rfl) ?_
  conv => whnf
  exact ⟨rfl, rfl⟩
/-- a new body is none of what is there -/
theorem laid_ne {h : H} {d : SId} {v : SV} (s : SdC h d v) {j : Nat} (hj : h.next ≤ j) : ∀ i o, (some (j, 0) : Option (Nat × Nat)) = some (i, o) → i ≠ d.g := fun i o e => by
  injection e with e
  injection e with e _
  have := s.lt (.inl rfl)
  omega
theorem awake39 (h : H) : ACalls Try.prog 39 [] h (fun r h' => r = .bool true) := by
  refine call_ Try.func39 rfl rfl (by kernel_rfl) ?_
  conv => whnf
  refine (new22 h 2 2 0).mono ?_
  rintro _ h1 q
  obtain ⟨tg, tmi, rfl, t1, _, _, m1⟩ := newT_yes q rfl
  clear q
  conv => whnf
  refine ⟨_, rfl, ?_⟩
  conv => whnf
  refine ⟨_, rfl, ?_⟩
  conv => whnf
  refine (sNew0 h1).mono ?_
  rintro _ h2 ⟨eh, rfl⟩
  subst eh
  conv => whnf
  refine ⟨_, rfl, ?_⟩
  conv => whnf
  refine ⟨_, rfl, ?_⟩
  conv => whnf
  refine (sNew t1 1).mono ?_
  rintro _ h3 q
  obtain ⟨d, rfl, rfl, rfl, s1, _, _, m3⟩ := newS_yes q rfl
  clear q
  have o1 : SOk ⟨1, 0, false, [], 2, 2, 0, []⟩ := new_ok rfl rfl
  conv => whnf
  refine ⟨_, rfl, ?_⟩
  conv => whnf
  refine ⟨_, rfl, ?_⟩
  conv => whnf
  obtain ⟨l3, n3⟩ := laid_oct h3 [9]
  have e3 : sendV ⟨1, 0, false, [], 2, 2, 0, []⟩ 0 [9] = ((0, 0), ⟨1, 1, false, [(0, [9])], 2, 2, 0, [(0, 2, 0)]⟩) := rfl
  have oo3 := o1.send 0 (body := [9]) (by simp)
  refine (cSend (s1.old n3) o1 (by decide) (now := 0) (by decide) (by decide) l3 (laid_ne s1 (Nat.le_refl _)) (by simp)).mono ?_
  rintro _ h4 ⟨rfl, s3, m3⟩
  rw [e3] at s3 oo3 ⊢
  conv => whnf
  refine ⟨_, rfl, ?_⟩
  conv => whnf
  refine ⟨_, rfl, ?_⟩
  conv => whnf
  obtain ⟨l4, n4⟩ := laid_oct h4 [8]
  have e4 : sendV ⟨1, 1, false, [(0, [9])], 2, 2, 0, [(0, 2, 0)]⟩ 0 [8] = ((0, 5), ⟨1, 1, false, [(0, [9])], 2, 2, 0, [(0, 2, 0)]⟩) := rfl
  have oo4 := oo3.send 0 (body := [8]) (by simp)
  refine (cSend (s3.old n4) oo3 (by decide) (now := 0) (by decide) (by decide) l4 (laid_ne s3 (Nat.le_refl _)) (by simp)).mono ?_
  rintro _ h5 ⟨rfl, s4, m4⟩
  rw [e4] at s4 oo4 ⊢
  conv => whnf
  refine ⟨_, rfl, ?_⟩
  conv => whnf
  refine ⟨_, rfl, ?_⟩
  conv => whnf
  refine (cBody s4 oo4 0).mono ?_
  rintro _ h6 ⟨q6, rfl, r6, m6⟩
  have r6 : RoSl h6 q6 1 1 (ints .u8 [9]) := r6
  conv => whnf
  refine ⟨_, rfl, ?_⟩
  conv => whnf
  refine ⟨_, rfl, ?_⟩
  conv => whnf
  have e7 : ackV ⟨1, 1, false, [(0, [9])], 2, 2, 0, [(0, 2, 0)]⟩ 1 = (1, ⟨1, 1, false, [], 2, 2, 0, []⟩) := rfl
  have oo7 := oo4.ack 1
  refine (cAck (s4.old m6) oo4 1).mono ?_
  rintro _ h7 ⟨rfl, s7, m7⟩
  rw [e7] at s7 oo7 ⊢
  conv => whnf
  obtain ⟨l8, n8⟩ := laid_oct h7 [7]
  have e8 : sendV ⟨1, 1, false, [], 2, 2, 0, []⟩ 1 [7] = ((1, 0), ⟨1, 2, false, [(1, [7])], 2, 2, 0, [(1, 3, 0)]⟩) := rfl
  have oo8 := oo7.send 1 (body := [7]) (by simp)
  refine (cSend (s7.old n8) oo7 (by decide) (now := 1) (by decide) (by decide) l8 (laid_ne s7 (Nat.le_refl _)) (by simp)).mono ?_
  rintro _ h8 ⟨rfl, s8, m8⟩
  rw [e8] at s8 oo8 ⊢
  conv => whnf
  refine ⟨_, rfl, ?_⟩
  conv => whnf
  refine ⟨_, rfl, ?_⟩
  conv => whnf
  have e9 : againV ⟨1, 2, false, [(1, [7])], 2, 2, 0, [(1, 3, 0)]⟩ 3 = (([], 6), ⟨1, 2, true, [(1, [7])], 2, 2, 0, []⟩) := rfl
  have oo9 := oo8.again 3
  refine (cAgain s8 oo8 (now := 3) (by decide) (by decide)).mono ?_
  rintro _ h9 ⟨q9, rfl, r9, s9, m9⟩
  rw [e9] at s9 oo9 ⊢
  conv => whnf
  refine ⟨_, rfl, ?_⟩
  conv => whnf
  refine ⟨_, rfl, ?_⟩
  conv => whnf
  obtain ⟨l10, n10⟩ := laid_oct h9 [6]
  have e10 : sendV ⟨1, 2, true, [(1, [7])], 2, 2, 0, []⟩ 4 [6] = ((0, 6), ⟨1, 2, true, [(1, [7])], 2, 2, 0, []⟩) := rfl
  have oo10 := oo9.send 4 (body := [6]) (by simp)
  refine (cSend (s9.old n10) oo9 (by decide) (now := 4) (by decide) (by decide) l10 (laid_ne s9 (Nat.le_refl _)) (by simp)).mono ?_
  rintro _ h10 ⟨rfl, s10, m10⟩
  rw [e10] at s10 oo10 ⊢
  conv => whnf
  refine ⟨_, rfl, ?_⟩
  conv => whnf
  refine ⟨_, rfl, ?_⟩
  conv => whnf
  refine (send0 _ 0 _ _).mono ?_
  rintro _ h11 ⟨eh, rfl⟩
  subst eh
  conv => whnf
  refine ⟨_, rfl, ?_⟩
  conv => whnf
  refine ⟨_, rfl, ?_⟩
  conv => whnf
  obtain ⟨l11, n11⟩ := laid_oct h10 [1]
  have r11 := ((((((r6.get m7).get n8).get m8).get m9).get n10).get m10).get n11
  have s11 := s10.old n11
  refine ⟨_, r11.is, by decide, ?_⟩
  conv => whnf
  refine (cRoom s11 oo10).mono ?_
  rintro _ h12 ⟨eh, rfl⟩
  subst eh
  conv => whnf
  refine (cSeq s11).mono ?_
  rintro _ h12 ⟨eh, rfl⟩
  subst eh
  conv => whnf
  refine (ack0 _ 1).mono ?_
  rintro _ h12 ⟨eh, rfl⟩
  subst eh
  conv => whnf
  rfl
end Go.Proofs.Ytoljllfbabahpaa
