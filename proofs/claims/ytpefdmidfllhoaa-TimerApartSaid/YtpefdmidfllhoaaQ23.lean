/- Timers: the calls, what they hand back being read alone; the words that the document fixes. -/
import Derived.Test.YtpefdmidfllhoaaQ22
set_option linter.unusedVariables false
namespace Go.Proofs.Ytpefdmidfllhoaa
open Go Go.Ab
theorem TSt.ro {h : H} {g mi : Nat} {B M R : Int} {S : List Wt} (s : TSt h g mi B M R S) {i : Nat} (hg : g ≠ i) (hm : mi ≠ i) : TSt (h.ro i) g mi B M R S := by
  obtain ⟨ms, h1, h2⟩ := s.map
  exact ⟨by rw [H.ro_ne _ hg, s.box], ⟨ms, by rw [H.ro_ne _ hm, h1], h2⟩, s.asc, s.rng, s.sep⟩
def DueR (h : H) (g mi : Nat) (B M R : Int) (ag ov : List Int) (S' : List Wt) (r : V) (h' : H) : Prop :=
  ∃ qa qo, r = .tup [.sl qa ag.length, .sl qo ov.length] ∧ RoSl h' qa ag.length 1 (ints .i64 ag) ∧ RoSl h' qo ov.length 1 (ints .i64 ov) ∧ TSt h' g mi B M R S' ∧ Ab.Mod (one mi) h h'
theorem due24r {h : H} {g mi : Nat} {B M R : Int} {S : List Wt} (s : TSt h g mi B M R S) (ok : okT B M R = true) (hS : S.length ≤ 100000) (hN : ∀ x ∈ S, 0 ≤ x.2.2) {now : Int} (hn0 : -1000000000 ≤ now) (hn1 : now ≤ 1000000000)
    (ag ov : List Int) (S' : List Wt) (ha : agS R now S = ag) (ho : ovS R now S = ov) (hr : rsS B M R now S = S') :
    ACalls Try.prog 24 [.ptr (some (g, 0)), i64 now] h (DueR h g mi B M R ag ov S') := by
  subst ha ho hr
  have hlt := s.lt
  refine ACalls.ro (Q := fun r h' => ∃ qa qo, r = .tup [.sl qa (agS R now S).length, .sl qo (ovS R now S).length] ∧ RoSl h' qa (agS R now S).length 1 (ints .i64 (agS R now S)) ∧ (SlIs h' qo (ovS R now S).length false 1 (ints .i64 (ovS R now S)) ∧ ∀ i o, qo = some (i, o) → h.next ≤ i) ∧ TSt h' g mi B M R (rsS B M R now S) ∧ Ab.Mod (one mi) h h') ?_ ?_
  · refine (due24 s ok hS hN hn0 hn1).ro ?_
    rintro r h' ⟨qa, qo, rfl, na, no, st, m⟩
    obtain ⟨i, h1, h2, h3⟩ := na.freeze m
    exact ⟨i, qa, qo, rfl, h2, ⟨SlIs.ro_weak no.1.weak i, no.2⟩, st.ro (by omega) (by omega), h3⟩
  · rintro r h' ⟨qa, qo, rfl, na, ⟨no, hno⟩, st, m⟩
    obtain ⟨i, h1, h2⟩ := SlIs.freeze no
    have hi : h.next ≤ i := by
      rcases h1 with ⟨o, h1⟩ | h1
      · exact hno i o h1
      · exact Nat.le_trans m.next h1
    exact ⟨i, qa, qo, rfl, na.ro i, h2, st.ro (by omega) (by omega), m.ro_new hi⟩
theorem i64_in {k : Int} (h0 : -1000000000 ≤ k) (h1 : k ≤ 1000000000) : inI k := by
  unfold inI
  simp [IntKind.min, IntKind.max, IntKind.signed, IntKind.bits]
  omega
theorem awake21 (h : H) : ACalls Try.prog 21 [] h (fun r h' => r = .bool true) := by
  refine call_ Try.func21 rfl rfl (by kernel_rfl) ?_
  conv => whnf
  refine (new22 h 2 5 1).mono ?_
  rintro _ h1 q
  obtain ⟨g, mi, rfl, s1, _, _, m1⟩ := newT_yes q (by decide)
  clear q
  conv => whnf
  refine ⟨_, rfl, ?_⟩
  conv => whnf
  refine ⟨_, rfl, ?_⟩
  conv => whnf
  refine (new22 h1 0 5 1).mono ?_
  rintro _ h2 q
  obtain ⟨rfl, eh⟩ := newT_no q (by decide)
  subst eh
  clear q
  conv => whnf
  refine ⟨_, rfl, ?_⟩
  conv => whnf
  refine ⟨_, rfl, ?_⟩
  conv => whnf
  refine (start23 s1 (by decide) (id := 7) (now := 10) (i64_in (by decide) (by decide)) (by decide) (by decide)).mono ?_
  rintro _ h3 ⟨s3, m3⟩
  have s3 : TSt h3 g mi 2 5 1 [(7, 12, 0)] := s3
  conv => whnf
  refine (due24r s3 (by decide) (by decide) (by decide) (by decide) (by decide) (now := 11) [] [] [(7, 12, 0)] (by decide) (by decide) (by decide)).mono ?_
  rintro _ h4 ⟨qa4, qo4, rfl, ra4, ro4, s4, m4⟩
  conv => whnf
  refine ⟨_, rfl, ?_⟩
  conv => whnf
  refine ⟨_, rfl, ?_⟩
  conv => whnf
  refine (due24r s4 (by decide) (by decide) (by decide) (by decide) (by decide) (now := 12) [7] [] [(7, 16, 1)] (by decide) (by decide) (by decide)).mono ?_
  rintro _ h5 ⟨qa5, qo5, rfl, ra5, ro5, s5, m5⟩
  conv => whnf
  refine ⟨_, rfl, ?_⟩
  conv => whnf
  refine ⟨_, rfl, ?_⟩
  conv => whnf
  refine (due24r s5 (by decide) (by decide) (by decide) (by decide) (by decide) (now := 15) [] [] [(7, 16, 1)] (by decide) (by decide) (by decide)).mono ?_
  rintro _ h6 ⟨qa6, qo6, rfl, ra6, ro6, s6, m6⟩
  conv => whnf
  refine ⟨_, rfl, ?_⟩
  conv => whnf
  refine ⟨_, rfl, ?_⟩
  conv => whnf
  refine (due24r s6 (by decide) (by decide) (by decide) (by decide) (by decide) (now := 16) [] [7] [] (by decide) (by decide) (by decide)).mono ?_
  rintro _ h7 ⟨qa7, qo7, rfl, ra7, ro7, s7, m7⟩
  conv => whnf
  refine ⟨_, rfl, ?_⟩
  conv => whnf
  refine ⟨_, rfl, ?_⟩
  conv => whnf
  have ra5 := (ra5.get m6).get m7
  refine (wait37 s7.box (by decide) (by decide) (by decide) (n := 0) (by decide)).mono ?_
  rintro _ h8 ⟨eh, rfl⟩
  subst eh
  conv => whnf
  refine (wait37 s7.box (by decide) (by decide) (by decide) (n := 1) (by decide)).mono ?_
  rintro _ h8 ⟨eh, rfl⟩
  subst eh
  conv => whnf
  refine (wait37 s7.box (by decide) (by decide) (by decide) (n := 2) (by decide)).mono ?_
  rintro _ h8 ⟨eh, rfl⟩
  subst eh
  conv => whnf
  refine (wait37 s7.box (by decide) (by decide) (by decide) (n := -1) (by decide)).mono ?_
  rintro _ h8 ⟨eh, rfl⟩
  subst eh
  conv => whnf
  obtain ⟨l5, n5⟩ := laid_row h8 [7]
  refine (ints33 (ra5.get n5).is l5 (by decide)).mono ?_
  rintro _ h9 ⟨eh, rfl⟩
  subst eh
  conv => whnf
  obtain ⟨l6, n6⟩ := laid_row (h8.push (.row true 1 (ints .i64 [7]))) [7]
  refine (ints33 ((ro7.get n5).get n6).is l6 (by decide)).mono ?_
  rintro _ h9 ⟨eh, rfl⟩
  subst eh
  conv => whnf
  have s8 := (s7.old n5).old n6
  refine (len25 s8).mono ?_
  rintro _ h9 ⟨eh, rfl⟩
  subst eh
  conv => whnf
  refine (len25n _).mono ?_
  rintro _ h9 ⟨eh, rfl⟩
  subst eh
  conv => whnf
  refine (wait37n _ 1).mono ?_
  rintro _ h9 ⟨eh, rfl⟩
  subst eh
  conv => whnf
  rfl
end Go.Proofs.Ytpefdmidfllhoaa
