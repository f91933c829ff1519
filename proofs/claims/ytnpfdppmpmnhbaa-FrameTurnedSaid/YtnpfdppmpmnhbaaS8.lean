/- The first law's own check. -/
import Derived.Test.YtnpfdppmpmnhbaaS7
set_option linter.unusedVariables false
namespace Go.Proofs.Ytnpfdppmpmnhbaa
open Go Go.Ab
theorem wtr_new (h : H) : WtrP (h.push (.row true 2 [.sl none 0, .bool false])) h.next none [] false :=
  ⟨H.obj_push_new _ _, SlIs.nil _ _ _, fun _ _ e => by cases e⟩
theorem row_nums {h : H} {S : Nat → Prop} {vs : List Int} {i n : Nat} {o : Bool} (hi : h.obj i = some (.row o 1 (ints .i64 vs))) (hn : vs.length = n) (hs : ¬ S i) : Nums S h (some (i, 0)) n vs :=
  ⟨(SlIs.row (n := n) hi (by rw [ints_length, hn, Nat.mul_one])).weak, .inr (fun j o' e => .inl (by
    injection e with e
    injection e with e
    rw [← e]
    exact hs))⟩
theorem octs_in (xs : List Int) (hx : (xs.all fun x => decide (0 ≤ x) && decide (x < 256)) = true) : ∀ x ∈ xs, 0 ≤ x ∧ x < 256 := by
  intro x h
  rw [List.all_eq_true] at hx
  have := hx x h
  simp at this
  exact this
theorem awake18 (h : H) : ACalls Try.prog 18 [] h (fun r h' => r = .bool true ∧ Ab.Mod none_ h h') := by
  refine call_ Try.func18 rfl rfl (by kernel_rfl) ?_
  conv => whnf
  have w0 := wtr_new h
  have m0 := Mod.push none_ h (.row true 2 [.sl none 0, .bool false])
  have w1 := w0.get (Mod.push none_ _ (.row true 1 (ints .i64 [1, 258]))) (fun _ k => k.elim)
  refine (nums19 w1 (vs := [1, 258]) (row_nums (H.obj_push_new _ _) rfl ?_) (by decide) (by decide) 2).mono ?_
  · rintro (k | ⟨o, k⟩)
    · exact absurd k (by simp [H.push])
    · cases k
  rintro _ h2 ⟨rfl, p2, w2, f2, m2⟩
  conv => whnf
  have e2 : numsV 2 [1, 258] [] false = ([0, 1, 1, 2], false) := by decide +kernel
  rw [e2] at w2
  have fn2 : ∀ i, i < h.next → ¬ foot h.next p2 i := by
    rintro i hi (k | ⟨o, k⟩)
    · unfold one at *
      omega
    · rcases f2 i o k with k | k
      · rw [‹p2 = some (i, o)›] at k
        cases k
      · have : h.next + 1 + 1 ≤ i := k
        omega
  have n2 : Ab.Mod none_ h h2 := (m0.trans' (Mod.push none_ _ (.row true 1 (ints .i64 [1, 258]))) (S2 := none_) (fun _ _ k => k) (fun _ _ k => k)).trans' m2 (fun _ _ k => k) (fun i hi k => by
    rcases k with k | ⟨o, k⟩
    · exact absurd k (by omega)
    · cases k)
  have w3 := w2.get (Mod.push none_ _ (.row true 1 (ints .u8 [9]))) (fun _ k => k.elim)
  refine (raw22 w3 (ys := [9]) (SlIs.row (n := 1) (H.obj_push_new _ _) rfl).weak (by decide) (by decide)).mono ?_
  rintro _ h4 ⟨rfl, p4, w4, f4, m4⟩
  conv => whnf
  have w4 : WtrP h4 h.next p4 [0, 1, 1, 2, 9] false := w4
  have n4 : Ab.Mod none_ h h4 := (n2.trans' (Mod.push none_ _ (.row true 1 (ints .u8 [9]))) (S2 := none_) (fun _ _ k => k) (fun _ _ k => k)).trans' m4 (fun _ _ k => k) (fun i hi k => absurd k (fn2 i hi))
  refine (bytes23_ok w4 (by decide)).mono ?_
  rintro _ h5 ⟨q5, rfl, o5, m5⟩
  have n5 : Ab.Mod none_ h h5 := n4.trans' m5 (fun _ _ k => k) (fun _ _ k => k)
  conv => whnf
  refine ⟨_, rfl, ?_⟩
  conv => whnf
  refine ⟨_, rfl, ?_⟩
  conv => whnf
  clear w0 m0 w1 w2 m2 f2 w3 w4 m4 f4 m5 n2 n4 fn2
  -- an eight octet number
  have w0 := wtr_new h5
  have m0 := Mod.push none_ h5 (.row true 2 [.sl none 0, .bool false])
  refine (nums19 w0 (vs := []) (q := none) (m := 0) ⟨SlIs.nil _ _ _, .inl rfl⟩ (by decide) (by decide) 8).mono ?_
  rintro _ h6 ⟨rfl, p6, w6, f6, m6⟩
  conv => whnf
  have n6 : Ab.Mod none_ h5 h6 := m0.trans' m6 (fun _ _ k => k) (fun i hi k => by
    rcases k with k | ⟨o, k⟩
    · exact absurd k (by omega)
    · cases k)
  have e6 : numsV 8 [] [] false = ([], true) := by decide +kernel
  rw [e6] at w6
  refine (bytes23_bad w6 (by decide)).mono ?_
  rintro _ h7 ⟨q7, rfl, m7⟩
  conv => whnf
  refine ⟨_, rfl, ?_⟩
  conv => whnf
  refine ⟨_, rfl, ?_⟩
  conv => whnf
  have n7 : Ab.Mod none_ h h7 := (n5.trans' n6 (S2 := none_) (fun _ _ k => k) (fun _ _ k => k)).trans' m7 (fun _ _ k => k) (fun _ _ k => k)
  have o7 := (o5.get n6).get m7
  refine (read24 o7 (by decide)).mono ?_
  rintro _ h8 ⟨g, rfl, hg, r8, m8⟩
  conv => whnf
  refine (num25 r8 (by decide) 2).mono ?_
  rintro v9 h9 ⟨e9, r9, m9⟩
  obtain rfl : v9 = i64 1 := e9.trans (congrArg i64 (by decide +kernel))
  have r9 : Rdr h9 g [1, 2, 9] false := r9
  conv => whnf
  refine (num25 r9 (by decide) 2).mono ?_
  rintro v10 h10 ⟨e10, r10, m10⟩
  obtain rfl : v10 = i64 258 := e10.trans (congrArg i64 (by decide +kernel))
  have r10 : Rdr h10 g [9] false := r10
  conv => whnf
  refine (raw27 r10 (by decide) 1).mono ?_
  rintro _ h11 ⟨q11, l11, rfl, o11, r11, m11⟩
  have r11 : Rdr h11 g [] false := r11
  have o11 : Oct h11 q11 l11 [9] := o11
  have l11' := o11.len
  subst l11'
  conv => whnf
  refine (done31 r11).mono ?_
  rintro _ h12 ⟨eh, rfl⟩
  subst h12
  conv => whnf
  refine (num25 r11 (by decide) 1).mono ?_
  rintro v12 h12 ⟨e12, r12, m12⟩
  obtain rfl : v12 = i64 0 := e12.trans (congrArg i64 (by decide +kernel))
  have r12 : Rdr h12 g [] true := r12
  conv => whnf
  have m13 := Mod.push none_ h12 (.row true 1 (ints .i64 [1]))
  have r13 := r12.get m13 (fun k => k)
  refine (nums19n _ _ _).mono ?_
  rintro _ h13 ⟨rfl, eh⟩
  subst h13
  conv => whnf
  refine (bytes23n _).mono ?_
  rintro _ h13 ⟨rfl, eh⟩
  subst h13
  conv => whnf
  refine ⟨_, rfl, ?_⟩
  conv => whnf
  refine ⟨_, rfl, ?_⟩
  conv => whnf
  have o13 := (((((o7.get m8).get m9).get m10).get m11).get m12).get m13
  refine ⟨_, o13.is, octs_in _ (by decide), ?_⟩
  conv => whnf
  have o13' := (o11.get m12).get m13
  refine ⟨_, o13'.is, octs_in _ (by decide), ?_⟩
  conv => whnf
  refine (done31 r13).mono ?_
  rintro _ h14 ⟨eh, rfl⟩
  subst h14
  conv => whnf
  refine (num25n _).mono ?_
  rintro _ h14 ⟨rfl, eh⟩
  subst h14
  conv => whnf
  refine (done31n _).mono ?_
  rintro _ h14 ⟨rfl, eh⟩
  subst h14
  conv => whnf
  refine ⟨rfl, ?_⟩
  have n8 := n7.trans' m8 (S2 := none_) (fun _ _ k => k) (fun _ _ k => k)
  have hg' : ∀ i, i < h.next → one g i → none_ i := fun i hi k => by
    have := n7.next
    unfold one at k
    omega
  exact ((((n8.trans' m9 (S2 := none_) (fun _ _ k => k) hg').trans' m10 (S2 := none_) (fun _ _ k => k) hg').trans' m11 (S2 := none_) (fun _ _ k => k) hg').trans' m12 (S2 := none_) (fun _ _ k => k) hg').trans' m13 (fun _ _ k => k) (fun _ _ k => k)
end Go.Proofs.Ytnpfdppmpmnhbaa
