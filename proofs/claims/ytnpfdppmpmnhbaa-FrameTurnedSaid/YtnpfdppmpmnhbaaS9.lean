/- The law OctetsRead. -/
import Derived.Test.YtnpfdppmpmnhbaaS8
import Derived.Test.YtnpfdppmpmnhbaaAb19
set_option linter.unusedVariables false
namespace Go.Proofs.Ytnpfdppmpmnhbaa
open Go Go.Ab
def Prs (h : H) (p : Option (Nat × Nat)) (n : Nat) (ps : List (Int × Int)) : Prop := RoSl h p n 2 (pairs .i64 ps)
theorem Prs.len {h : H} {p : Option (Nat × Nat)} {n : Nat} {ps : List (Int × Int)} (o : Prs h p n ps) : n = ps.length := by
  have := o.1
  rw [pairs_length] at this
  omega
theorem Prs.cell {h : H} {p : Option (Nat × Nat)} {n : Nat} {ps : List (Int × Int)} (o : Prs h p n ps) {j : Nat} (hj : j < n) : ∃ i c, p = some (i, c) ∧ Cell h i (c + j * 2 + 0 * 1) (i64 (ps.getD j (0, 0)).1) ∧ Cell h i (c + j * 2 + 1 * 1) (i64 (ps.getD j (0, 0)).2) := by
  have := o.len
  subst this
  obtain ⟨i, c, rfl⟩ := RoSl.some o (by omega)
  obtain ⟨h1, h2⟩ := pairs_get0 .i64 ps j hj
  refine ⟨i, c, rfl, RoSl.cell o h1, ?_⟩
  have := RoSl.cell o h2
  rwa [← Nat.add_assoc] at this

theorem read4 {h : H} {p q : Option (Nat × Nat)} {n m : Nat} {xs : List Int} {ps : List (Int × Int)} (o : Oct h p n xs) (ho : ∀ x ∈ xs, 0 ≤ x ∧ x < 256) (op : Prs h q m ps) :
    ACalls Try.prog 4 [.sl p n, .sl q m] h (fun r _ => r = .bool true) := by
  have hl := o.len
  subst hl
  have hl := op.len
  subst hl
  refine call_ Try.func4 rfl rfl (by kernel_rfl) ?_
  conv => whnf
  refine br_mk (fun hb => ?_) (fun hb => ?_)
  · conv => whnf
    refine (awake18 h).mono ?_
    rintro _ h' ⟨rfl, _⟩
    conv => whnf
  conv => whnf
  refine br_mk (fun hc => ?_) (fun hc => ?_)
  · conv => whnf
    refine (awake18 h).mono ?_
    rintro _ h' ⟨rfl, _⟩
    conv => whnf
  conv => whnf
  simp at hb hc
  refine (read24 o (by omega)).mono ?_
  rintro _ h1 ⟨g, rfl, hg, r1, m1⟩
  conv => whnf
  have m2 := Mod.push none_ h1 (.row true 2 [.sl p xs.length, .bool false])
  have r2 := r1.get m2 (fun k => k)
  have r3 : Rdr (h1.push (.row true 2 [.sl p xs.length, .bool false])) h1.next xs false := ⟨p, _, H.obj_push_new _ _, (o.get m1).get m2⟩
  have op2 : Prs (h1.push (.row true 2 [.sl p xs.length, .bool false])) q ps.length ps := (RoSl.get op m1).get m2
  have hgg : g ≠ h1.next := Nat.ne_of_lt r1.lt
  generalize h1.next = g' at *
  refine ⟨fun env hh => ∃ (j : Nat) (z : Int) (ys : List Int) (sp : Bool), j ≤ ps.length ∧ z = j ∧ ys.length ≤ xs.length ∧ (∀ x ∈ ys, 0 ≤ x ∧ x < 256) ∧ Rdr hh g ys sp ∧ Rdr hh g' ys sp ∧ Prs hh q ps.length ps ∧ env = [(7, i64 z), (6, .ptr (some (g', 0))), (5, .ptr (some (g, 0))), (1, .sl q ps.length)],
      fun env _ => match get env 7 with
        | .int _ z => (ps.length - z).toNat
        | _ => 0, ⟨_, Forget.cons rfl (Forget.cons rfl (Forget.cons rfl (Forget.cons rfl (Forget.nil _)))), 0, _, xs, false, Nat.zero_le _, rfl, Nat.le_refl _, ho, r2, r3, op2, rfl⟩, ?_⟩
  rintro _ h2 ⟨j, z, ys, sp, hj, rfl, hl, hy, r4, r5, op4, rfl⟩
  conv => whnf
  refine br_mk (fun hd => ?_) (fun hd => ?_)
  rotate_left
  · conv => whnf
    refine (awake18 h2).mono ?_
    rintro _ h' ⟨rfl, _⟩
    conv => whnf
  conv => whnf
  simp at hd
  obtain ⟨i, c, rfl, c0, c1⟩ := op4.cell hd
  refine ⟨i, c, j, rfl, rfl, hd, ?_⟩
  conv => whnf
  refine ⟨0, rfl, by decide, ?_⟩
  conv => whnf
  refine ⟨_, c0, ?_⟩
  conv => whnf
  refine ⟨by decide, ?_⟩
  conv => whnf
  refine br_mk (fun he => ?_) (fun he => ?_)
  · conv => whnf
    refine ⟨[0, 1, 2, 3, 4, 5, 7, 8, 9, 10, 11, 12, 6, 13, 14], [0, 0, 0, 6, 14, 30, 63, 0, 0, 0, 768, 1792, 3840, 8191, 16383], by kernel_rfl, ?_⟩
    conv => whnf
    refine ⟨i, c, j, rfl, rfl, hd, ?_⟩
    conv => whnf
    refine ⟨1, rfl, by decide, ?_⟩
    conv => whnf
    refine ⟨_, c1, ?_⟩
    conv => whnf
    refine ⟨i, c, j, rfl, rfl, hd, ?_⟩
    conv => whnf
    refine ⟨1, rfl, by decide, ?_⟩
    conv => whnf
    refine ⟨_, c1, ?_⟩
    conv => whnf
    refine (num25 r4 (by omega) _).mono ?_
    rintro _ h3 ⟨rfl, r6, m3⟩
    conv => whnf
    have op6 : Prs h3 _ _ ps := RoSl.get op4 m3
    obtain ⟨i', c', e', d0, d1⟩ := op6.cell hd
    injection e' with e'
    injection e' with e1 e2
    subst e1 e2
    refine ⟨?_, ?_⟩
    · conv => whnf
      exact ⟨_, d1, rfl⟩
    conv => whnf
    have r7 := r5.get m3 (fun k => hgg k.symm)
    refine (num26 r7 (by omega) _).mono ?_
    rintro _ h4 ⟨rfl, r8, m4⟩
    conv => whnf
    have r9 := r6.get m4 hgg
    have op7 : Prs h4 _ _ ps := RoSl.get op6 m4
    refine br_mk (fun hf => ?_) (fun hf => ?_)
    · simp at hf
    conv => whnf
    generalize hkk : numK (ps.getD j (0, 0)).snd = kk at *
    have hl2 : (rawX ys sp kk).length ≤ xs.length := by
      rw [rawX]
      split
      · simp
        omega
      · exact hl
    have hy2 : ∀ x ∈ rawX ys sp kk, 0 ≤ x ∧ x < 256 := by
      rw [rawX]
      split
      · exact fun x hx => hy x (List.mem_of_mem_drop hx)
      · exact hy
    refine (left29 r9).mono ?_
    rintro _ h5 ⟨eh, rfl⟩
    subst h5
    conv => whnf
    refine (left30 r8).mono ?_
    rintro _ h5 ⟨eh, rfl⟩
    subst h5
    conv => whnf
    refine br_mk (fun hf => ?_) (fun hf => ?_)
    · simp at hf
    conv => whnf
    refine (done31 r9).mono ?_
    rintro _ h5 ⟨eh, rfl⟩
    subst h5
    conv => whnf
    refine (done32 r8).mono ?_
    rintro _ h5 ⟨eh, rfl⟩
    subst h5
    conv => whnf
    refine br_mk (fun hf => ?_) (fun hf => ?_)
    · cases hdv : doneV (rawX ys sp kk) (!rawOk ys sp kk) <;> simp [hdv] at hf
    conv => whnf
    refine ⟨_, Forget.cons rfl (Forget.cons rfl (Forget.cons rfl (Forget.cons rfl (Forget.nil _)))), ⟨j + 1, _, _, _, by omega, succ_i64 hd (by omega), hl2, hy2, r9, r8, op7, rfl⟩, ?_⟩
    show (ps.length - IntKind.i64.wrap ((j : Int) + 1)).toNat < (ps.length - (j : Int)).toNat
    rw [succ_i64 (n := ps.length) (by omega) (by omega)]
    omega
  · conv => whnf
    refine ⟨[0, 1, 2, 3, 4, 5, 8, 9, 10, 11, 12, 13, 6, 7, 14, 15, 16], [0, 0, 0, 6, 14, 30, 63, 127, 0, 0, 0, 1536, 3584, 7680, 16255, 32639, 65535], by kernel_rfl, ?_⟩
    conv => whnf
    refine ⟨i, c, j, rfl, rfl, hd, ?_⟩
    conv => whnf
    refine ⟨1, rfl, by decide, ?_⟩
    conv => whnf
    refine ⟨_, c1, ?_⟩
    conv => whnf
    refine ⟨i, c, j, rfl, rfl, hd, ?_⟩
    conv => whnf
    refine ⟨1, rfl, by decide, ?_⟩
    conv => whnf
    refine ⟨_, c1, ?_⟩
    conv => whnf
    refine (raw27 r4 (by omega) _).mono ?_
    rintro _ h3 ⟨q3, l3, rfl, o3, r6, m3⟩
    conv => whnf
    have op6 : Prs h3 _ _ ps := RoSl.get op4 m3
    obtain ⟨i', c', e', d0, d1⟩ := op6.cell hd
    injection e' with e'
    injection e' with e1 e2
    subst e1 e2
    refine ⟨?_, ?_⟩
    · conv => whnf
      exact ⟨_, d1, rfl⟩
    conv => whnf
    generalize hkk : (ps.getD j (0, 0)).snd = kk at *
    have hy3 : ∀ x ∈ rawV ys sp kk, 0 ≤ x ∧ x < 256 := by
      rw [rawV]
      split
      · exact fun x hx => hy x (List.mem_of_mem_take hx)
      · exact fun x hx => by cases hx
    refine ⟨_, o3.is, hy3, ?_⟩
    conv => whnf
    have r7 := r5.get m3 (fun k => hgg k.symm)
    refine (raw28 r7 (by omega) _).mono ?_
    rintro _ h4 ⟨q4, l4, rfl, o4, r8, m4⟩
    conv => whnf
    have r9 := r6.get m4 hgg
    have op7 : Prs h4 _ _ ps := RoSl.get op6 m4
    refine ⟨?_, ?_⟩
    · conv => whnf
      exact ⟨_, (o3.get m4).is, hy3, rfl⟩
    conv => whnf
    refine ⟨_, o4.is, hy3, ?_⟩
    conv => whnf
    refine br_mk (fun hf => ?_) (fun hf => ?_)
    · simp at hf
    conv => whnf
    have hl2 : (rawX ys sp kk).length ≤ xs.length := by
      rw [rawX]
      split
      · simp
        omega
      · exact hl
    have hy2 : ∀ x ∈ rawX ys sp kk, 0 ≤ x ∧ x < 256 := by
      rw [rawX]
      split
      · exact fun x hx => hy x (List.mem_of_mem_drop hx)
      · exact hy
    refine (left29 r9).mono ?_
    rintro _ h5 ⟨eh, rfl⟩
    subst h5
    conv => whnf
    refine (left30 r8).mono ?_
    rintro _ h5 ⟨eh, rfl⟩
    subst h5
    conv => whnf
    refine br_mk (fun hf => ?_) (fun hf => ?_)
    · simp at hf
    conv => whnf
    refine (done31 r9).mono ?_
    rintro _ h5 ⟨eh, rfl⟩
    subst h5
    conv => whnf
    refine (done32 r8).mono ?_
    rintro _ h5 ⟨eh, rfl⟩
    subst h5
    conv => whnf
    refine br_mk (fun hf => ?_) (fun hf => ?_)
    · cases hdv : doneV (rawX ys sp kk) (!rawOk ys sp kk) <;> simp [hdv] at hf
    conv => whnf
    refine ⟨_, Forget.cons rfl (Forget.cons rfl (Forget.cons rfl (Forget.cons rfl (Forget.nil _)))), ⟨j + 1, _, _, _, by omega, succ_i64 hd (by omega), hl2, hy2, r9, r8, op7, rfl⟩, ?_⟩
    show (ps.length - IntKind.i64.wrap ((j : Int) + 1)).toNat < (ps.length - (j : Int)).toNat
    rw [succ_i64 (n := ps.length) (by omega) (by omega)]
    omega
end Go.Proofs.Ytnpfdppmpmnhbaa
