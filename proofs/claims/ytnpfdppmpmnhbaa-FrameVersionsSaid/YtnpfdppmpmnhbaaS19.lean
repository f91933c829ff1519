/- Frames: Wrap of the program. -/
import Derived.Test.YtnpfdppmpmnhbaaS18
import Derived.Test.YtnpfdppmpmnhbaaS15
set_option linter.unusedVariables false
namespace Go.Proofs.Ytnpfdppmpmnhbaa
open Go Go.Ab
theorem rowSl (q : Option (Nat × Nat)) (n : Nat) : Obj.row true (T.at_ 26).size (splice (zerosV 1 (vcells (T.at_ 26).zero)) (0 * (T.at_ 26).size) (vcells (V.sl q n))) = .row true 1 [.sl q n] := rfl
theorem oct_0 (v : Int) : oct v 0 = IntKind.u8.wrap v := by
  have e : shr_ v 0 = v.fdiv 1 := rfl
  rw [oct, e, Int.fdiv_one]
theorem sumV_range (xs : List Int) : 0 ≤ sumV xs ∧ sumV xs < 4294967296 := by
  unfold sumV
  generalize ((BitVec.ofInt IntKind.u32.bits (if IntKind.u32.signed then -1 else IntKind.u32.max) ^^^ BitVec.ofInt IntKind.u32.bits (xs.foldl octet 4294967295)).toNat : Int) = z
  simp [IntKind.wrap, IntKind.bits, IntKind.signed]
  omega
theorem be_sum (c : Int) : be c 4 = sum4 c := by
  have e : be c 4 = [shc c 24, shc c 16, shc c 8, oct c 0] := rfl
  rw [e, oct_0]
  rfl
theorem head_eq (x : Int) (xs : List Int) : flatB 1 [77, 3, x] ++ flatB 2 [(xs.length : Int)] = wrHead x xs := by
  have e : flatB 1 [77, 3, x] ++ flatB 2 [(xs.length : Int)] = [oct 77 0, oct 3 0, oct x 0, IntKind.u8.wrap ((xs.length : Int).fdiv (2 ^ (min (8 : Int).toNat IntKind.i64.bits))), oct xs.length 0] := rfl
  rw [e, oct_0, oct_0, oct_0, oct_0]
  rfl
/-- a writer made since h0 -/
def NewW (h0 h : H) (g : Nat) (p : Option (Nat × Nat)) (xs : List Int) (sp : Bool) : Prop := WtrP h g p xs sp ∧ (∀ i, foot g p i → h0.next ≤ i) ∧ Ab.Mod none_ h0 h
theorem NewW.new (h : H) : NewW h (h.push (.row true 2 [.sl none 0, .bool false])) h.next none [] false := by
  refine ⟨wtr_new h, fun i k => ?_, Mod.push none_ h _⟩
  rcases k with k | ⟨o, k⟩
  · exact Nat.le_of_eq k.symm
  · cases k
theorem NewW.keep {h0 h h' : H} {g : Nat} {p : Option (Nat × Nat)} {xs : List Int} {sp : Bool} (w : NewW h0 h g p xs sp) (m : Ab.Mod none_ h h') : NewW h0 h' g p xs sp :=
  ⟨w.1.get m (fun _ k => k.elim), w.2.1, w.2.2.trans' m (fun _ _ k => k) (fun _ _ k => k)⟩
theorem NewW.step {h0 h h' : H} {g : Nat} {p : Option (Nat × Nat)} {xs ys : List Int} {sp sp' : Bool} (w : NewW h0 h g p xs sp) (q : WtrQ h g p ys sp' h') : ∃ p', NewW h0 h' g p' ys sp' ∧ Ab.Mod none_ h0 h' := by
  obtain ⟨p', w', f, m⟩ := q
  have hn := w.2.2.trans' m (S2 := none_) (fun _ _ k => k) (fun i hi k => by
    have := w.2.1 i k
    omega)
  refine ⟨p', ⟨w', fun i k => ?_, hn⟩, hn⟩
  by_cases hi : i < h.next
  · exact w.2.1 i (foot_fresh f i hi k)
  · have := w.2.2.next
    omega
theorem fit_one {k : Nat} {v : Int} (h0 : 0 ≤ v) (h1 : v < 2 ^ (8 * k)) : Fit k [v] := fun y hy => by
  rw [List.mem_singleton] at hy
  subst hy
  exact ⟨h0, h1⟩
theorem wrap36 {h : H} {p : Option (Nat × Nat)} {n : Nat} {xs : List Int} (o : SlIs h p n false 1 (ints .u8 xs)) (hn : n ≤ maxLen) (x : Int) : ACalls Try.prog 36 [i64 x, .sl p n] h (WrQ x xs h) := by
  have hl := slo_len o
  subst hl
  refine call_ Try.func36 rfl rfl (by kernel_rfl) ?_
  conv => whnf
  refine br_mk (fun hb => ?_) (fun hb => ?_)
  · conv => whnf
    simp at hb
    exact wrQ_bad (by simp [wrBad]; omega) h
  conv => whnf
  refine br_mk (fun hc => ?_) (fun hc => ?_)
  · conv => whnf
    simp at hc
    exact wrQ_bad (by simp [wrBad]; omega) h
  conv => whnf
  refine br_mk (fun hd => ?_) (fun hd => ?_)
  · conv => whnf
    simp at hd
    exact wrQ_bad (by simp [wrBad]; omega) h
  conv => whnf
  simp at hb hc hd
  have hw : wrBad x xs = false := by simp [wrBad]; omega
  have w0 := NewW.new h
  have w1 := w0.keep (Mod.push none_ _ (.row true 1 (ints .i64 [77, 3, x])))
  refine (nums19 w1.1 (vs := [77, 3, x]) (row_nums (H.obj_push_new _ _) rfl ?_) (by simp) (by simp) (1 : Nat)).mono ?_
  · rintro (k | ⟨o, k⟩)
    · exact absurd k (by simp [H.push])
    · cases k
  rintro _ h2 ⟨rfl, q2⟩
  rw [numsV_all (k := 1) (by decide) (by decide) [77, 3, x] [] (fun v hv => by
    have e : (2 : Int) ^ (8 * 1) = 256 := rfl
    rw [e]
    simp at hv
    omega)] at q2
  obtain ⟨p2, w2, _⟩ := w1.step q2
  conv => whnf
  rw [oneNum]
  obtain ⟨w3, nu3⟩ := w2.1.row (xs.length : Int)
  have w3' := w2.keep (Mod.push none_ _ (.row true 1 (ints .i64 [(xs.length : Int)])))
  refine (nums19 w3 nu3 (by simp [flatB, be_length]) (by simp) (2 : Nat)).mono ?_
  rintro _ h4 ⟨rfl, q4⟩
  rw [numsV_all (k := 2) (by decide) (by decide) [(xs.length : Int)] _ (fit_one (by omega) (by
    have e : (2 : Int) ^ (8 * 2) = 65536 := rfl
    rw [e]
    omega))] at q4
  obtain ⟨p4, w4, n4⟩ := w3'.step q4
  have w4 : NewW h h4 h.next p4 (flatB 1 [77, 3, x] ++ flatB 2 [(xs.length : Int)]) false := w4
  rw [head_eq] at w4
  have hh : (wrHead x xs).length = 5 := rfl
  conv => whnf
  have o4 := SlIs.old o n4 (fun _ _ k => k)
  refine (raw22 w4.1 o4 (by omega) (by omega)).mono ?_
  rintro _ h5 ⟨rfl, q5⟩
  obtain ⟨p5, w5, n5⟩ := w4.step q5
  conv => whnf
  have hl5 : (wrHead x xs ++ xs).length ≤ 3000 := by
    rw [List.length_append, hh]
    omega
  refine (bytes23_ok w5.1 (by omega)).mono ?_
  rintro _ h6 ⟨q6, rfl, o6, m6⟩
  have w6 := w5.keep m6
  conv => whnf
  refine ⟨_, rfl, ?_⟩
  conv => whnf
  refine ⟨_, rfl, ?_⟩
  conv => whnf
  generalize hB : wrHead x xs ++ xs = B at *
  rw [rowSl]
  have m7 := Mod.push none_ h6 (.row true 1 [.sl q6 B.length])
  have w7 := w6.keep m7
  refine (sum55 (SlIs.row (n := 1) (H.obj_push_new _ _) rfl).weak (o6.get m7).is (by omega)).mono ?_
  rintro _ h' ⟨eh, rfl⟩
  subst h'
  conv => whnf
  obtain ⟨s0, s1⟩ := sumV_range B
  rw [wrap_i64 (x := sumV B) (by omega) (by omega), oneNum]
  obtain ⟨w8, nu8⟩ := w7.1.row (sumV B)
  have w8' := w7.keep (Mod.push none_ _ (.row true 1 (ints .i64 [sumV B])))
  refine (nums19 w8 nu8 (by omega) (by simp) (4 : Nat)).mono ?_
  rintro _ h9 ⟨rfl, q9⟩
  rw [numsV_all (k := 4) (by decide) (by decide) [sumV B] _ (fit_one (by omega) (by
    have e : (2 : Int) ^ (8 * 4) = 4294967296 := rfl
    rw [e]
    omega))] at q9
  obtain ⟨p9, w9, n9⟩ := w8'.step q9
  have w9 : NewW h h9 h.next p9 (B ++ flatB 4 [sumV B]) false := w9
  have e9 : B ++ flatB 4 [sumV B] = wrOk x xs := by
    rw [wrOk, hB, ← be_sum]
    simp [flatB]
  rw [e9] at w9
  have l9 : (wrOk x xs).length ≤ 1000000 := by
    rw [wrOk, hB, List.length_append]
    have : (sum4 (sumV B)).length = 4 := rfl
    omega
  conv => whnf
  refine (bytes23_ok w9.1 l9).mono ?_
  rintro _ h10 ⟨q10, rfl, o10, m10⟩
  conv => whnf
  refine ⟨_, rfl, ?_⟩
  conv => whnf
  refine ⟨_, rfl, ?_⟩
  conv => whnf
  unfold wrV
  rw [hw]
  exact ⟨q10, rfl, o10, n9.trans' m10 (fun _ _ k => k) (fun _ _ k => k)⟩
end Go.Proofs.Ytnpfdppmpmnhbaa
