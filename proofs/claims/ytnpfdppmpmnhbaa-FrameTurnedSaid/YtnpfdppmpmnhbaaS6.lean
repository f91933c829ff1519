/- The writers: Nums, Raw, Bytes. -/
import Derived.Test.YtnpfdppmpmnhbaaS5
set_option linter.unusedVariables false
namespace Go.Proofs.Ytnpfdppmpmnhbaa
open Go Go.Ab
/-- slice of numbers, read only here -/
def Nums (S : Nat → Prop) (h : H) (p : Option (Nat × Nat)) (n : Nat) (vs : List Int) : Prop :=
  SlIs h p n false 1 (ints .i64 vs) ∧ (n = 0 ∨ ∀ i o, p = some (i, o) → ¬ S i ∨ ∃ ob, h.obj i = some ob ∧ ob.own = false)
theorem Nums.len {S : Nat → Prop} {h : H} {p : Option (Nat × Nat)} {n : Nat} {xs : List Int} (o : Nums S h p n xs) : n = xs.length := by
  have := o.1.1
  rw [ints_length] at this
  omega
theorem Nums.get {S : Nat → Prop} {h h' : H} {p : Option (Nat × Nat)} {n : Nat} {xs : List Int} (o : Nums S h p n xs) (m : Ab.Mod S h h') : Nums S h' p n xs := by
  rcases o.2 with rfl | o2
  · exact ⟨⟨o.1.1, .inl ⟨rfl, .inr rfl⟩⟩, .inl rfl⟩
  refine ⟨o.1.get m o2, .inr (fun i j e => ?_)⟩
  rcases o2 i j e with k | ⟨ob, k1, k2⟩
  · exact .inl k
  · exact .inr ⟨ob, m.get k1 (.inr k2), k2⟩
theorem SlIs.cell {h : H} {p : Option (Nat × Nat)} {n sz : Nat} {own : Bool} {cs : List V} (s : SlIs h p n own sz cs) {j : Nat} {v : V} (hj : cs[j]? = some v) : ∃ i c, p = some (i, c) ∧ Cell h i (c + j) v := by
  obtain ⟨hl, hr⟩ := s
  have hjl := (List.getElem?_eq_some_iff.1 hj).1
  rcases hr with ⟨rfl, _⟩ | ⟨i', o', b, r, e1, e2, e3, e4, e5⟩
  · omega
  · refine ⟨i', o', e1, b, sz, r, e2, ?_⟩
    rw [← e5, List.getElem?_take, if_pos (by omega), List.getElem?_drop] at hj
    exact hj
theorem Nums.cell {S : Nat → Prop} {h : H} {p : Option (Nat × Nat)} {n : Nat} {xs : List Int} (o : Nums S h p n xs) {j : Nat} (hj : j < n) : ∃ i c, p = some (i, c) ∧ Cell h i (c + j * 1) (i64 (xs.getD j 0)) := by
  have := o.len
  rw [Nat.mul_one]
  exact SlIs.cell o.1 (ints_get (by omega))
theorem Nums.of_ro {S : Nat → Prop} {h : H} {p : Option (Nat × Nat)} {n : Nat} {vs : List Int} (o : RoSl h p n 1 (ints .i64 vs)) : Nums S h p n vs := by
  refine ⟨o.is, ?_⟩
  rcases o.2 with k | ⟨i, c, r, rfl, k, _⟩
  · exact .inl k
  · refine .inr (fun i' c' e => .inr ?_)
    injection e with e
    injection e with e1 e2
    subst e1
    exact ⟨_, k, rfl⟩
def small (k : Int) : Bool := decide (k < 1) || decide (7 < k)
def bad (k v : Int) : Bool := decide (v < 0) || decide (0 < shr_ v k)
def numsGo (k : Int) : List Int → List Int → Bool → List Int × Bool
  | [], xs, sp => (xs, sp)
  | v :: vs, xs, sp => if bad k v then (xs, true) else numsGo k vs (xs ++ be v k.toNat) sp
def numsV (k : Int) (vs xs : List Int) (sp : Bool) : List Int × Bool := if small k then (xs, true) else numsGo k vs xs sp
theorem drop_cons {xs : List Int} {j : Nat} (h : j < xs.length) : xs.drop j = xs.getD j 0 :: xs.drop (j + 1) := by
  rw [List.drop_eq_getElem_cons h, List.getD_eq_getElem?_getD, List.getElem?_eq_getElem h]
  rfl
theorem be_length (v : Int) (n : Nat) : (be v n).length = n := by
  induction n with
  | zero => rfl
  | succ n ih => simp [be, ih]

theorem nums19 {h : H} {g : Nat} {p : Option (Nat × Nat)} {xs : List Int} {sp : Bool} (w : WtrP h g p xs sp) {q : Option (Nat × Nat)} {m : Nat} {vs : List Int} (hv : Nums (foot g p) h q m vs) (hx : xs.length ≤ 1000000) (hm : vs.length ≤ 1000000) (k : Int) :
    ACalls Try.prog 19 [.ptr (some (g, 0)), i64 k, .sl q m] h (fun r h' => r = .ptr (some (g, 0)) ∧ WtrQ h g p (numsV k vs xs sp).1 (numsV k vs xs sp).2 h') := by
  have hml := hv.len
  subst hml
  refine call_ Try.func19 rfl rfl (by kernel_rfl) ?_
  conv => whnf
  refine br_mk (fun hb => ?_) (fun hb => ?_)
  · conv => whnf
    refine ⟨_, _, w.1, Nat.le_of_ble_eq_true rfl, ?_⟩
    conv => whnf
    have : small k = true := by
      simp at hb
      simp [small, hb]
    rw [numsV, if_pos this]
    exact ⟨rfl, w.spoil _⟩
  conv => whnf
  refine br_mk (fun hc => ?_) (fun hc => ?_)
  · conv => whnf
    refine ⟨_, _, w.1, Nat.le_of_ble_eq_true rfl, ?_⟩
    conv => whnf
    have : small k = true := by
      simp at hc
      simp [small, hc]
    rw [numsV, if_pos this]
    exact ⟨rfl, w.spoil _⟩
  conv => whnf
  simp at hb hc
  have hsm : small k = false := by simp [small]; omega
  rw [numsV, hsm, if_neg (by decide)]
  obtain ⟨n, rfl⟩ : ∃ n : Nat, k = n := ⟨k.toNat, by omega⟩
  refine ⟨fun env hh => ∃ (j : Nat) (z : Int) (p' : Option (Nat × Nat)) (ys : List Int), j ≤ vs.length ∧ z = j ∧ ys.length ≤ xs.length + 7 * j ∧ numsGo n (vs.drop j) ys sp = numsGo n vs xs sp ∧ WtrP hh g p' ys sp ∧ isFresh h p p' ∧ Ab.Mod (foot g p) h hh ∧ env = [(24, i64 z), (23, i64 vs.length), (22, .sl q vs.length), (1, i64 n), (0, .ptr (some (g, 0)))],
      fun env _ => match get env 24 with
        | .int _ z => (vs.length - z).toNat
        | _ => 0, ⟨_, Forget.cons rfl (Forget.cons rfl (Forget.cons rfl (Forget.cons rfl (Forget.cons rfl (Forget.nil _))))), 0, _, p, xs, Nat.zero_le _, rfl, Nat.le_refl _, rfl, w, isFresh.refl _ _, ⟨Nat.le_refl _, fun _ _ _ => rfl⟩, rfl⟩, ?_⟩
  rintro _ h1 ⟨j, z, p', ys, hj, rfl, hl, hy, w1, f1, m1, rfl⟩
  conv => whnf
  refine br_mk (fun hf => ?_) (fun hf => ?_)
  rotate_left
  · conv => whnf
    simp at hf
    obtain rfl : j = vs.length := by omega
    rw [← hy, List.drop_length]
    exact ⟨rfl, p', w1, f1, m1⟩
  conv => whnf
  simp at hf
  have hv1 := hv.get m1
  obtain ⟨i, c, rfl, hc1⟩ := hv1.cell hf
  refine ⟨i, c, j, rfl, rfl, hf, ?_⟩
  conv => whnf
  refine ⟨_, hc1, ?_⟩
  conv => whnf
  rw [drop_cons hf, numsGo] at hy
  generalize hve : vs.getD j 0 = v at *
  refine br_mk (fun hd => ?_) (fun hd => ?_)
  · conv => whnf
    refine ⟨_, _, w1.1, Nat.le_of_ble_eq_true rfl, ?_⟩
    conv => whnf
    have : bad n v = true := by
      simp at hd
      simp [bad, hd]
    rw [this, if_pos rfl] at hy
    rw [← hy]
    exact ⟨rfl, WtrQ.trans f1 m1 (w1.spoil _)⟩
  conv => whnf
  have h8 := wrap8 (i := n) (by omega) (by omega)
  refine ⟨by rw [h8]; omega, ?_⟩
  conv => whnf
  refine br_mk (fun he => ?_) (fun he => ?_)
  · conv => whnf
    refine ⟨_, _, w1.1, Nat.le_of_ble_eq_true rfl, ?_⟩
    conv => whnf
    have : bad n v = true := by
      have he : decide (shr_ v n > 0) = true := he
      simp [bad]
      simp at he
      omega
    rw [this, if_pos rfl] at hy
    rw [← hy]
    exact ⟨rfl, WtrQ.trans f1 m1 (w1.spoil _)⟩
  conv => whnf
  have : bad n v = false := by
    have he : decide (shr_ v n > 0) = false := he
    simp at he hd
    simp [bad]
    omega
  rw [this, if_neg (by decide)] at hy
  refine ⟨fun env hh => ∃ (r : Nat) (z : Int) (p2 : Option (Nat × Nat)) (zs : List Int), r ≤ n ∧ z = (r : Int) - 1 ∧ zs.length + r = ys.length + n ∧ zs ++ be v r = ys ++ be v n ∧ WtrP hh g p2 zs sp ∧ isFresh h p p2 ∧ Ab.Mod (foot g p) h hh ∧ env = [(9, i64 z), (8, i64 v), (24, i64 j), (23, i64 vs.length), (22, .sl (some (i, c)) vs.length), (1, i64 n), (0, .ptr (some (g, 0)))],
      fun env _ => match get env 9 with
        | .int _ z => (z + 1).toNat
        | _ => 0, ⟨_, Forget.cons rfl (Forget.cons rfl (Forget.cons rfl (Forget.cons rfl (Forget.cons rfl (Forget.cons rfl (Forget.cons rfl (Forget.nil _))))))), n, _, p', ys, Nat.le_refl _, wrap_i64 (by omega) (by omega), rfl, rfl, w1, f1, m1, rfl⟩, ?_⟩
  rintro _ h2 ⟨r, z, p2, zs, hr, hz, hl2, hy2, w2, f2, m2, rfl⟩
  conv => whnf
  refine br_mk (fun hf => ?_) (fun hf => ?_)
  · conv => whnf
    simp at hf
    obtain ⟨r, rfl⟩ : ∃ r', r = r' + 1 := ⟨r - 1, by omega⟩
    have : z = (r : Int) := by omega
    subst this
    refine ⟨[0, 1, 2, 3, 4, 5, 6, 7, 8, 9, 10, 11, 12, 13, 14], [0, 0, 2, 6, 14, 0, 0, 64, 224, 480, 992, 2046, 4095, 8191, 16383], by kernel_rfl, ?_⟩
    conv => whnf
    refine ⟨_, Cell.mk w2.1 rfl, ?_⟩
    conv => whnf
    have h8 := wrap8 (i := r) (by omega) (by omega)
    refine ⟨by rw [h8]; omega, ?_⟩
    conv => whnf
    rw [oneRow]
    refine ⟨_, _, w2.2.1.get (Mod.push none_ _ _) (fun _ _ _ => .inl (fun k => k)), (SlIs.row (n := 1) (H.obj_push_new _ _) rfl).weak, by rw [T5b]; omega, by omega, fun p3 h3 hs hm3 hf3 => ?_⟩
    conv => whnf
    obtain ⟨e3, q3⟩ := w2.app (ys := [oct v r]) (Mod.push none_ _ _) hs hm3 hf3
    refine ⟨_, _, e3, Nat.le_of_ble_eq_true rfl, ?_⟩
    conv => whnf
    have q4 : WtrQ h g p (zs ++ [oct v r]) sp _ := WtrQ.trans f2 m2 q3
    obtain ⟨p4, w4, f4, m4⟩ := q4
    refine ⟨_, Forget.cons rfl (Forget.cons rfl (Forget.cons rfl (Forget.cons rfl (Forget.cons rfl (Forget.cons rfl (Forget.cons rfl (Forget.nil _))))))), ⟨r, _, p4, _, by omega, wrap_i64 (by omega) (by omega), ?_, ?_, w4, f4, m4, rfl⟩, ?_⟩
    · simp
      omega
    · rw [← hy2]
      simp [be]
    · show (IntKind.i64.wrap ((r : Int) - 1) + 1).toNat < ((r : Int) + 1).toNat
      rw [wrap_i64 (by omega) (by omega)]
      omega
  · conv => whnf
    simp at hf
    obtain rfl : r = 0 := by omega
    simp [be] at hy2
    subst hy2
    refine ⟨_, Forget.cons rfl (Forget.cons rfl (Forget.cons rfl (Forget.cons rfl (Forget.cons rfl (Forget.nil _))))), ⟨j + 1, _, p2, _, by omega, succ_i64 (n := vs.length) (by omega) (by omega), ?_, hy, w2, f2, m2, rfl⟩, ?_⟩
    · rw [List.length_append, be_length]
      omega
    · show (vs.length - IntKind.i64.wrap ((j : Int) + 1)).toNat < (vs.length - (j : Int)).toNat
      rw [succ_i64 (n := vs.length) (by omega) (by omega)]
      omega
end Go.Proofs.Ytnpfdppmpmnhbaa
