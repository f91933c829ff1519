/- M3: several texts in one. -/
import Derived.Test.YtnpfdppmpmnhbaaChecked
import Derived.Test.YtnpfdppmpmnhbaaM2
set_option linter.unusedVariables false
/-! The types of the seat, as a table of one's own; calls. -/
namespace Go.Proofs.Ytnpfdppmpmnhbaa
open Go Go.Ab
def T : TT := [
  (3, ⟨.int .i64, 1, 8, .int .i64 0⟩),
  (26, ⟨.sl 5, 1, 24, .sl none 0⟩),
  (5, ⟨.int .u8, 1, 1, .int .u8 0⟩),
  (4, ⟨.bool, 1, 1, .bool false⟩),
  (98, ⟨.st [(26, 0), (4, 1)], 2, 32, .agg [.sl none 0, .bool false]⟩),
  (46, ⟨.st [(26, 0), (4, 1)], 2, 32, .agg [.sl none 0, .bool false]⟩),
  (28, ⟨.st [(26, 0), (4, 1)], 2, 32, .agg [.sl none 0, .bool false]⟩),
  (31, ⟨.st [(26, 0), (4, 1)], 2, 32, .agg [.sl none 0, .bool false]⟩),
  (32, ⟨.sl 3, 1, 24, .sl none 0⟩),
  (43, ⟨.ptr 98, 1, 8, .ptr none⟩),
  (45, ⟨.ptr 46, 1, 8, .ptr none⟩),
  (25, ⟨.ptr 28, 1, 8, .ptr none⟩),
  (29, ⟨.ptr 31, 1, 8, .ptr none⟩),
  (2, ⟨.int .i64, 1, 8, .int .i64 0⟩),
  (6, ⟨.int .u8, 1, 1, .int .u8 0⟩),
  (7, ⟨.st [(2, 0), (3, 1), (4, 2), (6, 3)], 4, 24, .agg [.int .i64 0, .int .i64 0, .bool false, .int .u8 0]⟩),
  (8, ⟨.st [(2, 0), (3, 1), (4, 2), (6, 3)], 4, 24, .agg [.int .i64 0, .int .i64 0, .bool false, .int .u8 0]⟩),
  (9, ⟨.str, 1, 16, .str []⟩),
  (10, ⟨.str, 1, 16, .str []⟩),
  (11, ⟨.str, 1, 16, .str []⟩),
  (12, ⟨.int .u64, 1, 8, .int .u64 0⟩),
  (13, ⟨.st [(9, 0), (12, 1)], 2, 24, .agg [.str [], .int .u64 0]⟩),
  (14, ⟨.st [(9, 0), (12, 1)], 2, 24, .agg [.str [], .int .u64 0]⟩),
  (21, ⟨.int .i32, 1, 4, .int .i32 0⟩),
  (22, ⟨.sl 34, 1, 24, .sl none 0⟩),
  (27, ⟨.st [(26, 0), (4, 1)], 2, 32, .agg [.sl none 0, .bool false]⟩),
  (30, ⟨.st [(26, 0), (4, 1)], 2, 32, .agg [.sl none 0, .bool false]⟩),
  (33, ⟨.st [(3, 0), (3, 1), (32, 2), (26, 3)], 4, 64, .agg [.int .i64 0, .int .i64 0, .sl none 0, .sl none 0]⟩),
  (34, ⟨.st [(3, 0), (3, 1), (32, 2), (26, 3)], 4, 64, .agg [.int .i64 0, .int .i64 0, .sl none 0, .sl none 0]⟩),
  (39, ⟨.int .i64, 1, 8, .int .i64 0⟩),
  (42, ⟨.sl 47, 1, 24, .sl none 0⟩),
  (47, ⟨.arr 2 3, 2, 16, .agg [.int .i64 0, .int .i64 0]⟩),
  (56, ⟨.int .u32, 1, 4, .int .u32 0⟩),
  (58, ⟨.int .u64, 1, 8, .int .u64 0⟩),
  (68, ⟨.arr 3 3, 3, 24, .agg [.int .i64 0, .int .i64 0, .int .i64 0]⟩),
  (71, ⟨.st [(3, 0), (3, 1), (3, 2), (3, 3)], 4, 32, .agg [.int .i64 0, .int .i64 0, .int .i64 0, .int .i64 0]⟩),
  (72, ⟨.st [(3, 0), (3, 1), (3, 2), (3, 3)], 4, 32, .agg [.int .i64 0, .int .i64 0, .int .i64 0, .int .i64 0]⟩),
  (73, ⟨.st [(3, 0), (3, 1), (3, 2), (32, 3), (3, 4), (72, 5)], 9, 88, .agg [.int .i64 0, .int .i64 0, .int .i64 0, .sl none 0, .int .i64 0, .int .i64 0, .int .i64 0, .int .i64 0, .int .i64 0]⟩),
  (74, ⟨.st [(3, 0), (3, 1), (3, 2), (32, 3), (3, 4), (72, 5)], 9, 88, .agg [.int .i64 0, .int .i64 0, .int .i64 0, .sl none 0, .int .i64 0, .int .i64 0, .int .i64 0, .int .i64 0, .int .i64 0]⟩),
  (86, ⟨.st [(3, 0), (3, 1), (3, 2), (3, 3), (3, 4), (26, 5)], 6, 64, .agg [.int .i64 0, .int .i64 0, .int .i64 0, .int .i64 0, .int .i64 0, .sl none 0]⟩),
  (87, ⟨.st [(3, 0), (3, 1), (3, 2), (3, 3), (3, 4), (26, 5)], 6, 64, .agg [.int .i64 0, .int .i64 0, .int .i64 0, .int .i64 0, .int .i64 0, .sl none 0]⟩),
  (102, ⟨.sl 26, 1, 24, .sl none 0⟩)]
theorem T_chk : tchk Try.prog T = true := by kernel_rfl
theorem hT : TOk Try.prog T := tchk_ok T_chk
theorem hE : EqOk Try.prog T := tchk_eq T_chk
theorem hm : Try.prog.follows .mixedOrders = true := by kernel_rfl
theorem call_ {f : Nat} {fn : Func} {c : Code} {args : List V} {h : H} {Q : V → H → Prop} (hf : Try.prog.funcs[f]? = some fn) (hb : fn.body = some c) (hname : (fn.name == "runtime.NumGoroutine") = false)
    (hok : (codeOk fn.ntmps c && Nat.ble args.length fn.ntmps) = true) (hw : wpC' Try.prog T c (bodyX T fn.results.toList Q) (argsE 0 args) h) : ACalls Try.prog f args h Q :=
  acalls_of' hT hE hm hf hb hname hok hw
end Go.Proofs.Ytnpfdppmpmnhbaa
/-! The readers, one function after the other. -/
namespace Go.Proofs.Ytnpfdppmpmnhbaa
open Go Go.Ab

theorem T5b : (T.at_ 5).bytes = 1 := rfl
theorem T5s : (T.at_ 5).size = 1 := rfl
def Oct (h : H) (p : Option (Nat × Nat)) (n : Nat) (xs : List Int) : Prop := RoSl h p n 1 (ints .u8 xs)
theorem Oct.len {h : H} {p : Option (Nat × Nat)} {n : Nat} {xs : List Int} (o : Oct h p n xs) : n = xs.length := by
  have := o.1
  rw [ints_length] at this
  omega
theorem Oct.get {S : Nat → Prop} {h h' : H} {p : Option (Nat × Nat)} {n : Nat} {xs : List Int} (o : Oct h p n xs) (m : Mod S h h') : Oct h' p n xs := RoSl.get o m
theorem Oct.cut {h : H} {p : Option (Nat × Nat)} {n : Nat} {xs : List Int} (o : Oct h p n xs) {l m : Nat} (h1 : l ≤ m) (h2 : m ≤ n) : Oct h (slp p l) (m - l) ((xs.drop l).take (m - l)) := by
  have := RoSl.cut o h1 h2
  rw [Nat.mul_one, Nat.mul_one, ints_drop, ints_take] at this
  exact this
theorem Oct.nil (h : H) (p : Option (Nat × Nat)) : Oct h p 0 [] := RoSl.nil h p 1

/-- A reader, of either make. -/
def Rdr (h : H) (g : Nat) (xs : List Int) (sp : Bool) : Prop := ∃ p n, h.obj g = some (.row true 2 [.sl p n, .bool sp]) ∧ Oct h p n xs
theorem Rdr.get {S : Nat → Prop} {h h' : H} {g : Nat} {xs : List Int} {sp : Bool} (r : Rdr h g xs sp) (m : Mod S h h') (hs : ¬ S g) : Rdr h' g xs sp := by
  obtain ⟨p, n, h1, h2⟩ := r
  exact ⟨p, n, m.get h1 (.inl hs), h2.get m⟩
def leftV (xs : List Int) (sp : Bool) : Int := if sp then 0 else xs.length
def one (g : Nat) : Nat → Prop := fun i => i = g

theorem left29 {h : H} {g : Nat} {xs : List Int} {sp : Bool} (r : Rdr h g xs sp) : ACalls Try.prog 29 [.ptr (some (g, 0))] h (fun v h' => h' = h ∧ v = i64 (leftV xs sp)) := by
  obtain ⟨p, n, hg, ho⟩ := r
  have hl := ho.len
  subst hl
  refine call_ Try.func29 rfl rfl (by kernel_rfl) ?_
  conv => whnf
  refine ⟨_, Cell.mk hg rfl, ?_⟩
  conv => whnf
  refine br_mk (fun hb => ?_) (fun hb => ?_)
  · conv => whnf
    simp [hb, leftV]
  conv => whnf
  refine ⟨_, Cell.mk hg rfl, ?_⟩
  conv => whnf
  simp [hb, leftV]
theorem left30 {h : H} {g : Nat} {xs : List Int} {sp : Bool} (r : Rdr h g xs sp) : ACalls Try.prog 30 [.ptr (some (g, 0))] h (fun v h' => h' = h ∧ v = i64 (leftV xs sp)) := by
  obtain ⟨p, n, hg, ho⟩ := r
  have hl := ho.len
  subst hl
  refine call_ Try.func30 rfl rfl (by kernel_rfl) ?_
  conv => whnf
  refine ⟨_, Cell.mk hg rfl, ?_⟩
  conv => whnf
  refine br_mk (fun hb => ?_) (fun hb => ?_)
  · conv => whnf
    simp [hb, leftV]
  conv => whnf
  refine ⟨_, Cell.mk hg rfl, ?_⟩
  conv => whnf
  simp [hb, leftV]
def doneV (xs : List Int) (sp : Bool) : Bool := !sp && xs.isEmpty
theorem done31 {h : H} {g : Nat} {xs : List Int} {sp : Bool} (r : Rdr h g xs sp) : ACalls Try.prog 31 [.ptr (some (g, 0))] h (fun v h' => h' = h ∧ v = i64 (if doneV xs sp then 0 else 2)) := by
  obtain ⟨p, n, hg, ho⟩ := r
  have hl := ho.len
  subst hl
  refine call_ Try.func31 rfl rfl (by kernel_rfl) ?_
  conv => whnf
  refine ⟨_, Cell.mk hg rfl, ?_⟩
  conv => whnf
  refine br_mk (fun hb => ?_) (fun hb => ?_)
  · conv => whnf
    simp [hb, doneV]
  conv => whnf
  refine ⟨_, Cell.mk hg rfl, ?_⟩
  conv => whnf
  refine br_mk (fun hc => ?_) (fun hc => ?_)
  · conv => whnf
    cases xs with
    | nil => simp at hc
    | cons x xs => simp [doneV]
  · conv => whnf
    cases xs with
    | nil => simp [hb, doneV]
    | cons x xs => simp at hc
theorem done32 {h : H} {g : Nat} {xs : List Int} {sp : Bool} (r : Rdr h g xs sp) : ACalls Try.prog 32 [.ptr (some (g, 0))] h (fun v h' => h' = h ∧ v = .bool (doneV xs sp)) := by
  obtain ⟨p, n, hg, ho⟩ := r
  have hl := ho.len
  subst hl
  refine call_ Try.func32 rfl rfl (by kernel_rfl) ?_
  conv => whnf
  refine ⟨_, Cell.mk hg rfl, ?_⟩
  conv => whnf
  refine br_mk (fun hb => ?_) (fun hb => ?_)
  · conv => whnf
    refine ⟨_, Cell.mk hg rfl, ?_⟩
    conv => whnf
    cases xs with
    | nil => simp [hb, doneV]
    | cons x xs =>
      simp [doneV, hb]
      omega
  conv => whnf
  simp_all [doneV]
/-- a copy of octets -/
theorem clone54 {h : H} {p : Option (Nat × Nat)} {n : Nat} {xs : List Int} (o : SlIs h p n false 1 (ints .u8 xs)) (hn : xs.length ≤ 70368744177664) : ACalls Try.prog 54 [.sl p n] h (fun v h' => ∃ q, v = .sl q n ∧ Oct h' q n xs ∧ Mod none_ h h') := by
  have hl : n = xs.length := by
    have := o.1
    rw [ints_length] at this
    omega
  subst hl
  refine ACalls.ro (Q := fun v h' => ∃ q, v = .sl q xs.length ∧ NewSl h h' q xs.length 1 (ints .u8 xs) ∧ Mod none_ h h') ?_ ?_
  rotate_left
  · rintro r h' ⟨q, rfl, n1, m⟩
    obtain ⟨i, _, k1, k2⟩ := n1.freeze m
    exact ⟨i, q, rfl, k1, k2⟩
  refine call_ Try.func54 rfl rfl (by kernel_rfl) ?_
  conv => whnf
  refine br_mk (fun hb => ?_) (fun hb => ?_)
  · conv => whnf
    cases p with
    | some x => simp at hb
    | none =>
      rcases o.2 with ⟨h0, _⟩ | ⟨i, j, b, r, e, _⟩
      · cases xs with
        | nil => exact ⟨none, rfl, NewSl.nil _ _ _, ⟨Nat.le_refl _, fun _ _ _ => rfl⟩⟩
        | cons x xs => simp at h0
      · cases e
  conv => whnf
  refine ⟨[], _, ⟨rfl, .inr ⟨_, 0, true, [], rfl, by simp [H.push]; rfl, fun e => e, by simp, by simp⟩⟩, o.get (Mod.push none_ h _) (fun _ _ _ => .inl (fun k => k)), by rw [T5b]; omega, by omega, fun p' h' hs hm hf => ?_⟩
  conv => whnf
  rw [Nat.zero_add] at hs ⊢
  refine ⟨p', rfl, ⟨hs, fun i o e => ?_⟩, (Mod.push none_ h _).trans' hm (fun _ _ k => k) (fun i hi k => ?_)⟩
  · rcases hf i o e with k | k
    · rw [e] at k
      injection k with k
      injection k with k
      omega
    · exact Nat.le_trans (Nat.le_succ _) k
  · obtain ⟨o, k⟩ := k
    injection k with k
    injection k with k
    omega
end Go.Proofs.Ytnpfdppmpmnhbaa
/-! The readers: Raw. -/
namespace Go.Proofs.Ytnpfdppmpmnhbaa
open Go Go.Ab
def rawOk (xs : List Int) (sp : Bool) (k : Int) : Bool := !sp && decide (0 ≤ k) && decide (k ≤ xs.length)
def rawV (xs : List Int) (sp : Bool) (k : Int) : List Int := if rawOk xs sp k then xs.take k.toNat else []
def rawX (xs : List Int) (sp : Bool) (k : Int) : List Int := if rawOk xs sp k then xs.drop k.toNat else xs
def RawQ (g : Nat) (xs : List Int) (sp : Bool) (k : Int) (h : H) (v : V) (h' : H) : Prop := ∃ q m, v = .sl q m ∧ Oct h' q m (rawV xs sp k) ∧ Rdr h' g (rawX xs sp k) (!rawOk xs sp k) ∧ Mod (one g) h h'
theorem Rdr.ro {h : H} {g : Nat} {xs : List Int} {sp : Bool} (r : Rdr h g xs sp) {i : Nat} (hi : g ≠ i) : Rdr (h.ro i) g xs sp := by
  obtain ⟨p, n, h1, h2⟩ := r
  exact ⟨p, n, by rw [H.ro_ne _ hi, h1], RoSl.ro h2 i⟩
theorem Rdr.lt {h : H} {g : Nat} {xs : List Int} {sp : Bool} (r : Rdr h g xs sp) : g < h.next := by
  obtain ⟨p, n, h1, h2⟩ := r
  exact h.lt _ _ h1
def RawQ' (g : Nat) (xs : List Int) (sp : Bool) (k : Int) (h : H) (v : V) (h' : H) : Prop := ∃ q m, v = .sl q m ∧ NewSl h h' q m 1 (ints .u8 (rawV xs sp k)) ∧ Rdr h' g (rawX xs sp k) (!rawOk xs sp k) ∧ Ab.Mod (one g) h h'
theorem rawQ_no {g : Nat} {xs : List Int} {sp : Bool} {k : Int} {h h' : H} (hk : rawOk xs sp k = false) (r : Rdr h' g xs true) (m : Mod (one g) h h') : RawQ' g xs sp k h (.sl none 0) h' :=
  ⟨none, 0, rfl, by rw [rawV, hk]; exact NewSl.nil _ _ _, by rw [rawX, hk]; exact r, m⟩
theorem RawQ'.ro {g : Nat} {xs : List Int} {sp : Bool} {k : Int} {h : H} (hg : g < h.next) (v : V) (h' : H) (q : RawQ' g xs sp k h v h') : ∃ i, RawQ g xs sp k h v (h'.ro i) := by
  obtain ⟨p, n, rfl, n1, r, m⟩ := q
  obtain ⟨i, hi, k1, k2⟩ := n1.freeze m
  exact ⟨i, p, n, rfl, k1, r.ro (by omega), k2⟩
theorem Rdr.set {h : H} {g : Nat} {xs ys : List Int} {sp sp' : Bool} {p : Option (Nat × Nat)} {n : Nat} (r : Rdr h g xs sp) (o : Oct h p n ys) : Rdr (h.set g (.row true 2 [.sl p n, .bool sp'])) g ys sp' := by
  obtain ⟨p0, n0, h1, h2⟩ := r
  exact ⟨p, n, by rw [H.obj_set_same h1], o.get (Mod.set (S := one g) rfl h1 rfl)⟩
theorem Rdr.modset {h : H} {g : Nat} {xs : List Int} {sp : Bool} (r : Rdr h g xs sp) (ob : Ab.Obj) : Ab.Mod (one g) h (h.set g ob) := by
  obtain ⟨p0, n0, h1, h2⟩ := r
  exact Mod.set rfl h1 rfl

theorem raw28 {h : H} {g : Nat} {xs : List Int} {sp : Bool} (r : Rdr h g xs sp) (hx : xs.length ≤ 70368744177664) (k : Int) : ACalls Try.prog 28 [.ptr (some (g, 0)), i64 k] h (RawQ g xs sp k h) := by
  obtain ⟨p, n, hg, ho⟩ := r
  have hl := ho.len
  subst hl
  have r : Rdr h g xs sp := ⟨p, _, hg, ho⟩
  refine ACalls.ro (Q := RawQ' g xs sp k h) ?_ (RawQ'.ro r.lt)
  refine call_ Try.func28 rfl rfl (by kernel_rfl) ?_
  conv => whnf
  refine ⟨_, Cell.mk hg rfl, ?_⟩
  conv => whnf
  refine br_mk (fun hb => ?_) (fun hb => ?_)
  · conv => whnf
    refine ⟨_, _, hg, Nat.le_of_ble_eq_true rfl, ?_⟩
    conv => whnf
    exact rawQ_no (by simp [rawOk, hb]) (r.set ho) (r.modset _)
  conv => whnf
  refine br_mk (fun hc => ?_) (fun hc => ?_)
  · conv => whnf
    refine ⟨_, _, hg, Nat.le_of_ble_eq_true rfl, ?_⟩
    conv => whnf
    simp at hc
    exact rawQ_no (by simp [rawOk, hb]; omega) (r.set ho) (r.modset _)
  conv => whnf
  refine ⟨_, Cell.mk hg rfl, ?_⟩
  conv => whnf
  refine br_mk (fun hd => ?_) (fun hd => ?_)
  · conv => whnf
    refine ⟨_, _, hg, Nat.le_of_ble_eq_true rfl, ?_⟩
    conv => whnf
    simp at hd
    exact rawQ_no (by simp [rawOk, hb]; omega) (r.set ho) (r.modset _)
  conv => whnf
  simp at hc hd
  obtain ⟨j, rfl⟩ : ∃ j : Nat, k = j := ⟨k.toNat, by omega⟩
  have hg1 := (H.obj_push_old (h := h) (.row true (T.at_ 5).size (zerosV 0 (vcells (T.at_ 5).zero))) (Nat.ne_of_lt (h.lt _ _ hg))).trans hg
  refine ⟨_, Cell.mk hg1 rfl, ?_⟩
  conv => whnf
  have ho1 := ho.get (Mod.push none_ h (.row true (T.at_ 5).size (zerosV 0 (vcells (T.at_ 5).zero))))
  refine ⟨⟨_, ho1.is⟩, ?_⟩
  conv => whnf
  refine ⟨j, rfl, Nat.zero_le _, by omega, ?_⟩
  conv => whnf
  refine ⟨[], _, ⟨rfl, .inr ⟨_, 0, true, [], rfl, by simp [H.push]; rfl, fun e => e, by simp, by simp⟩⟩, (ho1.cut (Nat.zero_le j) (by omega)).is, by rw [T5b]; omega, by omega, fun p' h' hs hm hf => ?_⟩
  conv => whnf
  have hg2 := hm.get hg1 (.inl (fun k => by
    obtain ⟨o, k⟩ := k
    injection k with k
    injection k with k
    exact absurd (h.lt _ _ hg) (by omega)))
  refine ⟨_, Cell.mk hg2 rfl, ?_⟩
  conv => whnf
  have ho2 := ho1.get hm
  refine ⟨⟨_, ho2.is⟩, ?_⟩
  conv => whnf
  refine ⟨j, rfl, by omega, Nat.le_refl _, ?_⟩
  conv => whnf
  refine ⟨_, _, hg2, Nat.le_of_ble_eq_true rfl, ?_⟩
  conv => whnf
  have hk : rawOk xs sp (j : Int) = true := by simp [rawOk, hb]; omega
  have hng : ∀ i o, p' = some (i, o) → h.next ≤ i := fun i o e => by
    rcases hf i o e with k | k
    · rw [e] at k
      injection k with k
      injection k with k
      omega
    · exact Nat.le_trans (Nat.le_succ _) k
  have hs' : SlIs h' p' (0 + (j - 0)) true 1 (ints .u8 (rawV xs sp j)) := by
    rw [rawV, hk]
    simpa [T5s] using hs
  have he : splice [V.sl p xs.length, V.bool sp] (0 + 0) (vcells (V.sl (slp p (j * (T.at_ 5).size)) (xs.length - j))) = [.sl (slp p j) (xs.length - j), .bool sp] := by simp [splice, vcells, T5s]
  rw [he]
  have ms := Mod.set (S := one g) (ob := .row true 2 [.sl (slp p j) (xs.length - j), .bool sp]) rfl hg2 rfl
  refine ⟨p', _, rfl, ⟨hs'.get ms (fun i o e => .inl (fun k => ?_)), hng⟩, ?_, ?_⟩
  · exact absurd (hng i o e) (by
      have := r.lt
      rw [k]
      omega)
  · rw [rawX, hk]
    refine ⟨slp p j, xs.length - j, ?_, ?_⟩
    · rw [H.obj_set_same hg2]
      simp [hb]
    · have := (ho2.cut (show j ≤ xs.length by omega) (Nat.le_refl _)).get ms
      rw [List.take_of_length_le (by simp)] at this
      simpa using this
  · refine (Mod.trans' (S2 := one g) (Mod.push none_ h _) hm (fun _ _ k => k.elim) (fun i hi k => ?_)).trans' ms (fun _ _ k => k) (fun _ _ k => k)
    obtain ⟨o, k⟩ := k
    injection k with k
    injection k with k
    omega
end Go.Proofs.Ytnpfdppmpmnhbaa
/-! The readers: Raw of octets, Num of both. -/
namespace Go.Proofs.Ytnpfdppmpmnhbaa
open Go Go.Ab
theorem rawQ_no' {g : Nat} {xs : List Int} {sp : Bool} {k : Int} {h h' : H} (hk : rawOk xs sp k = false) (r : Rdr h' g xs true) (m : Ab.Mod (one g) h h') : RawQ g xs sp k h (.sl none 0) h' :=
  ⟨none, 0, rfl, by rw [rawV, hk]; exact Oct.nil _ _, by rw [rawX, hk]; exact r, m⟩
theorem raw27 {h : H} {g : Nat} {xs : List Int} {sp : Bool} (r : Rdr h g xs sp) (hx : xs.length ≤ 70368744177664) (k : Int) : ACalls Try.prog 27 [.ptr (some (g, 0)), i64 k] h (RawQ g xs sp k h) := by
  obtain ⟨p, n, hg, ho⟩ := r
  have hl := ho.len
  subst hl
  have r : Rdr h g xs sp := ⟨p, _, hg, ho⟩
  refine call_ Try.func27 rfl rfl (by kernel_rfl) ?_
  conv => whnf
  refine ⟨_, Cell.mk hg rfl, ?_⟩
  conv => whnf
  refine br_mk (fun hb => ?_) (fun hb => ?_)
  · conv => whnf
    exact rawQ_no' (by simp [rawOk, hb]) (by rw [← hb]; exact r) ⟨Nat.le_refl _, fun _ _ _ => rfl⟩
  conv => whnf
  refine br_mk (fun hc => ?_) (fun hc => ?_)
  · conv => whnf
    refine ⟨_, _, hg, Nat.le_of_ble_eq_true rfl, ?_⟩
    conv => whnf
    simp at hc
    exact rawQ_no' (by simp [rawOk, hb]; omega) (r.set ho) (r.modset _)
  conv => whnf
  refine ⟨_, Cell.mk hg rfl, ?_⟩
  conv => whnf
  refine br_mk (fun hd => ?_) (fun hd => ?_)
  · conv => whnf
    refine ⟨_, _, hg, Nat.le_of_ble_eq_true rfl, ?_⟩
    conv => whnf
    simp at hd
    exact rawQ_no' (by simp [rawOk, hb]; omega) (r.set ho) (r.modset _)
  conv => whnf
  simp at hc hd
  obtain ⟨j, rfl⟩ : ∃ j : Nat, k = j := ⟨k.toNat, by omega⟩
  refine ⟨_, Cell.mk hg rfl, ?_⟩
  conv => whnf
  refine ⟨⟨_, ho.is⟩, ?_⟩
  conv => whnf
  refine ⟨j, rfl, Nat.zero_le _, by omega, ?_⟩
  conv => whnf
  refine (clone54 (ho.cut (Nat.zero_le j) (by omega)).is (by simp; omega)).mono ?_
  rintro _ h' ⟨q, rfl, hq, hm⟩
  conv => whnf
  have hg2 := hm.get hg (.inl (fun k => k))
  refine ⟨_, Cell.mk hg2 rfl, ?_⟩
  conv => whnf
  have ho2 := ho.get hm
  refine ⟨⟨_, ho2.is⟩, ?_⟩
  conv => whnf
  refine ⟨j, rfl, by omega, Nat.le_refl _, ?_⟩
  conv => whnf
  refine ⟨_, _, hg2, Nat.le_of_ble_eq_true rfl, ?_⟩
  conv => whnf
  have hk : rawOk xs sp (j : Int) = true := by simp [rawOk, hb]; omega
  have he : splice [V.sl p xs.length, V.bool sp] (0 + 0) (vcells (V.sl (slp p (j * (T.at_ 5).size)) (xs.length - j))) = [.sl (slp p j) (xs.length - j), .bool sp] := by simp [splice, vcells, T5s]
  rw [he]
  have ms := Mod.set (S := one g) (ob := .row true 2 [.sl (slp p j) (xs.length - j), .bool sp]) rfl hg2 rfl
  refine ⟨q, _, rfl, ?_, ?_, ?_⟩
  · rw [rawV, hk]
    simpa using hq.get ms
  · rw [rawX, hk]
    refine ⟨slp p j, xs.length - j, ?_, ?_⟩
    · rw [H.obj_set_same hg2]
      simp [hb]
    · have := (ho2.cut (show j ≤ xs.length by omega) (Nat.le_refl _)).get ms
      rw [List.take_of_length_le (by simp)] at this
      simpa using this
  · exact hm.trans' ms (fun _ _ k => k.elim) (fun _ _ k => k)

/-- one octet more -/
def shOr (n b : Int) : Int := IntKind.i64.wrap (BitVec.ofInt IntKind.i64.bits (IntKind.i64.wrap (n * 2 ^ (min (8 : Int).toNat IntKind.i64.bits))) ||| BitVec.ofInt IntKind.i64.bits (IntKind.i64.wrap b)).toNat
def numK (k : Int) : Int := if k < 1 ∨ 7 < k then -1 else k
def NumQ' (g : Nat) (xs : List Int) (sp : Bool) (k : Int) (h : H) (v : V) (h' : H) : Prop := v = i64 ((rawV xs sp k).foldl shOr 0) ∧ Rdr h' g (rawX xs sp k) (!rawOk xs sp k) ∧ Ab.Mod (one g) h h'
def numV (xs : List Int) (sp : Bool) (k : Int) : Int := (rawV xs sp (numK k)).foldl shOr 0
def NumQ (g : Nat) (xs : List Int) (sp : Bool) (k : Int) (h : H) (v : V) (h' : H) : Prop := NumQ' g xs sp (numK k) h v h'
theorem Oct.get? {h : H} {p : Option (Nat × Nat)} {n : Nat} {xs : List Int} (o : Oct h p n xs) {j : Nat} (hj : j < n) : ∃ i c, p = some (i, c) ∧ Cell h i (c + j * 1) (.int .u8 (xs.getD j 0)) := by
  have hl := o.len
  obtain ⟨i, c, rfl⟩ := RoSl.some o (by omega)
  exact ⟨i, c, rfl, by rw [Nat.mul_one]; exact RoSl.cell o (ints_get (by omega))⟩
theorem foldl_take {α : Type} {f : α → Int → α} {z : α} {xs : List Int} {j : Nat} (hj : j < xs.length) : (xs.take (j + 1)).foldl f z = f ((xs.take j).foldl f z) (xs.getD j 0) := by
  rw [List.take_add_one, List.foldl_append, List.getElem?_eq_getElem hj, List.getD_eq_getElem?_getD, List.getElem?_eq_getElem hj]
  rfl
theorem succ_i64 {j n : Nat} (h : j < n) (hn : n ≤ 70368744177664) : IntKind.i64.wrap ((j : Int) + 1) = ((j + 1 : Nat) : Int) := by
  rw [wrap_i64 (by omega) (by omega)]
  omega

theorem num25 {h : H} {g : Nat} {xs : List Int} {sp : Bool} (r : Rdr h g xs sp) (hx : xs.length ≤ 70368744177664) (k : Int) : ACalls Try.prog 25 [.ptr (some (g, 0)), i64 k] h (NumQ g xs sp k h) := by
  unfold NumQ
  generalize hkk : numK k = kk
  refine call_ Try.func25 rfl rfl (by kernel_rfl) ?_
  conv => whnf
  refine br_mk (fun hb => ?_) (fun hb => ?_)
  rotate_left
  conv => whnf
  refine br_mk (fun hc => ?_) (fun hc => ?_)
  all_goals (conv => whnf)
  all_goals refine ACalls.mono (Q := RawQ g xs sp kk h) ?_ ?_
  · simp at hc
    rw [← hkk, numK, if_pos (.inr hc)]
    exact raw27 r hx _
  rotate_left
  · simp at hb hc
    rw [← hkk, numK, if_neg (by omega)]
    exact raw27 r hx _
  rotate_left
  · simp at hb
    rw [← hkk, numK, if_pos (.inl hb)]
    exact raw27 r hx _
  all_goals
    rintro _ h' ⟨q, m, rfl, hq, hr, hm⟩
    have hl := hq.len
    subst hl
    have hml : (rawV xs sp kk).length ≤ 70368744177664 := by
      simp [rawV]
      split <;> simp <;> omega
    unfold NumQ'
    generalize rawV xs sp kk = ys at *
    conv => whnf
    refine ⟨fun env hh => hh = h' ∧ ∃ j : Nat, j ≤ ys.length ∧ env = [(17, i64 j), (4, i64 ((ys.take j).foldl shOr 0)), (16, i64 ys.length), (15, .sl q ys.length)],
      fun env _ => match get env 17 with
        | .int _ z => (ys.length - z).toNat
        | _ => 0, ⟨_, Forget.cons rfl (Forget.cons rfl (Forget.cons rfl (Forget.cons rfl (Forget.nil _)))), rfl, 0, Nat.zero_le _, rfl⟩, ?_⟩
    rintro _ _ ⟨rfl, j, hj, rfl⟩
    conv => whnf
    refine br_mk (fun hb => ?_) (fun hb => ?_)
    · conv => whnf
      simp at hb
      obtain ⟨i, c, rfl, hc⟩ := hq.get? (j := j) (by omega)
      refine ⟨i, c, j, rfl, rfl, by omega, ?_⟩
      conv => whnf
      refine ⟨_, hc, ?_⟩
      conv => whnf
      refine ⟨by decide, ?_⟩
      conv => whnf
      refine ⟨_, Forget.cons ?_ (Forget.cons ?_ (Forget.cons rfl (Forget.cons rfl (Forget.nil _)))), ⟨rfl, j + 1, by omega, rfl⟩, ?_⟩
      · exact congrArg (V.int .i64) (succ_i64 hb hml)
      · rw [foldl_take hb]
        rfl
      · show (ys.length - ((j + 1 : Nat) : Int)).toNat < (ys.length - (j : Int)).toNat
        omega
    · conv => whnf
      simp at hb
      have : j = ys.length := by omega
      subst this
      rw [List.take_length]
      exact ⟨rfl, hr, hm⟩
end Go.Proofs.Ytnpfdppmpmnhbaa
/-! The readers: Num of the reference, Read. -/
namespace Go.Proofs.Ytnpfdppmpmnhbaa
open Go Go.Ab
theorem size20 (k : Int) (h : H) : ACalls Try.prog 20 [i64 k] h (fun v h' => h' = h ∧ v = .bool (decide (1 ≤ k ∧ k ≤ 7))) := by
  refine call_ Try.func20 rfl rfl (by kernel_rfl) ?_
  conv => whnf
  refine br_mk (fun hb => ?_) (fun hb => ?_)
  · conv => whnf
    simp at hb ⊢
    omega
  · conv => whnf
    simp at hb ⊢
    omega
theorem read24 {h : H} {p : Option (Nat × Nat)} {n : Nat} {xs : List Int} (o : Oct h p n xs) (hn : xs.length ≤ 70368744177664) : ACalls Try.prog 24 [.sl p n] h (fun v h' => ∃ g, v = .ptr (some (g, 0)) ∧ h.next ≤ g ∧ Rdr h' g xs false ∧ Ab.Mod none_ h h') := by
  refine call_ Try.func24 rfl rfl (by kernel_rfl) ?_
  conv => whnf
  refine (clone54 o.is hn).mono ?_
  rintro _ h' ⟨q, rfl, hq, hm⟩
  conv => whnf
  refine ⟨_, rfl, hm.next, ⟨q, _, H.obj_push_new _ _, hq.get (Mod.push none_ _ _)⟩, hm.trans' (Mod.push none_ _ _) (fun _ _ k => k) (fun _ _ k => k)⟩
theorem num26 {h : H} {g : Nat} {xs : List Int} {sp : Bool} (r : Rdr h g xs sp) (hx : xs.length ≤ 70368744177664) (k : Int) : ACalls Try.prog 26 [.ptr (some (g, 0)), i64 k] h (NumQ g xs sp k h) := by
  obtain ⟨p, n, hg, ho⟩ := r
  have hl := ho.len
  subst hl
  have r : Rdr h g xs sp := ⟨p, _, hg, ho⟩
  refine call_ Try.func26 rfl rfl (by kernel_rfl) ?_
  conv => whnf
  refine ⟨_, Cell.mk hg rfl, ?_⟩
  conv => whnf
  refine br_mk (fun hb => ?_) (fun hb => ?_)
  · conv => whnf
    refine ⟨_, _, hg, Nat.le_of_ble_eq_true rfl, ?_⟩
    conv => whnf
    have hk : rawOk xs sp (numK k) = false := by simp [rawOk, hb]
    refine ⟨by rw [rawV, hk]; rfl, ?_, r.modset _⟩
    rw [rawX, hk]
    exact r.set ho
  conv => whnf
  refine (size20 k h).mono ?_
  rintro _ h' ⟨eh, rfl⟩
  subst h'
  conv => whnf
  refine br_mk (fun hc => ?_) (fun hc => ?_)
  · conv => whnf
    refine ⟨_, _, hg, Nat.le_of_ble_eq_true rfl, ?_⟩
    conv => whnf
    have hk : rawOk xs sp (numK k) = false := by
      simp at hc
      rw [numK, if_pos (by omega)]
      simp [rawOk]
    refine ⟨by rw [rawV, hk]; rfl, ?_, r.modset _⟩
    rw [rawX, hk]
    exact r.set ho
  conv => whnf
  refine ⟨_, Cell.mk hg rfl, ?_⟩
  conv => whnf
  refine br_mk (fun hd => ?_) (fun hd => ?_)
  · conv => whnf
    refine ⟨_, _, hg, Nat.le_of_ble_eq_true rfl, ?_⟩
    conv => whnf
    have hk : rawOk xs sp (numK k) = false := by
      simp at hc hd
      rw [numK, if_neg (by omega)]
      simp [rawOk]
      omega
    refine ⟨by rw [rawV, hk]; rfl, ?_, r.modset _⟩
    rw [rawX, hk]
    exact r.set ho
  conv => whnf
  simp at hc hd
  obtain ⟨j, rfl⟩ : ∃ j : Nat, k = j := ⟨k.toNat, by omega⟩
  have e : numK j = j := by rw [numK, if_neg (by omega)]
  have hk : rawOk xs sp (j : Int) = true := by simp [rawOk, hb]; omega
  have hv : rawV xs sp (j : Int) = xs.take j := by rw [rawV, hk]; rfl
  refine ⟨fun env hh => hh = h ∧ ∃ i : Nat, i ≤ j ∧ env = [(6, i64 i), (5, i64 ((xs.take i).foldl shOr 0)), (1, i64 j), (0, .ptr (some (g, 0)))],
      fun env _ => match get env 6 with
        | .int _ z => ((j : Int) - z).toNat
        | _ => 0, ⟨_, Forget.cons rfl (Forget.cons rfl (Forget.cons rfl (Forget.cons rfl (Forget.nil _)))), rfl, 0, Nat.zero_le _, rfl⟩, ?_⟩
  rintro _ _ ⟨rfl, i, hi, rfl⟩
  conv => whnf
  refine br_mk (fun he => ?_) (fun he => ?_)
  · conv => whnf
    simp at he
    refine ⟨by decide, ?_⟩
    conv => whnf
    refine ⟨_, Cell.mk hg rfl, ?_⟩
    conv => whnf
    obtain ⟨i', c, rfl, hc'⟩ := ho.get? (j := i) (by omega)
    refine ⟨i', c, i, rfl, rfl, by omega, ?_⟩
    conv => whnf
    refine ⟨_, hc', ?_⟩
    conv => whnf
    refine ⟨_, Forget.cons ?_ (Forget.cons ?_ (Forget.cons rfl (Forget.cons rfl (Forget.nil _)))), ⟨rfl, i + 1, by omega, rfl⟩, ?_⟩
    · exact congrArg (V.int .i64) (succ_i64 he (by omega))
    · rw [foldl_take (by omega)]
      rfl
    · show ((j : Int) - ((i + 1 : Nat) : Int)).toNat < ((j : Int) - (i : Int)).toNat
      omega
  · conv => whnf
    simp at he
    have : i = j := by omega
    subst this
    refine ⟨_, Cell.mk hg rfl, ?_⟩
    conv => whnf
    refine ⟨⟨_, ho.is⟩, ?_⟩
    conv => whnf
    refine ⟨i, rfl, by omega, Nat.le_refl _, ?_⟩
    conv => whnf
    refine ⟨_, _, hg, Nat.le_of_ble_eq_true rfl, ?_⟩
    conv => whnf
    have he : splice [V.sl p xs.length, V.bool sp] (0 + 0) (vcells (V.sl (slp p (i * (T.at_ 5).size)) (xs.length - i))) = [.sl (slp p i) (xs.length - i), .bool sp] := by simp [splice, vcells, T5s]
    rw [he]
    have ms := Mod.set (S := one g) (ob := .row true 2 [.sl (slp p i) (xs.length - i), .bool sp]) rfl hg rfl
    refine ⟨?_, ?_, ms⟩
    · rw [e, hv]
    · rw [e, rawX, hk]
      refine ⟨slp p i, xs.length - i, ?_, ?_⟩
      · rw [H.obj_set_same hg]
        simp [hb]
      · have := (ho.cut (show i ≤ xs.length by omega) (Nat.le_refl _)).get ms
        rw [List.take_of_length_le (by simp)] at this
        simpa using this
end Go.Proofs.Ytnpfdppmpmnhbaa
/-! The writers: one number. -/
namespace Go.Proofs.Ytnpfdppmpmnhbaa
open Go Go.Ab
/-- A writer, of either make. -/
def WtrP (h : H) (g : Nat) (p : Option (Nat × Nat)) (xs : List Int) (sp : Bool) : Prop :=
  h.obj g = some (.row true 2 [.sl p xs.length, .bool sp]) ∧ SlIs h p xs.length true 1 (ints .u8 xs) ∧ ∀ i o, p = some (i, o) → i ≠ g
def foot (g : Nat) (p : Option (Nat × Nat)) : Nat → Prop := fun i => i = g ∨ inSl p i
def WtrQ (h : H) (g : Nat) (p : Option (Nat × Nat)) (xs : List Int) (sp : Bool) (h' : H) : Prop := ∃ p', WtrP h' g p' xs sp ∧ isFresh h p p' ∧ Ab.Mod (foot g p) h h'
theorem WtrP.lt {h : H} {g : Nat} {p : Option (Nat × Nat)} {xs : List Int} {sp : Bool} (w : WtrP h g p xs sp) : g < h.next := h.lt _ _ w.1
theorem WtrP.slt {h : H} {g : Nat} {p : Option (Nat × Nat)} {xs : List Int} {sp : Bool} (w : WtrP h g p xs sp) {i o : Nat} (e : p = some (i, o)) : i < h.next := by
  rcases w.2.1.2 with ⟨_, k⟩ | ⟨i', o', b, r, k1, k2, _⟩
  · rcases k with k | k
    · rw [e] at k
      cases k
    · cases k
  · rw [e] at k1
    injection k1 with k1
    injection k1 with k1
    subst k1
    exact h.lt _ _ k2
theorem isFresh.refl (h : H) (p : Option (Nat × Nat)) : isFresh h p p := fun _ _ _ => .inl rfl
theorem isFresh.mono {h h1 : H} {p p' : Option (Nat × Nat)} (hn : h.next ≤ h1.next) (f : isFresh h1 p p') : isFresh h p p' := fun i o e => (f i o e).imp id (Nat.le_trans hn)
theorem isFresh.trans {h h1 : H} {p p' p2 : Option (Nat × Nat)} (f : isFresh h p p') (hn : h.next ≤ h1.next) (f2 : isFresh h1 p' p2) : isFresh h p p2 := fun i o e => by
  rcases f2 i o e with k | k
  · subst k
    exact f i o e
  · exact .inr (Nat.le_trans hn k)
theorem foot_fresh {h : H} {g : Nat} {p p' : Option (Nat × Nat)} (f : isFresh h p p') : ∀ i, i < h.next → foot g p' i → foot g p i := by
  rintro i hi (rfl | ⟨o, e⟩)
  · exact .inl rfl
  · rcases f i o e with k | k
    · exact .inr ⟨o, by rw [← k, e]⟩
    · omega
theorem WtrQ.refl {h : H} {g : Nat} {p : Option (Nat × Nat)} {xs : List Int} {sp : Bool} (w : WtrP h g p xs sp) : WtrQ h g p xs sp h := ⟨p, w, isFresh.refl _ _, Nat.le_refl _, fun _ _ _ => rfl⟩
theorem WtrQ.trans {h h1 h2 : H} {g : Nat} {p p' : Option (Nat × Nat)} {xs : List Int} {sp : Bool} (f : isFresh h p p') (m : Ab.Mod (foot g p) h h1) (q : WtrQ h1 g p' xs sp h2) : WtrQ h g p xs sp h2 := by
  obtain ⟨p2, w, f2, m2⟩ := q
  exact ⟨p2, w, isFresh.trans f m.next f2, m.trans' m2 (fun _ _ k => k) (foot_fresh f)⟩
/-- what is not the writer's turns without it -/
theorem WtrP.get {S : Nat → Prop} {h h' : H} {g : Nat} {p : Option (Nat × Nat)} {xs : List Int} {sp : Bool} (w : WtrP h g p xs sp) (m : Ab.Mod S h h') (hs : ∀ i, S i → ¬ foot g p i) : WtrP h' g p xs sp :=
  ⟨m.get w.1 (.inl (fun k => hs _ k (.inl rfl))), w.2.1.get m (fun i o e => .inl (fun k => hs _ k (.inr ⟨o, e⟩))), w.2.2⟩
theorem WtrP.app {h h1 h2 : H} {g : Nat} {p p' : Option (Nat × Nat)} {xs ys : List Int} {sp : Bool} (w : WtrP h g p xs sp) (m01 : Ab.Mod none_ h h1) (hs : SlIs h2 p' (xs.length + ys.length) true 1 (ints .u8 xs ++ ints .u8 ys)) (hm : Ab.Mod (inSl p) h1 h2) (hf : isFresh h1 p p') :
    h2.obj g = some (.row true 2 [.sl p xs.length, .bool sp]) ∧ WtrQ h g p (xs ++ ys) sp (h2.set g (.row true 2 [.sl p' (xs.length + ys.length), .bool sp])) := by
  have hg := w.lt
  have e1 : h1.obj g = some (.row true 2 [.sl p xs.length, .bool sp]) := m01.get w.1 (.inl (fun k => k))
  have e2 : h2.obj g = some (.row true 2 [.sl p xs.length, .bool sp]) := hm.get e1 (.inl (fun ⟨o, k⟩ => w.2.2 _ _ k rfl))
  have ms := Mod.set (S := one g) (ob := .row true 2 [.sl p' (xs.length + ys.length), .bool sp]) rfl e2 rfl
  have hng : ∀ i o, p' = some (i, o) → i ≠ g := fun i o e => by
    rcases hf i o e with k | k
    · rw [e] at k
      exact w.2.2 _ _ k.symm
    · have := h1.lt _ _ e1
      omega
  refine ⟨e2, p', ⟨by rw [H.obj_set_same e2, List.length_append], ?_, hng⟩, isFresh.mono m01.next hf, ?_⟩
  · rw [ints_append, List.length_append]
    exact hs.get ms (fun i o e => .inl (hng i o e))
  · refine (m01.trans' hm (S2 := foot g p) (fun _ _ k => k.elim) (fun _ _ k => .inr k)).trans' ms (fun _ _ k => k) (fun _ _ k => .inl k)
theorem WtrP.spoil {h : H} {g : Nat} {p : Option (Nat × Nat)} {xs : List Int} {sp : Bool} (w : WtrP h g p xs sp) (sp' : Bool) : WtrQ h g p xs sp' (h.set g (.row true 2 [.sl p xs.length, .bool sp'])) := by
  have ms := Mod.set (S := one g) (ob := .row true 2 [.sl p xs.length, .bool sp']) rfl w.1 rfl
  exact ⟨p, ⟨H.obj_set_same w.1, w.2.1.get ms (fun i o e => .inl (w.2.2 i o e)), w.2.2⟩, isFresh.refl _ _, ms.mono (fun _ _ k => .inl k)⟩

theorem oneRow (b : Int) : Obj.row true (T.at_ 5).size (splice (zerosV 1 (vcells (T.at_ 5).zero)) (0 * (T.at_ 5).size) (vcells (V.int .u8 b))) = .row true 1 (ints .u8 [b]) := rfl
/-! ### One number -/
def shr_ (v i : Int) : Int := v.fdiv (2 ^ (min (IntKind.i64.wrap (8 * i)).toNat IntKind.i64.bits))
def oct (v i : Int) : Int := IntKind.u8.wrap (shr_ v i)
/-- the last n octets of v, the highest first -/
def be (v : Int) : Nat → List Int
  | 0 => []
  | n + 1 => oct v n :: be v n
def misfit (k v : Int) : Bool := decide (k < 1) || decide (7 < k) || decide (v < 0) || shr_ v k != 0
theorem wrap8 {i : Int} (h0 : 0 ≤ i) (h1 : i ≤ 7) : IntKind.i64.wrap (8 * i) = 8 * i := wrap_i64 (by omega) (by omega)

theorem num21 {h : H} {g : Nat} {p : Option (Nat × Nat)} {xs : List Int} {sp : Bool} (w : WtrP h g p xs sp) (hx : xs.length ≤ 1000000) (k v : Int) :
    ACalls Try.prog 21 [.ptr (some (g, 0)), i64 k, i64 v] h (fun r h' => r = .tup [] ∧ WtrQ h g p (if misfit k v then xs else xs ++ be v k.toNat) (misfit k v || sp) h') := by
  refine call_ Try.func21 rfl rfl (by kernel_rfl) ?_
  conv => whnf
  refine (size20 k h).mono ?_
  rintro _ h' ⟨eh, rfl⟩
  subst h'
  conv => whnf
  refine br_mk (fun hc => ?_) (fun hc => ?_)
  · conv => whnf
    refine ⟨_, _, w.1, Nat.le_of_ble_eq_true rfl, ?_⟩
    conv => whnf
    have : misfit k v = true := by
      simp at hc
      simp [misfit]
      omega
    rw [this]
    exact ⟨rfl, w.spoil _⟩
  conv => whnf
  refine br_mk (fun hd => ?_) (fun hd => ?_)
  · conv => whnf
    refine ⟨_, _, w.1, Nat.le_of_ble_eq_true rfl, ?_⟩
    conv => whnf
    have : misfit k v = true := by
      simp at hd
      simp [misfit, hd]
    rw [this]
    exact ⟨rfl, w.spoil _⟩
  conv => whnf
  simp at hc hd
  have h8 := wrap8 (i := k) (by omega) (by omega)
  refine ⟨by rw [h8]; omega, ?_⟩
  conv => whnf
  refine br_mk (fun he => ?_) (fun he => ?_)
  · conv => whnf
    refine ⟨_, _, w.1, Nat.le_of_ble_eq_true rfl, ?_⟩
    conv => whnf
    have : misfit k v = true := by
      have he : (shr_ v k != 0) = true := he
      simp [misfit, he]
    rw [this]
    exact ⟨rfl, w.spoil _⟩
  conv => whnf
  have : misfit k v = false := by
    have he : (shr_ v k != 0) = false := he
    simp [misfit, he]
    omega
  rw [this]
  obtain ⟨n, rfl⟩ : ∃ n : Nat, k = n := ⟨k.toNat, by omega⟩
  refine ⟨fun env hh => ∃ (r : Nat) (z : Int) (p' : Option (Nat × Nat)) (ys : List Int), r ≤ n ∧ z = (r : Int) - 1 ∧ ys.length + r = xs.length + n ∧ ys ++ be v r = xs ++ be v n ∧ WtrP hh g p' ys sp ∧ isFresh h p p' ∧ Ab.Mod (foot g p) h hh ∧ env = [(6, i64 z), (2, i64 v), (0, .ptr (some (g, 0)))],
      fun env _ => match get env 6 with
        | .int _ z => (z + 1).toNat
        | _ => 0, ⟨_, Forget.cons rfl (Forget.cons rfl (Forget.cons rfl (Forget.nil _))), n, _, p, xs, Nat.le_refl _, wrap_i64 (by omega) (by omega), rfl, rfl, w, isFresh.refl _ _, ⟨Nat.le_refl _, fun _ _ _ => rfl⟩, rfl⟩, ?_⟩
  rintro _ h1 ⟨r, z, p', ys, hr, hz, hl, hy, w1, f1, m1, rfl⟩
  conv => whnf
  refine br_mk (fun hf => ?_) (fun hf => ?_)
  · conv => whnf
    simp at hf
    obtain ⟨r, rfl⟩ : ∃ r', r = r' + 1 := ⟨r - 1, by omega⟩
    have : z = (r : Int) := by omega
    subst this
    refine ⟨[0, 1, 2, 3, 4, 5, 6, 7, 8, 9, 10, 11, 12, 13, 14], [0, 0, 2, 6, 14, 0, 0, 64, 224, 480, 992, 2046, 4095, 8191, 16383], by kernel_rfl, ?_⟩
    conv => whnf
    refine ⟨_, Cell.mk w1.1 rfl, ?_⟩
    conv => whnf
    have h8 := wrap8 (i := r) (by omega) (by omega)
    refine ⟨by rw [h8]; omega, ?_⟩
    conv => whnf
    rw [oneRow]
    refine ⟨_, _, w1.2.1.get (Mod.push none_ _ _) (fun _ _ _ => .inl (fun k => k)), (SlIs.row (n := 1) (H.obj_push_new _ _) rfl).weak, by rw [T5b]; omega, by omega, fun p2 h2 hs hm2 hf2 => ?_⟩
    conv => whnf
    obtain ⟨e2, q2⟩ := w1.app (ys := [oct v r]) (Mod.push none_ _ _) hs hm2 hf2
    refine ⟨_, _, e2, Nat.le_of_ble_eq_true rfl, ?_⟩
    conv => whnf
    have q3 : WtrQ h g p (ys ++ [oct v r]) sp _ := WtrQ.trans f1 m1 q2
    obtain ⟨p3, w3, f3, m3⟩ := q3
    refine ⟨_, Forget.cons rfl (Forget.cons rfl (Forget.cons rfl (Forget.nil _))), ⟨r, _, p3, _, by omega, wrap_i64 (by omega) (by omega), ?_, ?_, w3, f3, m3, rfl⟩, ?_⟩
    · simp
      omega
    · rw [← hy]
      simp [be]
    · show (IntKind.i64.wrap ((r : Int) - 1) + 1).toNat < ((r : Int) + 1).toNat
      rw [wrap_i64 (by omega) (by omega)]
      omega
  · conv => whnf
    simp at hf
    obtain rfl : r = 0 := by omega
    simp [be] at hy
    subst hy
    exact ⟨rfl, p', w1, f1, m1⟩
end Go.Proofs.Ytnpfdppmpmnhbaa
/-! The writers: Nums, Raw, Bytes. -/
namespace Go.Proofs.Ytnpfdppmpmnhbaa
open Go Go.Ab
/-- slice of numbers, read only here -/
def Nums (S : Nat → Prop) (h : H) (p : Option (Nat × Nat)) (n : Nat) (vs : List Int) : Prop :=
  SlIs h p n false 1 (ints .i64 vs) ∧ (n = 0 ∨ ∀ i o, p = some (i, o) → ¬ S i ∨ ∃ ob, h.obj i = some ob ∧ ob.own = false)
theorem Nums.len {S : Nat → Prop} {h : H} {p : Option (Nat × Nat)} {n : Nat} {xs : List Int} (o : Nums S h p n xs) : n = xs.length := by
  have := o.1.1
  rw [ints_length] at this
  omega
theorem Nums.get {S : Nat → Prop} {h h' : H} {p : Option (Nat × Nat)} {n : Nat} {xs : List Int} (o : Nums S h p n xs) (m : Ab.Mod S h h') : Nums S h' p n xs := by
  rcases o.2 with rfl | o2
  · exact ⟨⟨o.1.1, .inl ⟨rfl, .inr rfl⟩⟩, .inl rfl⟩
  refine ⟨o.1.get m o2, .inr (fun i j e => ?_)⟩
  rcases o2 i j e with k | ⟨ob, k1, k2⟩
  · exact .inl k
  · exact .inr ⟨ob, m.get k1 (.inr k2), k2⟩
theorem SlIs.cell {h : H} {p : Option (Nat × Nat)} {n sz : Nat} {own : Bool} {cs : List V} (s : SlIs h p n own sz cs) {j : Nat} {v : V} (hj : cs[j]? = some v) : ∃ i c, p = some (i, c) ∧ Cell h i (c + j) v := by
  obtain ⟨hl, hr⟩ := s
  have hjl := (List.getElem?_eq_some_iff.1 hj).1
  rcases hr with ⟨rfl, _⟩ | ⟨i', o', b, r, e1, e2, e3, e4, e5⟩
  · omega
  · refine ⟨i', o', e1, b, sz, r, e2, ?_⟩
    rw [← e5, List.getElem?_take, if_pos (by omega), List.getElem?_drop] at hj
    exact hj
theorem Nums.cell {S : Nat → Prop} {h : H} {p : Option (Nat × Nat)} {n : Nat} {xs : List Int} (o : Nums S h p n xs) {j : Nat} (hj : j < n) : ∃ i c, p = some (i, c) ∧ Cell h i (c + j * 1) (i64 (xs.getD j 0)) := by
  have := o.len
  rw [Nat.mul_one]
  exact SlIs.cell o.1 (ints_get (by omega))
theorem Nums.of_ro {S : Nat → Prop} {h : H} {p : Option (Nat × Nat)} {n : Nat} {vs : List Int} (o : RoSl h p n 1 (ints .i64 vs)) : Nums S h p n vs := by
  refine ⟨o.is, ?_⟩
  rcases o.2 with k | ⟨i, c, r, rfl, k, _⟩
  · exact .inl k
  · refine .inr (fun i' c' e => .inr ?_)
    injection e with e
    injection e with e1 e2
    subst e1
    exact ⟨_, k, rfl⟩
def small (k : Int) : Bool := decide (k < 1) || decide (7 < k)
def bad (k v : Int) : Bool := decide (v < 0) || decide (0 < shr_ v k)
def numsGo (k : Int) : List Int → List Int → Bool → List Int × Bool
  | [], xs, sp => (xs, sp)
  | v :: vs, xs, sp => if bad k v then (xs, true) else numsGo k vs (xs ++ be v k.toNat) sp
def numsV (k : Int) (vs xs : List Int) (sp : Bool) : List Int × Bool := if small k then (xs, true) else numsGo k vs xs sp
theorem drop_cons {xs : List Int} {j : Nat} (h : j < xs.length) : xs.drop j = xs.getD j 0 :: xs.drop (j + 1) := by
  rw [List.drop_eq_getElem_cons h, List.getD_eq_getElem?_getD, List.getElem?_eq_getElem h]
  rfl
theorem be_length (v : Int) (n : Nat) : (be v n).length = n := by
  induction n with
  | zero => rfl
  | succ n ih => simp [be, ih]

theorem nums19 {h : H} {g : Nat} {p : Option (Nat × Nat)} {xs : List Int} {sp : Bool} (w : WtrP h g p xs sp) {q : Option (Nat × Nat)} {m : Nat} {vs : List Int} (hv : Nums (foot g p) h q m vs) (hx : xs.length ≤ 1000000) (hm : vs.length ≤ 1000000) (k : Int) :
    ACalls Try.prog 19 [.ptr (some (g, 0)), i64 k, .sl q m] h (fun r h' => r = .ptr (some (g, 0)) ∧ WtrQ h g p (numsV k vs xs sp).1 (numsV k vs xs sp).2 h') := by
  have hml := hv.len
  subst hml
  refine call_ Try.func19 rfl rfl (by kernel_rfl) ?_
  conv => whnf
  refine br_mk (fun hb => ?_) (fun hb => ?_)
  · conv => whnf
    refine ⟨_, _, w.1, Nat.le_of_ble_eq_true rfl, ?_⟩
    conv => whnf
    have : small k = true := by
      simp at hb
      simp [small, hb]
    rw [numsV, if_pos this]
    exact ⟨rfl, w.spoil _⟩
  conv => whnf
  refine br_mk (fun hc => ?_) (fun hc => ?_)
  · conv => whnf
    refine ⟨_, _, w.1, Nat.le_of_ble_eq_true rfl, ?_⟩
    conv => whnf
    have : small k = true := by
      simp at hc
      simp [small, hc]
    rw [numsV, if_pos this]
    exact ⟨rfl, w.spoil _⟩
  conv => whnf
  simp at hb hc
  have hsm : small k = false := by simp [small]; omega
  rw [numsV, hsm, if_neg (by decide)]
  obtain ⟨n, rfl⟩ : ∃ n : Nat, k = n := ⟨k.toNat, by omega⟩
  refine ⟨fun env hh => ∃ (j : Nat) (z : Int) (p' : Option (Nat × Nat)) (ys : List Int), j ≤ vs.length ∧ z = j ∧ ys.length ≤ xs.length + 7 * j ∧ numsGo n (vs.drop j) ys sp = numsGo n vs xs sp ∧ WtrP hh g p' ys sp ∧ isFresh h p p' ∧ Ab.Mod (foot g p) h hh ∧ env = [(24, i64 z), (23, i64 vs.length), (22, .sl q vs.length), (1, i64 n), (0, .ptr (some (g, 0)))],
      fun env _ => match get env 24 with
        | .int _ z => (vs.length - z).toNat
        | _ => 0, ⟨_, Forget.cons rfl (Forget.cons rfl (Forget.cons rfl (Forget.cons rfl (Forget.cons rfl (Forget.nil _))))), 0, _, p, xs, Nat.zero_le _, rfl, Nat.le_refl _, rfl, w, isFresh.refl _ _, ⟨Nat.le_refl _, fun _ _ _ => rfl⟩, rfl⟩, ?_⟩
  rintro _ h1 ⟨j, z, p', ys, hj, rfl, hl, hy, w1, f1, m1, rfl⟩
  conv => whnf
  refine br_mk (fun hf => ?_) (fun hf => ?_)
  rotate_left
  · conv => whnf
    simp at hf
    obtain rfl : j = vs.length := by omega
    rw [← hy, List.drop_length]
    exact ⟨rfl, p', w1, f1, m1⟩
  conv => whnf
  simp at hf
  have hv1 := hv.get m1
  obtain ⟨i, c, rfl, hc1⟩ := hv1.cell hf
  refine ⟨i, c, j, rfl, rfl, hf, ?_⟩
  conv => whnf
  refine ⟨_, hc1, ?_⟩
  conv => whnf
  rw [drop_cons hf, numsGo] at hy
  generalize hve : vs.getD j 0 = v at *
  refine br_mk (fun hd => ?_) (fun hd => ?_)
  · conv => whnf
    refine ⟨_, _, w1.1, Nat.le_of_ble_eq_true rfl, ?_⟩
    conv => whnf
    have : bad n v = true := by
      simp at hd
      simp [bad, hd]
    rw [this, if_pos rfl] at hy
    rw [← hy]
    exact ⟨rfl, WtrQ.trans f1 m1 (w1.spoil _)⟩
  conv => whnf
  have h8 := wrap8 (i := n) (by omega) (by omega)
  refine ⟨by rw [h8]; omega, ?_⟩
  conv => whnf
  refine br_mk (fun he => ?_) (fun he => ?_)
  · conv => whnf
    refine ⟨_, _, w1.1, Nat.le_of_ble_eq_true rfl, ?_⟩
    conv => whnf
    have : bad n v = true := by
      have he : decide (shr_ v n > 0) = true := he
      simp [bad]
      simp at he
      omega
    rw [this, if_pos rfl] at hy
    rw [← hy]
    exact ⟨rfl, WtrQ.trans f1 m1 (w1.spoil _)⟩
  conv => whnf
  have : bad n v = false := by
    have he : decide (shr_ v n > 0) = false := he
    simp at he hd
    simp [bad]
    omega
  rw [this, if_neg (by decide)] at hy
  refine ⟨fun env hh => ∃ (r : Nat) (z : Int) (p2 : Option (Nat × Nat)) (zs : List Int), r ≤ n ∧ z = (r : Int) - 1 ∧ zs.length + r = ys.length + n ∧ zs ++ be v r = ys ++ be v n ∧ WtrP hh g p2 zs sp ∧ isFresh h p p2 ∧ Ab.Mod (foot g p) h hh ∧ env = [(9, i64 z), (8, i64 v), (24, i64 j), (23, i64 vs.length), (22, .sl (some (i, c)) vs.length), (1, i64 n), (0, .ptr (some (g, 0)))],
      fun env _ => match get env 9 with
        | .int _ z => (z + 1).toNat
        | _ => 0, ⟨_, Forget.cons rfl (Forget.cons rfl (Forget.cons rfl (Forget.cons rfl (Forget.cons rfl (Forget.cons rfl (Forget.cons rfl (Forget.nil _))))))), n, _, p', ys, Nat.le_refl _, wrap_i64 (by omega) (by omega), rfl, rfl, w1, f1, m1, rfl⟩, ?_⟩
  rintro _ h2 ⟨r, z, p2, zs, hr, hz, hl2, hy2, w2, f2, m2, rfl⟩
  conv => whnf
  refine br_mk (fun hf => ?_) (fun hf => ?_)
  · conv => whnf
    simp at hf
    obtain ⟨r, rfl⟩ : ∃ r', r = r' + 1 := ⟨r - 1, by omega⟩
    have : z = (r : Int) := by omega
    subst this
    refine ⟨[0, 1, 2, 3, 4, 5, 6, 7, 8, 9, 10, 11, 12, 13, 14], [0, 0, 2, 6, 14, 0, 0, 64, 224, 480, 992, 2046, 4095, 8191, 16383], by kernel_rfl, ?_⟩
    conv => whnf
    refine ⟨_, Cell.mk w2.1 rfl, ?_⟩
    conv => whnf
    have h8 := wrap8 (i := r) (by omega) (by omega)
    refine ⟨by rw [h8]; omega, ?_⟩
    conv => whnf
    rw [oneRow]
    refine ⟨_, _, w2.2.1.get (Mod.push none_ _ _) (fun _ _ _ => .inl (fun k => k)), (SlIs.row (n := 1) (H.obj_push_new _ _) rfl).weak, by rw [T5b]; omega, by omega, fun p3 h3 hs hm3 hf3 => ?_⟩
    conv => whnf
    obtain ⟨e3, q3⟩ := w2.app (ys := [oct v r]) (Mod.push none_ _ _) hs hm3 hf3
    refine ⟨_, _, e3, Nat.le_of_ble_eq_true rfl, ?_⟩
    conv => whnf
    have q4 : WtrQ h g p (zs ++ [oct v r]) sp _ := WtrQ.trans f2 m2 q3
    obtain ⟨p4, w4, f4, m4⟩ := q4
    refine ⟨_, Forget.cons rfl (Forget.cons rfl (Forget.cons rfl (Forget.cons rfl (Forget.cons rfl (Forget.cons rfl (Forget.cons rfl (Forget.nil _))))))), ⟨r, _, p4, _, by omega, wrap_i64 (by omega) (by omega), ?_, ?_, w4, f4, m4, rfl⟩, ?_⟩
    · simp
      omega
    · rw [← hy2]
      simp [be]
    · show (IntKind.i64.wrap ((r : Int) - 1) + 1).toNat < ((r : Int) + 1).toNat
      rw [wrap_i64 (by omega) (by omega)]
      omega
  · conv => whnf
    simp at hf
    obtain rfl : r = 0 := by omega
    simp [be] at hy2
    subst hy2
    refine ⟨_, Forget.cons rfl (Forget.cons rfl (Forget.cons rfl (Forget.cons rfl (Forget.cons rfl (Forget.nil _))))), ⟨j + 1, _, p2, _, by omega, succ_i64 (n := vs.length) (by omega) (by omega), ?_, hy, w2, f2, m2, rfl⟩, ?_⟩
    · rw [List.length_append, be_length]
      omega
    · show (vs.length - IntKind.i64.wrap ((j : Int) + 1)).toNat < (vs.length - (j : Int)).toNat
      rw [succ_i64 (n := vs.length) (by omega) (by omega)]
      omega
end Go.Proofs.Ytnpfdppmpmnhbaa
/-! The writers: Raw, Bytes. -/
namespace Go.Proofs.Ytnpfdppmpmnhbaa
open Go Go.Ab
theorem raw22 {h : H} {g : Nat} {p : Option (Nat × Nat)} {xs : List Int} {sp : Bool} (w : WtrP h g p xs sp) {q : Option (Nat × Nat)} {m : Nat} {ys : List Int} (hv : SlIs h q m false 1 (ints .u8 ys)) (hx : xs.length ≤ 1000000) (hm : ys.length ≤ 1000000) :
    ACalls Try.prog 22 [.ptr (some (g, 0)), .sl q m] h (fun r h' => r = .ptr (some (g, 0)) ∧ WtrQ h g p (xs ++ ys) sp h') := by
  have hl : m = ys.length := by
    have := hv.1
    rw [ints_length] at this
    omega
  subst hl
  refine call_ Try.func22 rfl rfl (by kernel_rfl) ?_
  conv => whnf
  refine ⟨_, Cell.mk w.1 rfl, ?_⟩
  conv => whnf
  refine ⟨_, _, w.2.1, hv, by rw [T5b]; omega, by omega, fun p2 h2 hs hm2 hf2 => ?_⟩
  conv => whnf
  obtain ⟨e2, q2⟩ := w.app (ys := ys) ⟨Nat.le_refl _, fun _ _ _ => rfl⟩ hs hm2 hf2
  refine ⟨_, _, e2, Nat.le_of_ble_eq_true rfl, ?_⟩
  conv => whnf
  exact ⟨rfl, q2⟩
theorem bytes23 {h : H} {g : Nat} {p : Option (Nat × Nat)} {xs : List Int} {sp : Bool} (w : WtrP h g p xs sp) (hx : xs.length ≤ 1000000) :
    ACalls Try.prog 23 [.ptr (some (g, 0))] h (fun r h' => ∃ q n, r = .tup [.sl q n, i64 (if sp then 1 else 0)] ∧ Oct h' q n (if sp then [] else xs) ∧ Ab.Mod none_ h h') := by
  refine call_ Try.func23 rfl rfl (by kernel_rfl) ?_
  conv => whnf
  refine ⟨_, Cell.mk w.1 rfl, ?_⟩
  conv => whnf
  refine br_mk (fun hb => ?_) (fun hb => ?_)
  · conv => whnf
    simp only [hb, if_true]
    exact ⟨none, 0, rfl, Oct.nil _ _, Nat.le_refl _, fun _ _ _ => rfl⟩
  conv => whnf
  refine ⟨_, Cell.mk w.1 rfl, ?_⟩
  conv => whnf
  refine (clone54 w.2.1.weak (by omega)).mono ?_
  rintro _ h' ⟨q, rfl, hq, hm⟩
  conv => whnf
  simp only [hb]
  exact ⟨q, _, rfl, hq, hm⟩
theorem bytes23_ok {h : H} {g : Nat} {p : Option (Nat × Nat)} {xs : List Int} (w : WtrP h g p xs false) (hx : xs.length ≤ 1000000) :
    ACalls Try.prog 23 [.ptr (some (g, 0))] h (fun r h' => ∃ q, r = .tup [.sl q xs.length, i64 0] ∧ Oct h' q xs.length xs ∧ Ab.Mod none_ h h') :=
  (bytes23 w hx).mono fun r h' ⟨q, n, e, o, m⟩ => by
    have := o.len
    subst this
    exact ⟨q, e, o, m⟩
theorem bytes23_bad {h : H} {g : Nat} {p : Option (Nat × Nat)} {xs : List Int} (w : WtrP h g p xs true) (hx : xs.length ≤ 1000000) :
    ACalls Try.prog 23 [.ptr (some (g, 0))] h (fun r h' => ∃ q, r = .tup [.sl q 0, i64 1] ∧ Ab.Mod none_ h h') :=
  (bytes23 w hx).mono fun r h' ⟨q, n, e, o, m⟩ => by
    have := o.len
    subst this
    exact ⟨q, e, m⟩
theorem nums19n (h : H) (k v : V) : ACalls Try.prog 19 [.ptr none, k, v] h (fun r h' => r = .ptr none ∧ h' = h) := by
  refine call_ Try.func19 rfl rfl (by kernel_rfl) ?_
  conv => whnf
  exact ⟨rfl, rfl⟩
theorem bytes23n (h : H) : ACalls Try.prog 23 [.ptr none] h (fun r h' => r = .tup [.sl none 0, i64 1] ∧ h' = h) := by
  refine call_ Try.func23 rfl rfl (by kernel_rfl) ?_
  conv => whnf
  exact ⟨rfl, rfl⟩
theorem raw27n (h : H) (k : Int) : ACalls Try.prog 27 [.ptr none, i64 k] h (fun r h' => r = .sl none 0 ∧ h' = h) := by
  refine call_ Try.func27 rfl rfl (by kernel_rfl) ?_
  conv => whnf
  exact ⟨rfl, rfl⟩
theorem done31n (h : H) : ACalls Try.prog 31 [.ptr none] h (fun r h' => r = i64 2 ∧ h' = h) := by
  refine call_ Try.func31 rfl rfl (by kernel_rfl) ?_
  conv => whnf
  exact ⟨rfl, rfl⟩
theorem num25n (h : H) : ACalls Try.prog 25 [.ptr none, i64 1] h (fun r h' => r = i64 0 ∧ h' = h) := by
  refine call_ Try.func25 rfl rfl (by kernel_rfl) ?_
  conv => whnf
  refine (raw27n h 1).mono ?_
  rintro _ h' ⟨rfl, eh⟩
  subst h'
  conv => whnf
  refine ⟨fun env hh => hh = h ∧ env = [(17, i64 0), (16, i64 0), (4, i64 0)], fun _ _ => 0, ⟨_, Forget.cons rfl (Forget.cons rfl (Forget.cons rfl (Forget.nil _))), rfl, rfl⟩, ?_⟩
  rintro _ _ ⟨rfl, rfl⟩
  conv => whnf
  exact ⟨rfl, rfl⟩
end Go.Proofs.Ytnpfdppmpmnhbaa
/-! The first law's own check. -/
namespace Go.Proofs.Ytnpfdppmpmnhbaa
open Go Go.Ab
theorem wtr_new (h : H) : WtrP (h.push (.row true 2 [.sl none 0, .bool false])) h.next none [] false :=
  ⟨H.obj_push_new _ _, SlIs.nil _ _ _, fun _ _ e => by cases e⟩
theorem row_nums {h : H} {S : Nat → Prop} {vs : List Int} {i n : Nat} {o : Bool} (hi : h.obj i = some (.row o 1 (ints .i64 vs))) (hn : vs.length = n) (hs : ¬ S i) : Nums S h (some (i, 0)) n vs :=
  ⟨(SlIs.row (n := n) hi (by rw [ints_length, hn, Nat.mul_one])).weak, .inr (fun j o' e => .inl (by
    injection e with e
    injection e with e
    rw [← e]
    exact hs))⟩
theorem octs_in (xs : List Int) (hx : (xs.all fun x => decide (0 ≤ x) && decide (x < 256)) = true) : ∀ x ∈ xs, 0 ≤ x ∧ x < 256 := by
  intro x h
  rw [List.all_eq_true] at hx
  have := hx x h
  simp at this
  exact this
theorem awake18 (h : H) : ACalls Try.prog 18 [] h (fun r h' => r = .bool true ∧ Ab.Mod none_ h h') := by
  refine call_ Try.func18 rfl rfl (by kernel_rfl) ?_
  conv => whnf
  have w0 := wtr_new h
  have m0 := Mod.push none_ h (.row true 2 [.sl none 0, .bool false])
  have w1 := w0.get (Mod.push none_ _ (.row true 1 (ints .i64 [1, 258]))) (fun _ k => k.elim)
  refine (nums19 w1 (vs := [1, 258]) (row_nums (H.obj_push_new _ _) rfl ?_) (by decide) (by decide) 2).mono ?_
  · rintro (k | ⟨o, k⟩)
    · exact absurd k (by simp [H.push])
    · cases k
  rintro _ h2 ⟨rfl, p2, w2, f2, m2⟩
  conv => whnf
  have e2 : numsV 2 [1, 258] [] false = ([0, 1, 1, 2], false) := by decide +kernel
  rw [e2] at w2
  have fn2 : ∀ i, i < h.next → ¬ foot h.next p2 i := by
    rintro i hi (k | ⟨o, k⟩)
    · unfold one at *
      omega
    · rcases f2 i o k with k | k
      · rw [‹p2 = some (i, o)›] at k
        cases k
      · have : h.next + 1 + 1 ≤ i := k
        omega
  have n2 : Ab.Mod none_ h h2 := (m0.trans' (Mod.push none_ _ (.row true 1 (ints .i64 [1, 258]))) (S2 := none_) (fun _ _ k => k) (fun _ _ k => k)).trans' m2 (fun _ _ k => k) (fun i hi k => by
    rcases k with k | ⟨o, k⟩
    · exact absurd k (by omega)
    · cases k)
  have w3 := w2.get (Mod.push none_ _ (.row true 1 (ints .u8 [9]))) (fun _ k => k.elim)
  refine (raw22 w3 (ys := [9]) (SlIs.row (n := 1) (H.obj_push_new _ _) rfl).weak (by decide) (by decide)).mono ?_
  rintro _ h4 ⟨rfl, p4, w4, f4, m4⟩
  conv => whnf
  have w4 : WtrP h4 h.next p4 [0, 1, 1, 2, 9] false := w4
  have n4 : Ab.Mod none_ h h4 := (n2.trans' (Mod.push none_ _ (.row true 1 (ints .u8 [9]))) (S2 := none_) (fun _ _ k => k) (fun _ _ k => k)).trans' m4 (fun _ _ k => k) (fun i hi k => absurd k (fn2 i hi))
  refine (bytes23_ok w4 (by decide)).mono ?_
  rintro _ h5 ⟨q5, rfl, o5, m5⟩
  have n5 : Ab.Mod none_ h h5 := n4.trans' m5 (fun _ _ k => k) (fun _ _ k => k)
  conv => whnf
  refine ⟨_, rfl, ?_⟩
  conv => whnf
  refine ⟨_, rfl, ?_⟩
  conv => whnf
  clear w0 m0 w1 w2 m2 f2 w3 w4 m4 f4 m5 n2 n4 fn2
  -- an eight octet number
  have w0 := wtr_new h5
  have m0 := Mod.push none_ h5 (.row true 2 [.sl none 0, .bool false])
  refine (nums19 w0 (vs := []) (q := none) (m := 0) ⟨SlIs.nil _ _ _, .inl rfl⟩ (by decide) (by decide) 8).mono ?_
  rintro _ h6 ⟨rfl, p6, w6, f6, m6⟩
  conv => whnf
  have n6 : Ab.Mod none_ h5 h6 := m0.trans' m6 (fun _ _ k => k) (fun i hi k => by
    rcases k with k | ⟨o, k⟩
    · exact absurd k (by omega)
    · cases k)
  have e6 : numsV 8 [] [] false = ([], true) := by decide +kernel
  rw [e6] at w6
  refine (bytes23_bad w6 (by decide)).mono ?_
  rintro _ h7 ⟨q7, rfl, m7⟩
  conv => whnf
  refine ⟨_, rfl, ?_⟩
  conv => whnf
  refine ⟨_, rfl, ?_⟩
  conv => whnf
  have n7 : Ab.Mod none_ h h7 := (n5.trans' n6 (S2 := none_) (fun _ _ k => k) (fun _ _ k => k)).trans' m7 (fun _ _ k => k) (fun _ _ k => k)
  have o7 := (o5.get n6).get m7
  refine (read24 o7 (by decide)).mono ?_
  rintro _ h8 ⟨g, rfl, hg, r8, m8⟩
  conv => whnf
  refine (num25 r8 (by decide) 2).mono ?_
  rintro v9 h9 ⟨e9, r9, m9⟩
  obtain rfl : v9 = i64 1 := e9.trans (congrArg i64 (by decide +kernel))
  have r9 : Rdr h9 g [1, 2, 9] false := r9
  conv => whnf
  refine (num25 r9 (by decide) 2).mono ?_
  rintro v10 h10 ⟨e10, r10, m10⟩
  obtain rfl : v10 = i64 258 := e10.trans (congrArg i64 (by decide +kernel))
  have r10 : Rdr h10 g [9] false := r10
  conv => whnf
  refine (raw27 r10 (by decide) 1).mono ?_
  rintro _ h11 ⟨q11, l11, rfl, o11, r11, m11⟩
  have r11 : Rdr h11 g [] false := r11
  have o11 : Oct h11 q11 l11 [9] := o11
  have l11' := o11.len
  subst l11'
  conv => whnf
  refine (done31 r11).mono ?_
  rintro _ h12 ⟨eh, rfl⟩
  subst h12
  conv => whnf
  refine (num25 r11 (by decide) 1).mono ?_
  rintro v12 h12 ⟨e12, r12, m12⟩
  obtain rfl : v12 = i64 0 := e12.trans (congrArg i64 (by decide +kernel))
  have r12 : Rdr h12 g [] true := r12
  conv => whnf
  have m13 := Mod.push none_ h12 (.row true 1 (ints .i64 [1]))
  have r13 := r12.get m13 (fun k => k)
  refine (nums19n _ _ _).mono ?_
  rintro _ h13 ⟨rfl, eh⟩
  subst h13
  conv => whnf
  refine (bytes23n _).mono ?_
  rintro _ h13 ⟨rfl, eh⟩
  subst h13
  conv => whnf
  refine ⟨_, rfl, ?_⟩
  conv => whnf
  refine ⟨_, rfl, ?_⟩
  conv => whnf
  have o13 := (((((o7.get m8).get m9).get m10).get m11).get m12).get m13
  refine ⟨_, o13.is, octs_in _ (by decide), ?_⟩
  conv => whnf
  have o13' := (o11.get m12).get m13
  refine ⟨_, o13'.is, octs_in _ (by decide), ?_⟩
  conv => whnf
  refine (done31 r13).mono ?_
  rintro _ h14 ⟨eh, rfl⟩
  subst h14
  conv => whnf
  refine (num25n _).mono ?_
  rintro _ h14 ⟨rfl, eh⟩
  subst h14
  conv => whnf
  refine (done31n _).mono ?_
  rintro _ h14 ⟨rfl, eh⟩
  subst h14
  conv => whnf
  refine ⟨rfl, ?_⟩
  have n8 := n7.trans' m8 (S2 := none_) (fun _ _ k => k) (fun _ _ k => k)
  have hg' : ∀ i, i < h.next → one g i → none_ i := fun i hi k => by
    have := n7.next
    unfold one at k
    omega
  exact ((((n8.trans' m9 (S2 := none_) (fun _ _ k => k) hg').trans' m10 (S2 := none_) (fun _ _ k => k) hg').trans' m11 (S2 := none_) (fun _ _ k => k) hg').trans' m12 (S2 := none_) (fun _ _ k => k) hg').trans' m13 (fun _ _ k => k) (fun _ _ k => k)
end Go.Proofs.Ytnpfdppmpmnhbaa
/-! The law OctetsRead. -/
namespace Go.Proofs.Ytnpfdppmpmnhbaa
open Go Go.Ab
def Prs (h : H) (p : Option (Nat × Nat)) (n : Nat) (ps : List (Int × Int)) : Prop := RoSl h p n 2 (pairs .i64 ps)
theorem Prs.len {h : H} {p : Option (Nat × Nat)} {n : Nat} {ps : List (Int × Int)} (o : Prs h p n ps) : n = ps.length := by
  have := o.1
  rw [pairs_length] at this
  omega
theorem Prs.cell {h : H} {p : Option (Nat × Nat)} {n : Nat} {ps : List (Int × Int)} (o : Prs h p n ps) {j : Nat} (hj : j < n) : ∃ i c, p = some (i, c) ∧ Cell h i (c + j * 2 + 0 * 1) (i64 (ps.getD j (0, 0)).1) ∧ Cell h i (c + j * 2 + 1 * 1) (i64 (ps.getD j (0, 0)).2) := by
  have := o.len
  subst this
  obtain ⟨i, c, rfl⟩ := RoSl.some o (by omega)
  obtain ⟨h1, h2⟩ := pairs_get0 .i64 ps j hj
  refine ⟨i, c, rfl, RoSl.cell o h1, ?_⟩
  have := RoSl.cell o h2
  rwa [← Nat.add_assoc] at this

theorem read4 {h : H} {p q : Option (Nat × Nat)} {n m : Nat} {xs : List Int} {ps : List (Int × Int)} (o : Oct h p n xs) (ho : ∀ x ∈ xs, 0 ≤ x ∧ x < 256) (op : Prs h q m ps) :
    ACalls Try.prog 4 [.sl p n, .sl q m] h (fun r _ => r = .bool true) := by
  have hl := o.len
  subst hl
  have hl := op.len
  subst hl
  refine call_ Try.func4 rfl rfl (by kernel_rfl) ?_
  conv => whnf
  refine br_mk (fun hb => ?_) (fun hb => ?_)
  · conv => whnf
    refine (awake18 h).mono ?_
    rintro _ h' ⟨rfl, _⟩
    conv => whnf
  conv => whnf
  refine br_mk (fun hc => ?_) (fun hc => ?_)
  · conv => whnf
    refine (awake18 h).mono ?_
    rintro _ h' ⟨rfl, _⟩
    conv => whnf
  conv => whnf
  simp at hb hc
  refine (read24 o (by omega)).mono ?_
  rintro _ h1 ⟨g, rfl, hg, r1, m1⟩
  conv => whnf
  have m2 := Mod.push none_ h1 (.row true 2 [.sl p xs.length, .bool false])
  have r2 := r1.get m2 (fun k => k)
  have r3 : Rdr (h1.push (.row true 2 [.sl p xs.length, .bool false])) h1.next xs false := ⟨p, _, H.obj_push_new _ _, (o.get m1).get m2⟩
  have op2 : Prs (h1.push (.row true 2 [.sl p xs.length, .bool false])) q ps.length ps := (RoSl.get op m1).get m2
  have hgg : g ≠ h1.next := Nat.ne_of_lt r1.lt
  generalize h1.next = g' at *
  refine ⟨fun env hh => ∃ (j : Nat) (z : Int) (ys : List Int) (sp : Bool), j ≤ ps.length ∧ z = j ∧ ys.length ≤ xs.length ∧ (∀ x ∈ ys, 0 ≤ x ∧ x < 256) ∧ Rdr hh g ys sp ∧ Rdr hh g' ys sp ∧ Prs hh q ps.length ps ∧ env = [(7, i64 z), (6, .ptr (some (g', 0))), (5, .ptr (some (g, 0))), (1, .sl q ps.length)],
      fun env _ => match get env 7 with
        | .int _ z => (ps.length - z).toNat
        | _ => 0, ⟨_, Forget.cons rfl (Forget.cons rfl (Forget.cons rfl (Forget.cons rfl (Forget.nil _)))), 0, _, xs, false, Nat.zero_le _, rfl, Nat.le_refl _, ho, r2, r3, op2, rfl⟩, ?_⟩
  rintro _ h2 ⟨j, z, ys, sp, hj, rfl, hl, hy, r4, r5, op4, rfl⟩
  conv => whnf
  refine br_mk (fun hd => ?_) (fun hd => ?_)
  rotate_left
  · conv => whnf
    refine (awake18 h2).mono ?_
    rintro _ h' ⟨rfl, _⟩
    conv => whnf
  conv => whnf
  simp at hd
  obtain ⟨i, c, rfl, c0, c1⟩ := op4.cell hd
  refine ⟨i, c, j, rfl, rfl, hd, ?_⟩
  conv => whnf
  refine ⟨0, rfl, by decide, ?_⟩
  conv => whnf
  refine ⟨_, c0, ?_⟩
  conv => whnf
  refine ⟨by decide, ?_⟩
  conv => whnf
  refine br_mk (fun he => ?_) (fun he => ?_)
  · conv => whnf
    refine ⟨[0, 1, 2, 3, 4, 5, 7, 8, 9, 10, 11, 12, 6, 13, 14], [0, 0, 0, 6, 14, 30, 63, 0, 0, 0, 768, 1792, 3840, 8191, 16383], by kernel_rfl, ?_⟩
    conv => whnf
    refine ⟨i, c, j, rfl, rfl, hd, ?_⟩
    conv => whnf
    refine ⟨1, rfl, by decide, ?_⟩
    conv => whnf
    refine ⟨_, c1, ?_⟩
    conv => whnf
    refine ⟨i, c, j, rfl, rfl, hd, ?_⟩
    conv => whnf
    refine ⟨1, rfl, by decide, ?_⟩
    conv => whnf
    refine ⟨_, c1, ?_⟩
    conv => whnf
    refine (num25 r4 (by omega) _).mono ?_
    rintro _ h3 ⟨rfl, r6, m3⟩
    conv => whnf
    have op6 : Prs h3 _ _ ps := RoSl.get op4 m3
    obtain ⟨i', c', e', d0, d1⟩ := op6.cell hd
    injection e' with e'
    injection e' with e1 e2
    subst e1 e2
    refine ⟨?_, ?_⟩
    · conv => whnf
      exact ⟨_, d1, rfl⟩
    conv => whnf
    have r7 := r5.get m3 (fun k => hgg k.symm)
    refine (num26 r7 (by omega) _).mono ?_
    rintro _ h4 ⟨rfl, r8, m4⟩
    conv => whnf
    have r9 := r6.get m4 hgg
    have op7 : Prs h4 _ _ ps := RoSl.get op6 m4
    refine br_mk (fun hf => ?_) (fun hf => ?_)
    · simp at hf
    conv => whnf
    generalize hkk : numK (ps.getD j (0, 0)).snd = kk at *
    have hl2 : (rawX ys sp kk).length ≤ xs.length := by
      rw [rawX]
      split
      · simp
        omega
      · exact hl
    have hy2 : ∀ x ∈ rawX ys sp kk, 0 ≤ x ∧ x < 256 := by
      rw [rawX]
      split
      · exact fun x hx => hy x (List.mem_of_mem_drop hx)
      · exact hy
    refine (left29 r9).mono ?_
    rintro _ h5 ⟨eh, rfl⟩
    subst h5
    conv => whnf
    refine (left30 r8).mono ?_
    rintro _ h5 ⟨eh, rfl⟩
    subst h5
    conv => whnf
    refine br_mk (fun hf => ?_) (fun hf => ?_)
    · simp at hf
    conv => whnf
    refine (done31 r9).mono ?_
    rintro _ h5 ⟨eh, rfl⟩
    subst h5
    conv => whnf
    refine (done32 r8).mono ?_
    rintro _ h5 ⟨eh, rfl⟩
    subst h5
    conv => whnf
    refine br_mk (fun hf => ?_) (fun hf => ?_)
    · cases hdv : doneV (rawX ys sp kk) (!rawOk ys sp kk) <;> simp [hdv] at hf
    conv => whnf
    refine ⟨_, Forget.cons rfl (Forget.cons rfl (Forget.cons rfl (Forget.cons rfl (Forget.nil _)))), ⟨j + 1, _, _, _, by omega, succ_i64 hd (by omega), hl2, hy2, r9, r8, op7, rfl⟩, ?_⟩
    show (ps.length - IntKind.i64.wrap ((j : Int) + 1)).toNat < (ps.length - (j : Int)).toNat
    rw [succ_i64 (n := ps.length) (by omega) (by omega)]
    omega
  · conv => whnf
    refine ⟨[0, 1, 2, 3, 4, 5, 8, 9, 10, 11, 12, 13, 6, 7, 14, 15, 16], [0, 0, 0, 6, 14, 30, 63, 127, 0, 0, 0, 1536, 3584, 7680, 16255, 32639, 65535], by kernel_rfl, ?_⟩
    conv => whnf
    refine ⟨i, c, j, rfl, rfl, hd, ?_⟩
    conv => whnf
    refine ⟨1, rfl, by decide, ?_⟩
    conv => whnf
    refine ⟨_, c1, ?_⟩
    conv => whnf
    refine ⟨i, c, j, rfl, rfl, hd, ?_⟩
    conv => whnf
    refine ⟨1, rfl, by decide, ?_⟩
    conv => whnf
    refine ⟨_, c1, ?_⟩
    conv => whnf
    refine (raw27 r4 (by omega) _).mono ?_
    rintro _ h3 ⟨q3, l3, rfl, o3, r6, m3⟩
    conv => whnf
    have op6 : Prs h3 _ _ ps := RoSl.get op4 m3
    obtain ⟨i', c', e', d0, d1⟩ := op6.cell hd
    injection e' with e'
    injection e' with e1 e2
    subst e1 e2
    refine ⟨?_, ?_⟩
    · conv => whnf
      exact ⟨_, d1, rfl⟩
    conv => whnf
    generalize hkk : (ps.getD j (0, 0)).snd = kk at *
    have hy3 : ∀ x ∈ rawV ys sp kk, 0 ≤ x ∧ x < 256 := by
      rw [rawV]
      split
      · exact fun x hx => hy x (List.mem_of_mem_take hx)
      · exact fun x hx => by cases hx
    refine ⟨_, o3.is, hy3, ?_⟩
    conv => whnf
    have r7 := r5.get m3 (fun k => hgg k.symm)
    refine (raw28 r7 (by omega) _).mono ?_
    rintro _ h4 ⟨q4, l4, rfl, o4, r8, m4⟩
    conv => whnf
    have r9 := r6.get m4 hgg
    have op7 : Prs h4 _ _ ps := RoSl.get op6 m4
    refine ⟨?_, ?_⟩
    · conv => whnf
      exact ⟨_, (o3.get m4).is, hy3, rfl⟩
    conv => whnf
    refine ⟨_, o4.is, hy3, ?_⟩
    conv => whnf
    refine br_mk (fun hf => ?_) (fun hf => ?_)
    · simp at hf
    conv => whnf
    have hl2 : (rawX ys sp kk).length ≤ xs.length := by
      rw [rawX]
      split
      · simp
        omega
      · exact hl
    have hy2 : ∀ x ∈ rawX ys sp kk, 0 ≤ x ∧ x < 256 := by
      rw [rawX]
      split
      · exact fun x hx => hy x (List.mem_of_mem_drop hx)
      · exact hy
    refine (left29 r9).mono ?_
    rintro _ h5 ⟨eh, rfl⟩
    subst h5
    conv => whnf
    refine (left30 r8).mono ?_
    rintro _ h5 ⟨eh, rfl⟩
    subst h5
    conv => whnf
    refine br_mk (fun hf => ?_) (fun hf => ?_)
    · simp at hf
    conv => whnf
    refine (done31 r9).mono ?_
    rintro _ h5 ⟨eh, rfl⟩
    subst h5
    conv => whnf
    refine (done32 r8).mono ?_
    rintro _ h5 ⟨eh, rfl⟩
    subst h5
    conv => whnf
    refine br_mk (fun hf => ?_) (fun hf => ?_)
    · cases hdv : doneV (rawX ys sp kk) (!rawOk ys sp kk) <;> simp [hdv] at hf
    conv => whnf
    refine ⟨_, Forget.cons rfl (Forget.cons rfl (Forget.cons rfl (Forget.cons rfl (Forget.nil _)))), ⟨j + 1, _, _, _, by omega, succ_i64 hd (by omega), hl2, hy2, r9, r8, op7, rfl⟩, ?_⟩
    show (ps.length - IntKind.i64.wrap ((j : Int) + 1)).toNat < (ps.length - (j : Int)).toNat
    rw [succ_i64 (n := ps.length) (by omega) (by omega)]
    omega
end Go.Proofs.Ytnpfdppmpmnhbaa
/-! The law OctetsWrite: what it is handed, and its own bound. -/
namespace Go.Proofs.Ytnpfdppmpmnhbaa
open Go Go.Ab
theorem flat_get {α : Type} {f : α → List V} {sz : Nat} (hf : ∀ a, (f a).length = sz) {d : Nat} (hd : d < sz) : ∀ (es : List α) (j : Nat), (es.flatMap f)[j * sz + d]? = (es[j]?).bind fun e => (f e)[d]?
  | [], j => by simp
  | e :: es, 0 => by
    rw [List.flatMap_cons, Nat.zero_mul, Nat.zero_add, List.getElem?_append_left (by rw [hf]; exact hd)]
    rfl
  | e :: es, j + 1 => by
    rw [List.flatMap_cons, List.getElem?_append_right (by rw [hf, Nat.add_mul]; omega), hf]
    have : (j + 1) * sz + d - sz = j * sz + d := by
      rw [Nat.add_mul]
      omega
    rw [this, flat_get hf hd es j]
    rfl
theorem flat_length {α : Type} {f : α → List V} {sz : Nat} (hf : ∀ a, (f a).length = sz) (es : List α) : (es.flatMap f).length = es.length * sz := by
  induction es with
  | nil => simp
  | cons e es ih => rw [List.flatMap_cons, List.length_append, hf, ih, List.length_cons, Nat.add_mul]; omega
structure Act where
  kind : Int
  size : Int
  np : Option (Nat × Nat)
  nums : List Int
  bp : Option (Nat × Nat)
  octs : List Int
def Act.cells (a : Act) : List V := [i64 a.kind, i64 a.size, .sl a.np a.nums.length, .sl a.bp a.octs.length]
def Act.ok (h : H) (a : Act) : Prop := RoSl h a.np a.nums.length 1 (ints .i64 a.nums) ∧ Oct h a.bp a.octs.length a.octs ∧ ∀ x ∈ a.octs, 0 ≤ x ∧ x < 256
def Acts (h : H) (p : Option (Nat × Nat)) (n : Nat) (es : List Act) : Prop := RoSl h p n 4 (es.flatMap Act.cells) ∧ ∀ e ∈ es, e.ok h
theorem Acts.len {h : H} {p : Option (Nat × Nat)} {n : Nat} {es : List Act} (o : Acts h p n es) : n = es.length := by
  have := o.1.1
  rw [flat_length (sz := 4) (fun _ => rfl)] at this
  omega
theorem Acts.get {S : Nat → Prop} {h h' : H} {p : Option (Nat × Nat)} {n : Nat} {es : List Act} (o : Acts h p n es) (m : Ab.Mod S h h') : Acts h' p n es :=
  ⟨o.1.get m, fun e he => ⟨(o.2 e he).1.get m, (o.2 e he).2.1.get m, (o.2 e he).2.2⟩⟩
theorem Acts.cell {h : H} {p : Option (Nat × Nat)} {n : Nat} {es : List Act} (o : Acts h p n es) {j : Nat} (hj : j < es.length) : ∃ i c e, p = some (i, c) ∧ es[j]? = some e ∧ e.ok h ∧ Cell h i (c + j * 4 + 0) (i64 e.kind) ∧ Cell h i (c + j * 4 + 1) (i64 e.size) ∧ Cell h i (c + j * 4 + 2) (.sl e.np e.nums.length) ∧ Cell h i (c + j * 4 + 3) (.sl e.bp e.octs.length) := by
  have hl := o.len
  obtain ⟨i, c, rfl⟩ := RoSl.some o.1 (by omega)
  have he : es[j]? = some es[j] := List.getElem?_eq_getElem hj
  have key : ∀ d v, d < 4 → (Act.cells es[j])[d]? = some v → Cell h i (c + j * 4 + d) v := fun d v hd hv => by
    have := RoSl.cell o.1 (j := j * 4 + d) (v := v) (by
      rw [flat_get (sz := 4) (fun _ => rfl) hd, he]
      exact hv)
    rwa [← Nat.add_assoc] at this
  exact ⟨i, c, es[j], rfl, he, o.2 _ (List.getElem_mem hj), key 0 _ (by decide) rfl, key 1 _ (by decide) rfl, key 2 _ (by decide) rfl, key 3 _ (by decide) rfl⟩
def Act.fits (e : Act) : Prop := e.nums.length ≤ 20 ∧ e.octs.length ≤ 60

theorem few17 {h : H} {p : Option (Nat × Nat)} {n : Nat} {es : List Act} (o : Acts h p n es) (hn : n ≤ maxLen) : ACalls Try.prog 17 [.sl p n] h (fun r h' => h' = h ∧ ∃ b, r = .bool b ∧ (b = true → es.length ≤ 30 ∧ ∀ e ∈ es, e.fits)) := by
  have hl := o.len
  subst hl
  refine call_ Try.func17 rfl rfl (by kernel_rfl) ?_
  conv => whnf
  refine ⟨fun env hh => hh = h ∧ ∃ (j : Nat) (z : Int), j ≤ es.length ∧ j ≤ 40 ∧ z = j ∧ (∀ i e, i < j → es[i]? = some e → e.fits) ∧ env = [(3, i64 z), (0, .sl p es.length)],
    fun env _ => match get env 3 with
      | .int _ z => (es.length - z).toNat
      | _ => 0, ⟨_, Forget.cons rfl (Forget.cons rfl (Forget.nil _)), rfl, 0, _, Nat.zero_le _, by decide, rfl, fun i e hi => absurd hi (Nat.not_lt_zero i), rfl⟩, ?_⟩
  rintro _ _ ⟨rfl, j, z, hj, hj4, rfl, hf, rfl⟩
  conv => whnf
  refine br_mk (fun hb => ?_) (fun hb => ?_)
  rotate_left
  · conv => whnf
    simp at hb
    obtain rfl : j = es.length := by omega
    refine ⟨rfl, _, rfl, fun hb => ⟨by simp at hb; omega, fun e he => ?_⟩⟩
    obtain ⟨i, hi, rfl⟩ := List.getElem_of_mem he
    exact hf i _ hi (List.getElem?_eq_getElem hi)
  conv => whnf
  refine br_mk (fun hc => ?_) (fun hc => ?_)
  rotate_left
  · conv => whnf
    simp at hb hc
    refine ⟨rfl, _, rfl, fun hb => ?_⟩
    simp at hb
    omega
  conv => whnf
  simp at hb hc
  obtain ⟨i, c, e, rfl, he, hok, c0, c1, c2, c3⟩ := o.cell hb
  refine ⟨i, c, j, rfl, rfl, hb, ?_⟩
  conv => whnf
  refine ⟨_, c2, ?_⟩
  conv => whnf
  refine br_mk (fun hd => ?_) (fun hd => ?_)
  · conv => whnf
    exact ⟨rfl, false, rfl, fun k => by cases k⟩
  conv => whnf
  refine ⟨i, c, j, rfl, rfl, hb, ?_⟩
  conv => whnf
  refine ⟨_, c3, ?_⟩
  conv => whnf
  refine br_mk (fun hg => ?_) (fun hg => ?_)
  · conv => whnf
    exact ⟨rfl, false, rfl, fun k => by cases k⟩
  conv => whnf
  simp at hd hg
  have hs := succ_i64 (j := j) (n := 40) (by omega) (by omega)
  refine ⟨_, Forget.cons rfl (Forget.cons rfl (Forget.nil _)), ⟨rfl, j + 1, _, by omega, by omega, hs, fun i' e' hi he' => ?_, rfl⟩, ?_⟩
  · rcases Nat.lt_succ_iff_lt_or_eq.1 hi with k | rfl
    · exact hf i' e' k he'
    · rw [he] at he'
      injection he' with he'
      subst he'
      exact ⟨by omega, by omega⟩
  · show (es.length - IntKind.i64.wrap ((j : Int) + 1)).toNat < (es.length - (j : Int)).toNat
    rw [hs]
    omega
end Go.Proofs.Ytnpfdppmpmnhbaa
/-! The law OctetsWrite: the plain law, and the walk. -/
namespace Go.Proofs.Ytnpfdppmpmnhbaa
open Go Go.Ab
/-! ### Two writers -/
def Apart (g : Nat) (p : Option (Nat × Nat)) (g' : Nat) (p' : Option (Nat × Nat)) : Prop := ∀ i, foot g p i → ¬ foot g' p' i
theorem Apart.symm {g g' : Nat} {p p' : Option (Nat × Nat)} (a : Apart g p g' p') : Apart g' p' g p := fun i k k' => a i k' k
theorem Apart.step {h : H} {g g' : Nat} {p p' pn : Option (Nat × Nat)} {ys : List Int} {sp : Bool} (a : Apart g p g' p') (w : WtrP h g' p' ys sp) (f : isFresh h p pn) : Apart g pn g' p' := fun i k k' => by
  have hi : i < h.next := by
    rcases k' with rfl | ⟨o, e⟩
    · exact w.lt
    · exact w.slt e
  exact a i (foot_fresh f i hi k) k'
/-! ### Plain -/
def Bts (xs : List Int) : Prop := ∀ x ∈ xs, 0 ≤ x ∧ x < 256
theorem Bts.append {xs ys : List Int} (h1 : Bts xs) (h2 : Bts ys) : Bts (xs ++ ys) := fun x hx => by
  rcases List.mem_append.1 hx with k | k
  · exact h1 x k
  · exact h2 x k
theorem wrap_u8 (x : Int) : 0 ≤ IntKind.u8.wrap x ∧ IntKind.u8.wrap x < 256 := by
  simp [IntKind.wrap, IntKind.bits, IntKind.signed]
  omega
theorem be_bts (v : Int) (n : Nat) : Bts (be v n) := by
  induction n with
  | zero => exact fun x hx => by cases hx
  | succ n ih =>
    intro x hx
    rcases List.mem_cons.1 hx with rfl | hx
    · exact wrap_u8 _
    · exact ih x hx
def refGo (k : Int) : List Int → List Int → Bool → List Int × Bool
  | [], ys, sp => (ys, sp)
  | v :: vs, ys, sp => refGo k vs (if misfit k v then ys else ys ++ be v k.toNat) (misfit k v || sp)
theorem refGo_spoilt (k : Int) : ∀ (vs ys : List Int), (refGo k vs ys true).2 = true
  | [], _ => rfl
  | v :: vs, ys => by
    rw [refGo, Bool.or_true]
    exact refGo_spoilt k vs _
theorem shr_nonneg {v k : Int} (h : 0 ≤ v) : 0 ≤ shr_ v k := Int.fdiv_nonneg h (Int.pow_nonneg (by decide))
theorem bad_misfit {k v : Int} (h : small k = false) : bad k v = misfit k v := by
  simp only [small, Bool.or_eq_false_iff] at h
  rw [bad, misfit, h.1, h.2, Bool.false_or, Bool.false_or]
  by_cases hv : v < 0
  · simp [hv]
  · have := shr_nonneg (k := k) (v := v) (by omega)
    have e : decide (0 < shr_ v k) = (shr_ v k != 0) := by
      rw [Bool.eq_iff_iff]
      simp
      omega
    rw [e]
theorem numsGo_refGo {k : Int} (hk : small k = false) : ∀ (vs xs ys : List Int) (sp : Bool), (sp = false → xs = ys) → (numsGo k vs xs sp).2 = (refGo k vs ys sp).2 ∧ ((refGo k vs ys sp).2 = false → (numsGo k vs xs sp).1 = (refGo k vs ys sp).1)
  | [], xs, ys, sp, h => ⟨rfl, h⟩
  | v :: vs, xs, ys, sp, h => by
    rw [numsGo, refGo, bad_misfit hk]
    cases hm : misfit k v with
    | true =>
      simp only [if_true, Bool.true_or]
      rw [refGo_spoilt]
      exact ⟨rfl, fun e => by cases e⟩
    | false =>
      simp only [Bool.false_or]
      exact numsGo_refGo hk vs _ _ sp (fun e => by rw [h e]; simp)
theorem nums_ref (k : Int) (vs xs ys : List Int) (sp : Bool) (h : sp = false → xs = ys) : (numsV k vs xs sp).2 = (refGo k vs ys (sp || small k)).2 ∧ ((refGo k vs ys (sp || small k)).2 = false → (numsV k vs xs sp).1 = (refGo k vs ys (sp || small k)).1) := by
  rw [numsV]
  cases hk : small k with
  | true =>
    rw [Bool.or_true, refGo_spoilt]
    exact ⟨rfl, fun e => by cases e⟩
  | false =>
    rw [Bool.or_false]
    exact numsGo_refGo hk vs xs ys sp h
theorem small_toNat {k : Int} (h : small k = false) : k.toNat ≤ 7 := by
  simp [small] at h
  omega
theorem misfit_small {k v : Int} (h : misfit k v = false) : small k = false := by
  simp [misfit] at h
  simp [small]
  omega
theorem numsGo_len {k : Int} (hk : small k = false) : ∀ (vs xs : List Int) (sp : Bool), (numsGo k vs xs sp).1.length ≤ xs.length + 7 * vs.length ∧ (Bts xs → Bts (numsGo k vs xs sp).1)
  | [], xs, sp => ⟨by simp [numsGo], id⟩
  | v :: vs, xs, sp => by
    rw [numsGo]
    cases hb : bad k v with
    | true => exact ⟨by simp, id⟩
    | false =>
      have := numsGo_len hk vs (xs ++ be v k.toNat) sp
      have h7 := small_toNat hk
      rw [List.length_append, be_length] at this
      simp only [if_neg (show ¬ (false = true) by decide)]
      exact ⟨by simp only [List.length_cons]; omega, fun h => this.2 (h.append (be_bts _ _))⟩
theorem numsV_len (k : Int) (vs xs : List Int) (sp : Bool) : (numsV k vs xs sp).1.length ≤ xs.length + 7 * vs.length ∧ (Bts xs → Bts (numsV k vs xs sp).1) := by
  rw [numsV]
  cases hk : small k with
  | true => exact ⟨by simp, id⟩
  | false => exact numsGo_len hk vs xs sp
end Go.Proofs.Ytnpfdppmpmnhbaa
/-! The law OctetsWrite: the walk. -/
namespace Go.Proofs.Ytnpfdppmpmnhbaa
open Go Go.Ab
theorem WtrP.len {h : H} {g : Nat} {p : Option (Nat × Nat)} {xs : List Int} {sp : Bool} (w : WtrP h g p xs sp) : SlIs h p xs.length false 1 (ints .u8 xs) := w.2.1.weak
theorem refGo_step {k : Int} {vs ys zs : List Int} {sp sp' : Bool} {i : Nat} (hi : i < vs.length) (h : refGo k (vs.drop i) zs sp' = refGo k vs ys sp) : refGo k (vs.drop (i + 1)) (if misfit k (vs.getD i 0) then zs else zs ++ be (vs.getD i 0) k.toNat) (misfit k (vs.getD i 0) || sp') = refGo k vs ys sp := by
  rw [drop_cons hi, refGo] at h
  exact h
theorem ref_len {k v : Int} {zs : List Int} (hb : Bts zs) : (if misfit k v then zs else zs ++ be v k.toNat).length ≤ zs.length + 7 ∧ Bts (if misfit k v then zs else zs ++ be v k.toNat) := by
  cases hm : misfit k v with
  | true => exact ⟨by simp, hb⟩
  | false =>
    have := small_toNat (misfit_small hm)
    simp only [if_neg (show ¬ (false = true) by decide)]
    exact ⟨by rw [List.length_append, be_length]; omega, hb.append (be_bts _ _)⟩

theorem small_not (k : Int) : (!decide (1 ≤ k ∧ k ≤ 7)) = small k := by
  rw [Bool.eq_iff_iff, small]
  simp
  try omega
theorem write3 {h : H} {p : Option (Nat × Nat)} {n : Nat} {es : List Act} (o : Acts h p n es) (hn : n ≤ maxLen) : ACalls Try.prog 3 [.sl p n] h (fun r _ => r = .bool true) := by
  have hl := o.len
  subst hl
  refine call_ Try.func3 rfl rfl (by kernel_rfl) ?_
  conv => whnf
  refine (few17 o hn).mono ?_
  rintro _ h' ⟨eh, b, rfl, hb⟩
  subst h'
  conv => whnf
  refine br_mk (fun hc => ?_) (fun hc => ?_)
  · conv => whnf
    refine (awake18 h).mono ?_
    rintro _ h' ⟨rfl, _⟩
    conv => whnf
  conv => whnf
  obtain ⟨h30, hfit⟩ := hb (by simpa using hc)
  have w1 := (wtr_new h).get (Mod.push none_ _ (.row true 2 [.sl none 0, .bool false])) (fun _ k => k.elim)
  have w2 : WtrP _ (h.next + 1) none [] false := wtr_new (h.push (.row true 2 [.sl none 0, .bool false]))
  have o2 := (o.get (Mod.push none_ _ (.row true 2 [.sl none 0, .bool false]))).get (Mod.push none_ _ (.row true 2 [.sl none 0, .bool false]))
  have ap : Apart h.next none (h.next + 1) none := by
    rintro i (rfl | ⟨_, k⟩) (k' | ⟨_, k'⟩)
    · exact absurd k' (Nat.ne_of_lt (Nat.lt_succ_self _))
    · cases k'
    · cases k
    · cases k
  refine ⟨fun env hh => ∃ (j : Nat) (z : Int) (p1 p2 : Option (Nat × Nat)) (xs ys : List Int) (sp : Bool), j ≤ es.length ∧ z = j ∧ WtrP hh h.next p1 xs sp ∧ WtrP hh (h.next + 1) p2 ys sp ∧ Apart h.next p1 (h.next + 1) p2 ∧ (sp = false → xs = ys) ∧ xs.length ≤ 200 * j ∧ ys.length ≤ 200 * j ∧ Bts xs ∧ Bts ys ∧ Acts hh p es.length es ∧ env = [(5, i64 z), (4, .ptr (some (h.next + 1, 0))), (3, .ptr (some (h.next, 0))), (0, .sl p es.length)],
    fun env _ => match get env 5 with
      | .int _ z => (es.length - z).toNat
      | _ => 0, ⟨_, Forget.cons rfl (Forget.cons rfl (Forget.cons rfl (Forget.cons rfl (Forget.nil _)))), 0, _, none, none, [], [], false, Nat.zero_le _, rfl, w1, w2, ap, fun _ => rfl, Nat.le_refl _, Nat.le_refl _, fun _ k => (by cases k), fun _ k => (by cases k), o2, rfl⟩, ?_⟩
  clear w1 w2 o2 ap o
  generalize h.next + 1 = g' at *
  generalize h.next = g at *
  rintro _ h1 ⟨j, z, p1, p2, xs, ys, sp, hj, rfl, w1, w2, ap, hxy, lx, ly, bx, bys, o, rfl⟩
  conv => whnf
  refine br_mk (fun hd => ?_) (fun hd => ?_)
  rotate_left
  · conv => whnf
    refine (bytes23 w1 (by omega)).mono ?_
    rintro _ h2 ⟨q, m, rfl, oq, m2⟩
    conv => whnf
    refine ⟨_, rfl, ?_⟩
    conv => whnf
    refine ⟨_, rfl, ?_⟩
    conv => whnf
    have w3 := w2.get m2 (fun _ k => k.elim)
    have hm := oq.len
    subst hm
    refine ⟨_, Cell.mk w3.1 rfl, ?_⟩
    conv => whnf
    cases sp with
    | true =>
      conv => whnf
      refine (awake18 h2).mono ?_
      rintro _ h' ⟨rfl, _⟩
      conv => whnf
    | false =>
      conv => whnf
      refine ⟨[0, 1, 2, 3, 4, 5, 6, 7, 8, 9, 10, 11, 12, 13, 14, 15], [0, 1, 3, 7, 15, 7, 39, 103, 231, 487, 1023, 2047, 4095, 8191, 16383, 32767], by kernel_rfl, ?_⟩
      conv => whnf
      refine ⟨_, oq.is, bx, ?_⟩
      conv => whnf
      refine ⟨_, Cell.mk w3.1 rfl, ?_⟩
      conv => whnf
      refine ⟨_, w3.len, bys, ?_⟩
      conv => whnf
      refine br_mk (fun he => ?_) (fun he => ?_)
      rotate_left
      · rw [hxy rfl] at he
        simp at he
      conv => whnf
      refine (awake18 h2).mono ?_
      rintro _ h' ⟨rfl, _⟩
      conv => whnf
  conv => whnf
  simp at hd
  obtain ⟨i, c, e, rfl, hej, ⟨hnum, hoct, hbt⟩, c0, c1, c2, c3⟩ := o.cell hd
  obtain ⟨f1, f2⟩ := hfit e (List.mem_of_getElem? hej)
  refine ⟨i, c, j, rfl, rfl, hd, ?_⟩
  conv => whnf
  refine ⟨_, c0, ?_⟩
  conv => whnf
  have hs := succ_i64 (j := j) (n := es.length) hd (by omega)
  refine br_mk (fun he => ?_) (fun he => ?_)
  rotate_left
  · conv => whnf
    refine ⟨i, c, j, rfl, rfl, hd, ?_⟩
    conv => whnf
    refine ⟨_, c3, ?_⟩
    conv => whnf
    refine (raw22 w1 hoct.is (by omega) (by omega)).mono ?_
    rintro _ h2 ⟨rfl, p3, w3, fr3, m3⟩
    conv => whnf
    have w4 := w2.get m3 ap
    have ap2 := ap.step w2 fr3
    have o2 := o.get m3
    obtain ⟨i', c', e', e1, hej', ⟨_, hoct2, _⟩, _, _, _, d3⟩ := o2.cell hd
    rw [hej] at hej'
    injection hej' with hej'
    subst hej'
    injection e1 with e1
    injection e1 with e1 e2
    subst e1 e2
    refine ⟨[0, 1, 2, 3, 4, 5, 6, 7, 8, 9, 10, 11, 12, 13], [0, 0, 2, 6, 14, 0, 0, 96, 224, 480, 1022, 2047, 4095, 8191], by kernel_rfl, ?_⟩
    conv => whnf
    refine ⟨_, Cell.mk w4.1 rfl, ?_⟩
    conv => whnf
    refine ⟨i, c, j, rfl, rfl, hd, ?_⟩
    conv => whnf
    refine ⟨_, d3, ?_⟩
    conv => whnf
    refine ⟨_, _, w4.2.1, hoct2.is, by rw [T5b]; omega, by omega, fun p5 h3 hsl hm3 hf3 => ?_⟩
    conv => whnf
    obtain ⟨e3, p6, w6, fr6, m6⟩ := w4.app (ys := e.octs) ⟨Nat.le_refl _, fun _ _ _ => rfl⟩ hsl hm3 hf3
    refine ⟨_, _, e3, Nat.le_of_ble_eq_true rfl, ?_⟩
    conv => whnf
    have w7 := w3.get m6 ap2.symm
    refine ⟨_, Forget.cons rfl (Forget.cons rfl (Forget.cons rfl (Forget.cons rfl (Forget.nil _)))), ⟨j + 1, _, p3, p6, _, _, sp, by omega, hs, w7, w6, (ap2.symm.step w3 fr6).symm, fun k => by rw [hxy k], ?_, ?_, bx.append hbt, bys.append hbt, o2.get m6, rfl⟩, ?_⟩
    · rw [List.length_append]
      omega
    · rw [List.length_append]
      omega
    · show (es.length - IntKind.i64.wrap ((j : Int) + 1)).toNat < (es.length - (j : Int)).toNat
      rw [hs]
      omega
  conv => whnf
  refine ⟨[0, 1, 2, 3, 4, 5, 6, 7, 8, 9, 10, 11, 12], [0, 0, 0, 6, 14, 30, 0, 0, 192, 448, 960, 2047, 4095], by kernel_rfl, ?_⟩
  conv => whnf
  refine ⟨i, c, j, rfl, rfl, hd, ?_⟩
  conv => whnf
  refine ⟨_, c1, ?_⟩
  conv => whnf
  refine ⟨i, c, j, rfl, rfl, hd, ?_⟩
  conv => whnf
  refine ⟨_, c2, ?_⟩
  conv => whnf
  refine (nums19 w1 (Nums.of_ro hnum) (by omega) (by omega) _).mono ?_
  rintro _ h2 ⟨rfl, p3, w3, fr3, m3⟩
  conv => whnf
  have w4 := w2.get m3 ap
  have ap2 := ap.step w2 fr3
  have o2 := o.get m3
  obtain ⟨i', c', e', e1, hej', hok2, _, d1, d2, _⟩ := o2.cell hd
  rw [hej] at hej'
  injection hej' with hej'
  subst hej'
  injection e1 with e1
  injection e1 with e1 e2
  subst e1 e2
  refine ⟨_, Cell.mk w4.1 rfl, ?_⟩
  conv => whnf
  obtain ⟨q5, w5, fr5, m5⟩ := w4.spoil (sp || small e.size)
  have o5 := o2.get m5
  have w6 := w3.get m5 ap2.symm
  have ap5 := ap2.symm.step w3 fr5
  obtain ⟨nr1, nr2⟩ := nums_ref e.size e.nums xs ys sp hxy
  obtain ⟨nl1, nl2⟩ := numsV_len e.size e.nums xs sp
  refine br_mk (fun hg => ?_) (fun hg => ?_)
  · conv => whnf
    refine ⟨_, _, w4.1, Nat.le_of_ble_eq_true rfl, ?_⟩
    have eR : splice [V.sl p2 ys.length, V.bool sp] (0 + 1) (vcells (V.bool true)) = [.sl p2 ys.length, .bool (sp || small e.size)] := by simp [hg, splice, vcells]
    rw [eR]
    generalize h2.set g' (.row true 2 [.sl p2 ys.length, .bool (sp || small e.size)]) = h5 at *
    conv => whnf
    generalize hsp0 : (sp || small e.size) = sp0 at *
    refine ⟨fun env hh => ∃ (a : Nat) (z : Int) (q : Option (Nat × Nat)) (zs : List Int) (sp4 : Bool), a ≤ e.nums.length ∧ z = a ∧ WtrP hh g' q zs sp4 ∧ refGo e.size (e.nums.drop a) zs sp4 = refGo e.size e.nums ys sp0 ∧ zs.length ≤ ys.length + 7 * a ∧ Bts zs ∧ WtrP hh g p3 (numsV e.size e.nums xs sp).1 (numsV e.size e.nums xs sp).2 ∧ Apart g' q g p3 ∧ Acts hh (some (i, c)) es.length es ∧ env = [(6, i64 z), (5, i64 j), (4, .ptr (some (g', 0))), (3, .ptr (some (g, 0))), (0, .sl (some (i, c)) es.length)],
      fun env _ => match get env 6 with
        | .int _ z => (e.nums.length - z).toNat
        | _ => 0, ⟨_, Forget.cons rfl (Forget.cons rfl (Forget.cons rfl (Forget.cons rfl (Forget.cons rfl (Forget.nil _))))), 0, _, q5, ys, sp0, Nat.zero_le _, rfl, w5, rfl, Nat.le_refl _, bys, w6, ap5, o5, rfl⟩, ?_⟩
    rintro _ h6 ⟨a, z, q, zs, sp4, ha, rfl, w7, hgo, lz, bz, w8, ap8, o8, rfl⟩
    conv => whnf
    obtain ⟨i', c', e', e1, hej', hok8, _, k1, k2, _⟩ := o8.cell hd
    rw [hej] at hej'
    injection hej' with hej'
    subst hej'
    injection e1 with e1
    injection e1 with e1 e2
    subst e1 e2
    refine ⟨i, c, j, rfl, rfl, hd, ?_⟩
    conv => whnf
    refine ⟨_, k2, ?_⟩
    conv => whnf
    refine br_mk (fun hk => ?_) (fun hk => ?_)
    · conv => whnf
      simp at hk
      refine ⟨[0, 1, 2, 3, 4, 5, 6, 7, 8, 9, 10, 11, 12, 13, 14], [0, 0, 0, 6, 14, 30, 0, 0, 192, 448, 960, 0, 4032, 8128, 16383], by kernel_rfl, ?_⟩
      conv => whnf
      refine ⟨i, c, j, rfl, rfl, hd, ?_⟩
      conv => whnf
      refine ⟨_, k1, ?_⟩
      conv => whnf
      refine ⟨i, c, j, rfl, rfl, hd, ?_⟩
      conv => whnf
      refine ⟨_, k2, ?_⟩
      conv => whnf
      obtain ⟨i2, c2', hnp, kc⟩ := (Nums.of_ro (S := none_) hok8.1).cell hk
      rw [hnp]
      refine ⟨i2, c2', a, rfl, rfl, hk, ?_⟩
      conv => whnf
      refine ⟨_, kc, ?_⟩
      conv => whnf
      refine (num21 w7 (by omega) _ _).mono ?_
      rintro _ h7 ⟨rfl, q9, w9, fr9, m9⟩
      conv => whnf
      obtain ⟨rl1, rl2⟩ := ref_len (k := e.size) (v := e.nums.getD a 0) bz
      have hs2 := succ_i64 (j := a) (n := e.nums.length) hk (by omega)
      refine ⟨_, Forget.cons rfl (Forget.cons rfl (Forget.cons rfl (Forget.cons rfl (Forget.cons rfl (Forget.nil _))))), ⟨a + 1, _, q9, _, _, by omega, hs2, w9, refGo_step hk hgo, by omega, rl2, w8.get m9 ap8, ap8.step w8 fr9, o8.get m9, rfl⟩, ?_⟩
      show (e.nums.length - IntKind.i64.wrap ((a : Int) + 1)).toNat < (e.nums.length - (a : Int)).toNat
      rw [hs2]
      omega
    · conv => whnf
      simp at hk
      obtain rfl : a = e.nums.length := by omega
      rw [List.drop_length, refGo] at hgo
      rw [← hgo] at nr1 nr2
      rw [nr1] at w8
      refine ⟨_, Forget.cons rfl (Forget.cons rfl (Forget.cons rfl (Forget.cons rfl (Forget.nil _)))), ⟨j + 1, _, p3, q, _, zs, sp4, by omega, hs, w8, w7, ap8.symm, nr2, by omega, by omega, nl2 bx, bz, o8, rfl⟩, ?_⟩
      show (es.length - IntKind.i64.wrap ((j : Int) + 1)).toNat < (es.length - (j : Int)).toNat
      rw [hs]
      omega
  · conv => whnf
    refine ⟨i, c, j, rfl, rfl, hd, ?_⟩
    conv => whnf
    refine ⟨_, d1, ?_⟩
    conv => whnf
    refine (size20 _ _).mono ?_
    rintro _ h' ⟨eh, rfl⟩
    subst h'
    conv => whnf
    refine ⟨_, _, w4.1, Nat.le_of_ble_eq_true rfl, ?_⟩
    have eR : splice [V.sl p2 ys.length, V.bool sp] (0 + 1) (vcells (V.bool (!decide (1 ≤ e.size ∧ e.size ≤ 7)))) = [.sl p2 ys.length, .bool (sp || small e.size)] := by
      rw [small_not]
      simp [hg, splice, vcells]
    rw [eR]
    generalize h2.set g' (.row true 2 [.sl p2 ys.length, .bool (sp || small e.size)]) = h5 at *
    conv => whnf
    generalize hsp0 : (sp || small e.size) = sp0 at *
    refine ⟨fun env hh => ∃ (a : Nat) (z : Int) (q : Option (Nat × Nat)) (zs : List Int) (sp4 : Bool), a ≤ e.nums.length ∧ z = a ∧ WtrP hh g' q zs sp4 ∧ refGo e.size (e.nums.drop a) zs sp4 = refGo e.size e.nums ys sp0 ∧ zs.length ≤ ys.length + 7 * a ∧ Bts zs ∧ WtrP hh g p3 (numsV e.size e.nums xs sp).1 (numsV e.size e.nums xs sp).2 ∧ Apart g' q g p3 ∧ Acts hh (some (i, c)) es.length es ∧ env = [(6, i64 z), (5, i64 j), (4, .ptr (some (g', 0))), (3, .ptr (some (g, 0))), (0, .sl (some (i, c)) es.length)],
      fun env _ => match get env 6 with
        | .int _ z => (e.nums.length - z).toNat
        | _ => 0, ⟨_, Forget.cons rfl (Forget.cons rfl (Forget.cons rfl (Forget.cons rfl (Forget.cons rfl (Forget.nil _))))), 0, _, q5, ys, sp0, Nat.zero_le _, rfl, w5, rfl, Nat.le_refl _, bys, w6, ap5, o5, rfl⟩, ?_⟩
    rintro _ h6 ⟨a, z, q, zs, sp4, ha, rfl, w7, hgo, lz, bz, w8, ap8, o8, rfl⟩
    conv => whnf
    obtain ⟨i', c', e', e1, hej', hok8, _, k1, k2, _⟩ := o8.cell hd
    rw [hej] at hej'
    injection hej' with hej'
    subst hej'
    injection e1 with e1
    injection e1 with e1 e2
    subst e1 e2
    refine ⟨i, c, j, rfl, rfl, hd, ?_⟩
    conv => whnf
    refine ⟨_, k2, ?_⟩
    conv => whnf
    refine br_mk (fun hk => ?_) (fun hk => ?_)
    · conv => whnf
      simp at hk
      refine ⟨[0, 1, 2, 3, 4, 5, 6, 7, 8, 9, 10, 11, 12, 13, 14], [0, 0, 0, 6, 14, 30, 0, 0, 192, 448, 960, 0, 4032, 8128, 16383], by kernel_rfl, ?_⟩
      conv => whnf
      refine ⟨i, c, j, rfl, rfl, hd, ?_⟩
      conv => whnf
      refine ⟨_, k1, ?_⟩
      conv => whnf
      refine ⟨i, c, j, rfl, rfl, hd, ?_⟩
      conv => whnf
      refine ⟨_, k2, ?_⟩
      conv => whnf
      obtain ⟨i2, c2', hnp, kc⟩ := (Nums.of_ro (S := none_) hok8.1).cell hk
      rw [hnp]
      refine ⟨i2, c2', a, rfl, rfl, hk, ?_⟩
      conv => whnf
      refine ⟨_, kc, ?_⟩
      conv => whnf
      refine (num21 w7 (by omega) _ _).mono ?_
      rintro _ h7 ⟨rfl, q9, w9, fr9, m9⟩
      conv => whnf
      obtain ⟨rl1, rl2⟩ := ref_len (k := e.size) (v := e.nums.getD a 0) bz
      have hs2 := succ_i64 (j := a) (n := e.nums.length) hk (by omega)
      refine ⟨_, Forget.cons rfl (Forget.cons rfl (Forget.cons rfl (Forget.cons rfl (Forget.cons rfl (Forget.nil _))))), ⟨a + 1, _, q9, _, _, by omega, hs2, w9, refGo_step hk hgo, by omega, rl2, w8.get m9 ap8, ap8.step w8 fr9, o8.get m9, rfl⟩, ?_⟩
      show (e.nums.length - IntKind.i64.wrap ((a : Int) + 1)).toNat < (e.nums.length - (a : Int)).toNat
      rw [hs2]
      omega
    · conv => whnf
      simp at hk
      obtain rfl : a = e.nums.length := by omega
      rw [List.drop_length, refGo] at hgo
      rw [← hgo] at nr1 nr2
      rw [nr1] at w8
      refine ⟨_, Forget.cons rfl (Forget.cons rfl (Forget.cons rfl (Forget.cons rfl (Forget.nil _)))), ⟨j + 1, _, p3, q, _, zs, sp4, by omega, hs, w8, w7, ap8.symm, nr2, by omega, by omega, nl2 bx, bz, o8, rfl⟩, ?_⟩
      show (es.length - IntKind.i64.wrap ((j : Int) + 1)).toNat < (es.length - (j : Int)).toNat
      rw [hs]
      omega
end Go.Proofs.Ytnpfdppmpmnhbaa
