/- GE1: texts of another seat, turned to this one. -/
import Derived.Test.YtmififfaljihgaaGreatG1
set_option linter.unusedVariables false
set_option linter.unusedSimpArgs false
namespace Go.Proofs.YtmififfaljihgaaGreat
open Go Go.Ab Go.Shelf
theorem T5b : (T.at_ 5).bytes = 1 := rfl
theorem T5s : (T.at_ 5).size = 1 := rfl
def OctR (h : H) (p : Option (Nat × Nat)) (n : Nat) (xs : List Int) : Prop := RoSl h p n 1 (ints .u8 xs)
theorem OctR.len {h : H} {p : Option (Nat × Nat)} {n : Nat} {xs : List Int} (o : OctR h p n xs) : n = xs.length := by
  have := o.1
  rw [ints_length] at this
  omega
theorem OctR.get {S : Nat → Prop} {h h' : H} {p : Option (Nat × Nat)} {n : Nat} {xs : List Int} (o : OctR h p n xs) (m : Mod S h h') : OctR h' p n xs := RoSl.get o m
theorem OctR.cut {h : H} {p : Option (Nat × Nat)} {n : Nat} {xs : List Int} (o : OctR h p n xs) {l m : Nat} (h1 : l ≤ m) (h2 : m ≤ n) : OctR h (slp p l) (m - l) ((xs.drop l).take (m - l)) := by
  have := RoSl.cut o h1 h2
  rw [Nat.mul_one, Nat.mul_one, ints_drop, ints_take] at this
  exact this
theorem OctR.nil (h : H) (p : Option (Nat × Nat)) : OctR h p 0 [] := RoSl.nil h p 1
/-- A reader, of either make. -/
def Rdr (h : H) (g : Nat) (xs : List Int) (sp : Bool) : Prop := ∃ p n, h.obj g = some (.row true 2 [.sl p n, .bool sp]) ∧ OctR h p n xs
theorem Rdr.get {S : Nat → Prop} {h h' : H} {g : Nat} {xs : List Int} {sp : Bool} (r : Rdr h g xs sp) (m : Mod S h h') (hs : ¬ S g) : Rdr h' g xs sp := by
  obtain ⟨p, n, h1, h2⟩ := r
  exact ⟨p, n, m.get h1 (.inl hs), h2.get m⟩
def leftV (xs : List Int) (sp : Bool) : Int := if sp then 0 else xs.length
theorem left29 {h : H} {g : Nat} {xs : List Int} {sp : Bool} (r : Rdr h g xs sp) : ACalls Tryz.prog 80 [.ptr (some (g, 0))] h (fun v h' => h' = h ∧ v = i64 (leftV xs sp)) := by
  obtain ⟨p, n, hg, ho⟩ := r
  have hl := ho.len
  subst hl
  refine call_ Tryz.func80 rfl rfl (by kernel_rfl) ?_
  conv => whnf
  refine ⟨_, Cell.mk hg rfl, ?_⟩
  conv => whnf
  refine br_mk (fun hb => ?_) (fun hb => ?_)
  · conv => whnf
    simp [hb, leftV]
  conv => whnf
  refine ⟨_, Cell.mk hg rfl, ?_⟩
  conv => whnf
  simp [hb, leftV]
theorem left30 {h : H} {g : Nat} {xs : List Int} {sp : Bool} (r : Rdr h g xs sp) : ACalls Tryz.prog 88 [.ptr (some (g, 0))] h (fun v h' => h' = h ∧ v = i64 (leftV xs sp)) := by
  obtain ⟨p, n, hg, ho⟩ := r
  have hl := ho.len
  subst hl
  refine call_ Tryz.func88 rfl rfl (by kernel_rfl) ?_
  conv => whnf
  refine ⟨_, Cell.mk hg rfl, ?_⟩
  conv => whnf
  refine br_mk (fun hb => ?_) (fun hb => ?_)
  · conv => whnf
    simp [hb, leftV]
  conv => whnf
  refine ⟨_, Cell.mk hg rfl, ?_⟩
  conv => whnf
  simp [hb, leftV]
def doneV (xs : List Int) (sp : Bool) : Bool := !sp && xs.isEmpty
theorem done32 {h : H} {g : Nat} {xs : List Int} {sp : Bool} (r : Rdr h g xs sp) : ACalls Tryz.prog 89 [.ptr (some (g, 0))] h (fun v h' => h' = h ∧ v = .bool (doneV xs sp)) := by
  obtain ⟨p, n, hg, ho⟩ := r
  have hl := ho.len
  subst hl
  refine call_ Tryz.func89 rfl rfl (by kernel_rfl) ?_
  conv => whnf
  refine ⟨_, Cell.mk hg rfl, ?_⟩
  conv => whnf
  refine br_mk (fun hb => ?_) (fun hb => ?_)
  · conv => whnf
    refine ⟨_, Cell.mk hg rfl, ?_⟩
    conv => whnf
    cases xs with
    | nil => simp [hb, doneV]
    | cons x xs =>
      simp [doneV, hb]
      omega
  conv => whnf
  simp_all [doneV]
/-- a copy of octets -/
theorem clone54 {h : H} {p : Option (Nat × Nat)} {n : Nat} {xs : List Int} (o : SlIs h p n false 1 (ints .u8 xs)) (hn : xs.length ≤ 70368744177664) : ACalls Tryz.prog 94 [.sl p n] h (fun v h' => ∃ q, v = .sl q n ∧ OctR h' q n xs ∧ Mod none_ h h') := by
  have hl : n = xs.length := by
    have := o.1
    rw [ints_length] at this
    omega
  subst hl
  refine ACalls.ro (Q := fun v h' => ∃ q, v = .sl q xs.length ∧ NewSl h h' q xs.length 1 (ints .u8 xs) ∧ Mod none_ h h') ?_ ?_
  rotate_left
  · rintro r h' ⟨q, rfl, n1, m⟩
    obtain ⟨i, _, k1, k2⟩ := n1.freeze m
    exact ⟨i, q, rfl, k1, k2⟩
  refine call_ Tryz.func94 rfl rfl (by kernel_rfl) ?_
  conv => whnf
  refine br_mk (fun hb => ?_) (fun hb => ?_)
  · conv => whnf
    cases p with
    | some x => simp at hb
    | none =>
      rcases o.2 with ⟨h0, _⟩ | ⟨i, j, b, r, e, _⟩
      · cases xs with
        | nil => exact ⟨none, rfl, NewSl.nil _ _ _, ⟨Nat.le_refl _, fun _ _ _ => rfl⟩⟩
        | cons x xs => simp at h0
      · cases e
  conv => whnf
  refine ⟨[], _, ⟨rfl, .inr ⟨_, 0, true, [], rfl, by simp [H.push]; rfl, fun e => e, by simp, by simp⟩⟩, o.get (Mod.push none_ h _) (fun _ _ _ => .inl (fun k => k)), by rw [T5b]; omega, by omega, fun p' h' hs hm hf => ?_⟩
  conv => whnf
  rw [Nat.zero_add] at hs ⊢
  refine ⟨p', rfl, ⟨hs, fun i o e => ?_⟩, (Mod.push none_ h _).trans' hm (fun _ _ k => k) (fun i hi k => ?_)⟩
  · rcases hf i o e with k | k
    · rw [e] at k
      injection k with k
      injection k with k
      omega
    · exact Nat.le_trans (Nat.le_succ _) k
  · obtain ⟨o, k⟩ := k
    injection k with k
    injection k with k
    omega
def rawOk (xs : List Int) (sp : Bool) (k : Int) : Bool := !sp && decide (0 ≤ k) && decide (k ≤ xs.length)
def rawV (xs : List Int) (sp : Bool) (k : Int) : List Int := if rawOk xs sp k then xs.take k.toNat else []
def rawX (xs : List Int) (sp : Bool) (k : Int) : List Int := if rawOk xs sp k then xs.drop k.toNat else xs
def RawQ (g : Nat) (xs : List Int) (sp : Bool) (k : Int) (h : H) (v : V) (h' : H) : Prop := ∃ q m, v = .sl q m ∧ OctR h' q m (rawV xs sp k) ∧ Rdr h' g (rawX xs sp k) (!rawOk xs sp k) ∧ Mod (one g) h h'
theorem Rdr.ro {h : H} {g : Nat} {xs : List Int} {sp : Bool} (r : Rdr h g xs sp) {i : Nat} (hi : g ≠ i) : Rdr (h.ro i) g xs sp := by
  obtain ⟨p, n, h1, h2⟩ := r
  exact ⟨p, n, by rw [H.ro_ne _ hi, h1], RoSl.ro h2 i⟩
theorem Rdr.lt {h : H} {g : Nat} {xs : List Int} {sp : Bool} (r : Rdr h g xs sp) : g < h.next := by
  obtain ⟨p, n, h1, h2⟩ := r
  exact h.lt _ _ h1
def RawQ' (g : Nat) (xs : List Int) (sp : Bool) (k : Int) (h : H) (v : V) (h' : H) : Prop := ∃ q m, v = .sl q m ∧ NewSl h h' q m 1 (ints .u8 (rawV xs sp k)) ∧ Rdr h' g (rawX xs sp k) (!rawOk xs sp k) ∧ Ab.Mod (one g) h h'
theorem rawQ_no {g : Nat} {xs : List Int} {sp : Bool} {k : Int} {h h' : H} (hk : rawOk xs sp k = false) (r : Rdr h' g xs true) (m : Mod (one g) h h') : RawQ' g xs sp k h (.sl none 0) h' :=
  ⟨none, 0, rfl, by rw [rawV, hk]; exact NewSl.nil _ _ _, by rw [rawX, hk]; exact r, m⟩
theorem RawQ'.ro {g : Nat} {xs : List Int} {sp : Bool} {k : Int} {h : H} (hg : g < h.next) (v : V) (h' : H) (q : RawQ' g xs sp k h v h') : ∃ i, RawQ g xs sp k h v (h'.ro i) := by
  obtain ⟨p, n, rfl, n1, r, m⟩ := q
  obtain ⟨i, hi, k1, k2⟩ := n1.freeze m
  exact ⟨i, p, n, rfl, k1, r.ro (by omega), k2⟩
theorem Rdr.set {h : H} {g : Nat} {xs ys : List Int} {sp sp' : Bool} {p : Option (Nat × Nat)} {n : Nat} (r : Rdr h g xs sp) (o : OctR h p n ys) : Rdr (h.set g (.row true 2 [.sl p n, .bool sp'])) g ys sp' := by
  obtain ⟨p0, n0, h1, h2⟩ := r
  exact ⟨p, n, by rw [H.obj_set_same h1], o.get (Mod.set (S := one g) rfl h1 rfl)⟩
theorem Rdr.modset {h : H} {g : Nat} {xs : List Int} {sp : Bool} (r : Rdr h g xs sp) (ob : Ab.Obj) : Ab.Mod (one g) h (h.set g ob) := by
  obtain ⟨p0, n0, h1, h2⟩ := r
  exact Mod.set rfl h1 rfl
theorem raw28 {h : H} {g : Nat} {xs : List Int} {sp : Bool} (r : Rdr h g xs sp) (hx : xs.length ≤ 70368744177664) (k : Int) : ACalls Tryz.prog 87 [.ptr (some (g, 0)), i64 k] h (RawQ g xs sp k h) := by
  obtain ⟨p, n, hg, ho⟩ := r
  have hl := ho.len
  subst hl
  have r : Rdr h g xs sp := ⟨p, _, hg, ho⟩
  refine ACalls.ro (Q := RawQ' g xs sp k h) ?_ (RawQ'.ro r.lt)
  refine call_ Tryz.func87 rfl rfl (by kernel_rfl) ?_
  conv => whnf
  refine ⟨_, Cell.mk hg rfl, ?_⟩
  conv => whnf
  refine br_mk (fun hb => ?_) (fun hb => ?_)
  · conv => whnf
    refine ⟨_, _, hg, Nat.le_of_ble_eq_true rfl, ?_⟩
    conv => whnf
    exact rawQ_no (by simp [rawOk, hb]) (r.set ho) (r.modset _)
  conv => whnf
  refine br_mk (fun hc => ?_) (fun hc => ?_)
  · conv => whnf
    refine ⟨_, _, hg, Nat.le_of_ble_eq_true rfl, ?_⟩
    conv => whnf
    simp at hc
    exact rawQ_no (by simp [rawOk, hb]; omega) (r.set ho) (r.modset _)
  conv => whnf
  refine ⟨_, Cell.mk hg rfl, ?_⟩
  conv => whnf
  refine br_mk (fun hd => ?_) (fun hd => ?_)
  · conv => whnf
    refine ⟨_, _, hg, Nat.le_of_ble_eq_true rfl, ?_⟩
    conv => whnf
    simp at hd
    exact rawQ_no (by simp [rawOk, hb]; omega) (r.set ho) (r.modset _)
  conv => whnf
  simp at hc hd
  obtain ⟨j, rfl⟩ : ∃ j : Nat, k = j := ⟨k.toNat, by omega⟩
  have hg1 := (H.obj_push_old (h := h) (.row true (T.at_ 5).size (zerosV 0 (vcells (T.at_ 5).zero))) (Nat.ne_of_lt (h.lt _ _ hg))).trans hg
  refine ⟨_, Cell.mk hg1 rfl, ?_⟩
  conv => whnf
  have ho1 := ho.get (Mod.push none_ h (.row true (T.at_ 5).size (zerosV 0 (vcells (T.at_ 5).zero))))
  refine ⟨⟨_, ho1.is⟩, ?_⟩
  conv => whnf
  refine ⟨j, rfl, Nat.zero_le _, by omega, ?_⟩
  conv => whnf
  refine ⟨[], _, ⟨rfl, .inr ⟨_, 0, true, [], rfl, by simp [H.push]; rfl, fun e => e, by simp, by simp⟩⟩, (ho1.cut (Nat.zero_le j) (by omega)).is, by rw [T5b]; omega, by omega, fun p' h' hs hm hf => ?_⟩
  conv => whnf
  have hg2 := hm.get hg1 (.inl (fun k => by
    obtain ⟨o, k⟩ := k
    injection k with k
    injection k with k
    exact absurd (h.lt _ _ hg) (by omega)))
  refine ⟨_, Cell.mk hg2 rfl, ?_⟩
  conv => whnf
  have ho2 := ho1.get hm
  refine ⟨⟨_, ho2.is⟩, ?_⟩
  conv => whnf
  refine ⟨j, rfl, by omega, Nat.le_refl _, ?_⟩
  conv => whnf
  refine ⟨_, _, hg2, Nat.le_of_ble_eq_true rfl, ?_⟩
  conv => whnf
  have hk : rawOk xs sp (j : Int) = true := by simp [rawOk, hb]; omega
  have hng : ∀ i o, p' = some (i, o) → h.next ≤ i := fun i o e => by
    rcases hf i o e with k | k
    · rw [e] at k
      injection k with k
      injection k with k
      omega
    · exact Nat.le_trans (Nat.le_succ _) k
  have hs' : SlIs h' p' (0 + (j - 0)) true 1 (ints .u8 (rawV xs sp j)) := by
    rw [rawV, hk]
    simpa [T5s] using hs
  have he : splice [V.sl p xs.length, V.bool sp] (0 + 0) (vcells (V.sl (slp p (j * (T.at_ 5).size)) (xs.length - j))) = [.sl (slp p j) (xs.length - j), .bool sp] := by simp [splice, vcells, T5s]
  rw [he]
  have ms := Mod.set (S := one g) (ob := .row true 2 [.sl (slp p j) (xs.length - j), .bool sp]) rfl hg2 rfl
  refine ⟨p', _, rfl, ⟨hs'.get ms (fun i o e => .inl (fun k => ?_)), hng⟩, ?_, ?_⟩
  · exact absurd (hng i o e) (by
      have := r.lt
      rw [k]
      omega)
  · rw [rawX, hk]
    refine ⟨slp p j, xs.length - j, ?_, ?_⟩
    · rw [H.obj_set_same hg2]
      simp [hb]
    · have := (ho2.cut (show j ≤ xs.length by omega) (Nat.le_refl _)).get ms
      rw [List.take_of_length_le (by simp)] at this
      simpa using this
  · refine (Mod.trans' (S2 := one g) (Mod.push none_ h _) hm (fun _ _ k => k.elim) (fun i hi k => ?_)).trans' ms (fun _ _ k => k) (fun _ _ k => k)
    obtain ⟨o, k⟩ := k
    injection k with k
    injection k with k
    omega
theorem rawQ_no' {g : Nat} {xs : List Int} {sp : Bool} {k : Int} {h h' : H} (hk : rawOk xs sp k = false) (r : Rdr h' g xs true) (m : Ab.Mod (one g) h h') : RawQ g xs sp k h (.sl none 0) h' :=
  ⟨none, 0, rfl, by rw [rawV, hk]; exact OctR.nil _ _, by rw [rawX, hk]; exact r, m⟩
theorem raw27 {h : H} {g : Nat} {xs : List Int} {sp : Bool} (r : Rdr h g xs sp) (hx : xs.length ≤ 70368744177664) (k : Int) : ACalls Tryz.prog 79 [.ptr (some (g, 0)), i64 k] h (RawQ g xs sp k h) := by
  obtain ⟨p, n, hg, ho⟩ := r
  have hl := ho.len
  subst hl
  have r : Rdr h g xs sp := ⟨p, _, hg, ho⟩
  refine call_ Tryz.func79 rfl rfl (by kernel_rfl) ?_
  conv => whnf
  refine ⟨_, Cell.mk hg rfl, ?_⟩
  conv => whnf
  refine br_mk (fun hb => ?_) (fun hb => ?_)
  · conv => whnf
    exact rawQ_no' (by simp [rawOk, hb]) (by rw [← hb]; exact r) ⟨Nat.le_refl _, fun _ _ _ => rfl⟩
  conv => whnf
  refine br_mk (fun hc => ?_) (fun hc => ?_)
  · conv => whnf
    refine ⟨_, _, hg, Nat.le_of_ble_eq_true rfl, ?_⟩
    conv => whnf
    simp at hc
    exact rawQ_no' (by simp [rawOk, hb]; omega) (r.set ho) (r.modset _)
  conv => whnf
  refine ⟨_, Cell.mk hg rfl, ?_⟩
  conv => whnf
  refine br_mk (fun hd => ?_) (fun hd => ?_)
  · conv => whnf
    refine ⟨_, _, hg, Nat.le_of_ble_eq_true rfl, ?_⟩
    conv => whnf
    simp at hd
    exact rawQ_no' (by simp [rawOk, hb]; omega) (r.set ho) (r.modset _)
  conv => whnf
  simp at hc hd
  obtain ⟨j, rfl⟩ : ∃ j : Nat, k = j := ⟨k.toNat, by omega⟩
  refine ⟨_, Cell.mk hg rfl, ?_⟩
  conv => whnf
  refine ⟨⟨_, ho.is⟩, ?_⟩
  conv => whnf
  refine ⟨j, rfl, Nat.zero_le _, by omega, ?_⟩
  conv => whnf
  refine (clone54 (ho.cut (Nat.zero_le j) (by omega)).is (by simp; omega)).mono ?_
  rintro _ h' ⟨q, rfl, hq, hm⟩
  conv => whnf
  have hg2 := hm.get hg (.inl (fun k => k))
  refine ⟨_, Cell.mk hg2 rfl, ?_⟩
  conv => whnf
  have ho2 := ho.get hm
  refine ⟨⟨_, ho2.is⟩, ?_⟩
  conv => whnf
  refine ⟨j, rfl, by omega, Nat.le_refl _, ?_⟩
  conv => whnf
  refine ⟨_, _, hg2, Nat.le_of_ble_eq_true rfl, ?_⟩
  conv => whnf
  have hk : rawOk xs sp (j : Int) = true := by simp [rawOk, hb]; omega
  have he : splice [V.sl p xs.length, V.bool sp] (0 + 0) (vcells (V.sl (slp p (j * (T.at_ 5).size)) (xs.length - j))) = [.sl (slp p j) (xs.length - j), .bool sp] := by simp [splice, vcells, T5s]
  rw [he]
  have ms := Mod.set (S := one g) (ob := .row true 2 [.sl (slp p j) (xs.length - j), .bool sp]) rfl hg2 rfl
  refine ⟨q, _, rfl, ?_, ?_, ?_⟩
  · rw [rawV, hk]
    simpa using hq.get ms
  · rw [rawX, hk]
    refine ⟨slp p j, xs.length - j, ?_, ?_⟩
    · rw [H.obj_set_same hg2]
      simp [hb]
    · have := (ho2.cut (show j ≤ xs.length by omega) (Nat.le_refl _)).get ms
      rw [List.take_of_length_le (by simp)] at this
      simpa using this
  · exact hm.trans' ms (fun _ _ k => k.elim) (fun _ _ k => k)
/-- one octet more -/
def shOr (n b : Int) : Int := IntKind.i64.wrap (BitVec.ofInt IntKind.i64.bits (IntKind.i64.wrap (n * 2 ^ (min (8 : Int).toNat IntKind.i64.bits))) ||| BitVec.ofInt IntKind.i64.bits (IntKind.i64.wrap b)).toNat
def numK (k : Int) : Int := if k < 1 ∨ 7 < k then -1 else k
def NumQ' (g : Nat) (xs : List Int) (sp : Bool) (k : Int) (h : H) (v : V) (h' : H) : Prop := v = i64 ((rawV xs sp k).foldl shOr 0) ∧ Rdr h' g (rawX xs sp k) (!rawOk xs sp k) ∧ Ab.Mod (one g) h h'
def NumQ (g : Nat) (xs : List Int) (sp : Bool) (k : Int) (h : H) (v : V) (h' : H) : Prop := NumQ' g xs sp (numK k) h v h'
theorem OctR.get? {h : H} {p : Option (Nat × Nat)} {n : Nat} {xs : List Int} (o : OctR h p n xs) {j : Nat} (hj : j < n) : ∃ i c, p = some (i, c) ∧ Cell h i (c + j * 1) (.int .u8 (xs.getD j 0)) := by
  have hl := o.len
  obtain ⟨i, c, rfl⟩ := RoSl.some o (by omega)
  exact ⟨i, c, rfl, by rw [Nat.mul_one]; exact RoSl.cell o (ints_get (by omega))⟩
theorem num25 {h : H} {g : Nat} {xs : List Int} {sp : Bool} (r : Rdr h g xs sp) (hx : xs.length ≤ 70368744177664) (k : Int) : ACalls Tryz.prog 78 [.ptr (some (g, 0)), i64 k] h (NumQ g xs sp k h) := by
  unfold NumQ
  generalize hkk : numK k = kk
  refine call_ Tryz.func78 rfl rfl (by kernel_rfl) ?_
  conv => whnf
  refine br_mk (fun hb => ?_) (fun hb => ?_)
  rotate_left
  conv => whnf
  refine br_mk (fun hc => ?_) (fun hc => ?_)
  all_goals (conv => whnf)
  all_goals refine ACalls.mono (Q := RawQ g xs sp kk h) ?_ ?_
  · simp at hc
    rw [← hkk, numK, if_pos (.inr hc)]
    exact raw27 r hx _
  rotate_left
  · simp at hb hc
    rw [← hkk, numK, if_neg (by omega)]
    exact raw27 r hx _
  rotate_left
  · simp at hb
    rw [← hkk, numK, if_pos (.inl hb)]
    exact raw27 r hx _
  all_goals
    rintro _ h' ⟨q, m, rfl, hq, hr, hm⟩
    have hl := hq.len
    subst hl
    have hml : (rawV xs sp kk).length ≤ 70368744177664 := by
      simp [rawV]
      split <;> simp <;> omega
    unfold NumQ'
    generalize rawV xs sp kk = ys at *
    conv => whnf
    refine ⟨fun env hh => hh = h' ∧ ∃ j : Nat, j ≤ ys.length ∧ env = [(17, i64 j), (4, i64 ((ys.take j).foldl shOr 0)), (16, i64 ys.length), (15, .sl q ys.length)],
      fun env _ => match get env 17 with
        | .int _ z => (ys.length - z).toNat
        | _ => 0, ⟨_, Forget.cons rfl (Forget.cons rfl (Forget.cons rfl (Forget.cons rfl (Forget.nil _)))), rfl, 0, Nat.zero_le _, rfl⟩, ?_⟩
    rintro _ _ ⟨rfl, j, hj, rfl⟩
    conv => whnf
    refine br_mk (fun hb => ?_) (fun hb => ?_)
    · conv => whnf
      simp at hb
      obtain ⟨i, c, rfl, hc⟩ := hq.get? (j := j) (by omega)
      refine ⟨i, c, j, rfl, rfl, by omega, ?_⟩
      conv => whnf
      refine ⟨_, hc, ?_⟩
      conv => whnf
      refine ⟨by decide, ?_⟩
      conv => whnf
      refine ⟨_, Forget.cons ?_ (Forget.cons ?_ (Forget.cons rfl (Forget.cons rfl (Forget.nil _)))), ⟨rfl, j + 1, by omega, rfl⟩, ?_⟩
      · exact congrArg (V.int .i64) (succ_i64 hb hml)
      · rw [foldl_take hb]
        rfl
      · show (ys.length - ((j + 1 : Nat) : Int)).toNat < (ys.length - (j : Int)).toNat
        omega
    · conv => whnf
      simp at hb
      have : j = ys.length := by omega
      subst this
      rw [List.take_length]
      exact ⟨rfl, hr, hm⟩
theorem size20 (k : Int) (h : H) : ACalls Tryz.prog 74 [i64 k] h (fun v h' => h' = h ∧ v = .bool (decide (1 ≤ k ∧ k ≤ 7))) := by
  refine call_ Tryz.func74 rfl rfl (by kernel_rfl) ?_
  conv => whnf
  refine br_mk (fun hb => ?_) (fun hb => ?_)
  · conv => whnf
    simp at hb ⊢
    omega
  · conv => whnf
    simp at hb ⊢
    omega
theorem num26 {h : H} {g : Nat} {xs : List Int} {sp : Bool} (r : Rdr h g xs sp) (hx : xs.length ≤ 70368744177664) (k : Int) : ACalls Tryz.prog 86 [.ptr (some (g, 0)), i64 k] h (NumQ g xs sp k h) := by
  obtain ⟨p, n, hg, ho⟩ := r
  have hl := ho.len
  subst hl
  have r : Rdr h g xs sp := ⟨p, _, hg, ho⟩
  refine call_ Tryz.func86 rfl rfl (by kernel_rfl) ?_
  conv => whnf
  refine ⟨_, Cell.mk hg rfl, ?_⟩
  conv => whnf
  refine br_mk (fun hb => ?_) (fun hb => ?_)
  · conv => whnf
    refine ⟨_, _, hg, Nat.le_of_ble_eq_true rfl, ?_⟩
    conv => whnf
    have hk : rawOk xs sp (numK k) = false := by simp [rawOk, hb]
    refine ⟨by rw [rawV, hk]; rfl, ?_, r.modset _⟩
    rw [rawX, hk]
    exact r.set ho
  conv => whnf
  refine (size20 k h).mono ?_
  rintro _ h' ⟨eh, rfl⟩
  subst h'
  conv => whnf
  refine br_mk (fun hc => ?_) (fun hc => ?_)
  · conv => whnf
    refine ⟨_, _, hg, Nat.le_of_ble_eq_true rfl, ?_⟩
    conv => whnf
    have hk : rawOk xs sp (numK k) = false := by
      simp at hc
      rw [numK, if_pos (by omega)]
      simp [rawOk]
    refine ⟨by rw [rawV, hk]; rfl, ?_, r.modset _⟩
    rw [rawX, hk]
    exact r.set ho
  conv => whnf
  refine ⟨_, Cell.mk hg rfl, ?_⟩
  conv => whnf
  refine br_mk (fun hd => ?_) (fun hd => ?_)
  · conv => whnf
    refine ⟨_, _, hg, Nat.le_of_ble_eq_true rfl, ?_⟩
    conv => whnf
    have hk : rawOk xs sp (numK k) = false := by
      simp at hc hd
      rw [numK, if_neg (by omega)]
      simp [rawOk]
      omega
    refine ⟨by rw [rawV, hk]; rfl, ?_, r.modset _⟩
    rw [rawX, hk]
    exact r.set ho
  conv => whnf
  simp at hc hd
  obtain ⟨j, rfl⟩ : ∃ j : Nat, k = j := ⟨k.toNat, by omega⟩
  have e : numK j = j := by rw [numK, if_neg (by omega)]
  have hk : rawOk xs sp (j : Int) = true := by simp [rawOk, hb]; omega
  have hv : rawV xs sp (j : Int) = xs.take j := by rw [rawV, hk]; rfl
  refine ⟨fun env hh => hh = h ∧ ∃ i : Nat, i ≤ j ∧ env = [(6, i64 i), (5, i64 ((xs.take i).foldl shOr 0)), (1, i64 j), (0, .ptr (some (g, 0)))],
      fun env _ => match get env 6 with
        | .int _ z => ((j : Int) - z).toNat
        | _ => 0, ⟨_, Forget.cons rfl (Forget.cons rfl (Forget.cons rfl (Forget.cons rfl (Forget.nil _)))), rfl, 0, Nat.zero_le _, rfl⟩, ?_⟩
  rintro _ _ ⟨rfl, i, hi, rfl⟩
  conv => whnf
  refine br_mk (fun he => ?_) (fun he => ?_)
  · conv => whnf
    simp at he
    refine ⟨by decide, ?_⟩
    conv => whnf
    refine ⟨_, Cell.mk hg rfl, ?_⟩
    conv => whnf
    obtain ⟨i', c, rfl, hc'⟩ := ho.get? (j := i) (by omega)
    refine ⟨i', c, i, rfl, rfl, by omega, ?_⟩
    conv => whnf
    refine ⟨_, hc', ?_⟩
    conv => whnf
    refine ⟨_, Forget.cons ?_ (Forget.cons ?_ (Forget.cons rfl (Forget.cons rfl (Forget.nil _)))), ⟨rfl, i + 1, by omega, rfl⟩, ?_⟩
    · exact congrArg (V.int .i64) (succ_i64 he (by omega))
    · rw [foldl_take (by omega)]
      rfl
    · show ((j : Int) - ((i + 1 : Nat) : Int)).toNat < ((j : Int) - (i : Int)).toNat
      omega
  · conv => whnf
    simp at he
    have : i = j := by omega
    subst this
    refine ⟨_, Cell.mk hg rfl, ?_⟩
    conv => whnf
    refine ⟨⟨_, ho.is⟩, ?_⟩
    conv => whnf
    refine ⟨i, rfl, by omega, Nat.le_refl _, ?_⟩
    conv => whnf
    refine ⟨_, _, hg, Nat.le_of_ble_eq_true rfl, ?_⟩
    conv => whnf
    have he : splice [V.sl p xs.length, V.bool sp] (0 + 0) (vcells (V.sl (slp p (i * (T.at_ 5).size)) (xs.length - i))) = [.sl (slp p i) (xs.length - i), .bool sp] := by simp [splice, vcells, T5s]
    rw [he]
    have ms := Mod.set (S := one g) (ob := .row true 2 [.sl (slp p i) (xs.length - i), .bool sp]) rfl hg rfl
    refine ⟨?_, ?_, ms⟩
    · rw [e, hv]
    · rw [e, rawX, hk]
      refine ⟨slp p i, xs.length - i, ?_, ?_⟩
      · rw [H.obj_set_same hg]
        simp [hb]
      · have := (ho.cut (show i ≤ xs.length by omega) (Nat.le_refl _)).get ms
        rw [List.take_of_length_le (by simp)] at this
        simpa using this
/-- A writer, of either make. -/
def WtrP (h : H) (g : Nat) (p : Option (Nat × Nat)) (xs : List Int) (sp : Bool) : Prop :=
  h.obj g = some (.row true 2 [.sl p xs.length, .bool sp]) ∧ SlIs h p xs.length true 1 (ints .u8 xs) ∧ ∀ i o, p = some (i, o) → i ≠ g
def WtrQ (h : H) (g : Nat) (p : Option (Nat × Nat)) (xs : List Int) (sp : Bool) (h' : H) : Prop := ∃ p', WtrP h' g p' xs sp ∧ isFresh h p p' ∧ Ab.Mod (foot g p) h h'
theorem WtrP.lt {h : H} {g : Nat} {p : Option (Nat × Nat)} {xs : List Int} {sp : Bool} (w : WtrP h g p xs sp) : g < h.next := h.lt _ _ w.1
theorem WtrP.slt {h : H} {g : Nat} {p : Option (Nat × Nat)} {xs : List Int} {sp : Bool} (w : WtrP h g p xs sp) {i o : Nat} (e : p = some (i, o)) : i < h.next := by
  rcases w.2.1.2 with ⟨_, k⟩ | ⟨i', o', b, r, k1, k2, _⟩
  · rcases k with k | k
    · rw [e] at k
      cases k
    · cases k
  · rw [e] at k1
    injection k1 with k1
    injection k1 with k1
    subst k1
    exact h.lt _ _ k2
theorem WtrQ.refl {h : H} {g : Nat} {p : Option (Nat × Nat)} {xs : List Int} {sp : Bool} (w : WtrP h g p xs sp) : WtrQ h g p xs sp h := ⟨p, w, isFresh.refl _ _, Nat.le_refl _, fun _ _ _ => rfl⟩
theorem WtrQ.trans {h h1 h2 : H} {g : Nat} {p p' : Option (Nat × Nat)} {xs : List Int} {sp : Bool} (f : isFresh h p p') (m : Ab.Mod (foot g p) h h1) (q : WtrQ h1 g p' xs sp h2) : WtrQ h g p xs sp h2 := by
  obtain ⟨p2, w, f2, m2⟩ := q
  exact ⟨p2, w, isFresh.trans f m.next f2, m.trans' m2 (fun _ _ k => k) (foot_fresh f)⟩
/-- what is not the writer's turns without it -/
theorem WtrP.get {S : Nat → Prop} {h h' : H} {g : Nat} {p : Option (Nat × Nat)} {xs : List Int} {sp : Bool} (w : WtrP h g p xs sp) (m : Ab.Mod S h h') (hs : ∀ i, S i → ¬ foot g p i) : WtrP h' g p xs sp :=
  ⟨m.get w.1 (.inl (fun k => hs _ k (.inl rfl))), w.2.1.get m (fun i o e => .inl (fun k => hs _ k (.inr ⟨o, e⟩))), w.2.2⟩
theorem WtrP.app {h h1 h2 : H} {g : Nat} {p p' : Option (Nat × Nat)} {xs ys : List Int} {sp : Bool} (w : WtrP h g p xs sp) (m01 : Ab.Mod none_ h h1) (hs : SlIs h2 p' (xs.length + ys.length) true 1 (ints .u8 xs ++ ints .u8 ys)) (hm : Ab.Mod (inSl p) h1 h2) (hf : isFresh h1 p p') :
    h2.obj g = some (.row true 2 [.sl p xs.length, .bool sp]) ∧ WtrQ h g p (xs ++ ys) sp (h2.set g (.row true 2 [.sl p' (xs.length + ys.length), .bool sp])) := by
  have hg := w.lt
  have e1 : h1.obj g = some (.row true 2 [.sl p xs.length, .bool sp]) := m01.get w.1 (.inl (fun k => k))
  have e2 : h2.obj g = some (.row true 2 [.sl p xs.length, .bool sp]) := hm.get e1 (.inl (fun ⟨o, k⟩ => w.2.2 _ _ k rfl))
  have ms := Mod.set (S := one g) (ob := .row true 2 [.sl p' (xs.length + ys.length), .bool sp]) rfl e2 rfl
  have hng : ∀ i o, p' = some (i, o) → i ≠ g := fun i o e => by
    rcases hf i o e with k | k
    · rw [e] at k
      exact w.2.2 _ _ k.symm
    · have := h1.lt _ _ e1
      omega
  refine ⟨e2, p', ⟨by rw [H.obj_set_same e2, List.length_append], ?_, hng⟩, isFresh.mono m01.next hf, ?_⟩
  · rw [ints_append, List.length_append]
    exact hs.get ms (fun i o e => .inl (hng i o e))
  · refine (m01.trans' hm (S2 := foot g p) (fun _ _ k => k.elim) (fun _ _ k => .inr k)).trans' ms (fun _ _ k => k) (fun _ _ k => .inl k)
theorem WtrP.spoil {h : H} {g : Nat} {p : Option (Nat × Nat)} {xs : List Int} {sp : Bool} (w : WtrP h g p xs sp) (sp' : Bool) : WtrQ h g p xs sp' (h.set g (.row true 2 [.sl p xs.length, .bool sp'])) := by
  have ms := Mod.set (S := one g) (ob := .row true 2 [.sl p xs.length, .bool sp']) rfl w.1 rfl
  exact ⟨p, ⟨H.obj_set_same w.1, w.2.1.get ms (fun i o e => .inl (w.2.2 i o e)), w.2.2⟩, isFresh.refl _ _, ms.mono (fun _ _ k => .inl k)⟩
theorem oneRow (b : Int) : Obj.row true (T.at_ 5).size (splice (zerosV 1 (vcells (T.at_ 5).zero)) (0 * (T.at_ 5).size) (vcells (V.int .u8 b))) = .row true 1 (ints .u8 [b]) := rfl
def shr_ (v i : Int) : Int := v.fdiv (2 ^ (min (IntKind.i64.wrap (8 * i)).toNat IntKind.i64.bits))
def oct (v i : Int) : Int := IntKind.u8.wrap (shr_ v i)
/-- the last n octets of v, the highest first -/
def be (v : Int) : Nat → List Int
  | 0 => []
  | n + 1 => oct v n :: be v n
def misfit (k v : Int) : Bool := decide (k < 1) || decide (7 < k) || decide (v < 0) || shr_ v k != 0
theorem wrap8 {i : Int} (h0 : 0 ≤ i) (h1 : i ≤ 7) : IntKind.i64.wrap (8 * i) = 8 * i := wrap_i64 (by omega) (by omega)
theorem num21 {h : H} {g : Nat} {p : Option (Nat × Nat)} {xs : List Int} {sp : Bool} (w : WtrP h g p xs sp) (hx : xs.length ≤ 1000000) (k v : Int) :
    ACalls Tryz.prog 44 [.ptr (some (g, 0)), i64 k, i64 v] h (fun r h' => r = .tup [] ∧ WtrQ h g p (if misfit k v then xs else xs ++ be v k.toNat) (misfit k v || sp) h') := by
  refine call_ Tryz.func44 rfl rfl (by kernel_rfl) ?_
  conv => whnf
  refine (size20 k h).mono ?_
  rintro _ h' ⟨eh, rfl⟩
  subst h'
  conv => whnf
  refine br_mk (fun hc => ?_) (fun hc => ?_)
  · conv => whnf
    refine ⟨_, _, w.1, Nat.le_of_ble_eq_true rfl, ?_⟩
    conv => whnf
    have : misfit k v = true := by
      simp at hc
      simp [misfit]
      omega
    rw [this]
    exact ⟨rfl, w.spoil _⟩
  conv => whnf
  refine br_mk (fun hd => ?_) (fun hd => ?_)
  · conv => whnf
    refine ⟨_, _, w.1, Nat.le_of_ble_eq_true rfl, ?_⟩
    conv => whnf
    have : misfit k v = true := by
      simp at hd
      simp [misfit, hd]
    rw [this]
    exact ⟨rfl, w.spoil _⟩
  conv => whnf
  simp at hc hd
  have h8 := wrap8 (i := k) (by omega) (by omega)
  refine ⟨by rw [h8]; omega, ?_⟩
  conv => whnf
  refine br_mk (fun he => ?_) (fun he => ?_)
  · conv => whnf
    refine ⟨_, _, w.1, Nat.le_of_ble_eq_true rfl, ?_⟩
    conv => whnf
    have : misfit k v = true := by
      have he : (shr_ v k != 0) = true := he
      simp [misfit, he]
    rw [this]
    exact ⟨rfl, w.spoil _⟩
  conv => whnf
  have : misfit k v = false := by
    have he : (shr_ v k != 0) = false := he
    simp [misfit, he]
    omega
  rw [this]
  obtain ⟨n, rfl⟩ : ∃ n : Nat, k = n := ⟨k.toNat, by omega⟩
  refine ⟨fun env hh => ∃ (r : Nat) (z : Int) (p' : Option (Nat × Nat)) (ys : List Int), r ≤ n ∧ z = (r : Int) - 1 ∧ ys.length + r = xs.length + n ∧ ys ++ be v r = xs ++ be v n ∧ WtrP hh g p' ys sp ∧ isFresh h p p' ∧ Ab.Mod (foot g p) h hh ∧ env = [(6, i64 z), (2, i64 v), (0, .ptr (some (g, 0)))],
      fun env _ => match get env 6 with
        | .int _ z => (z + 1).toNat
        | _ => 0, ⟨_, Forget.cons rfl (Forget.cons rfl (Forget.cons rfl (Forget.nil _))), n, _, p, xs, Nat.le_refl _, wrap_i64 (by omega) (by omega), rfl, rfl, w, isFresh.refl _ _, ⟨Nat.le_refl _, fun _ _ _ => rfl⟩, rfl⟩, ?_⟩
  rintro _ h1 ⟨r, z, p', ys, hr, hz, hl, hy, w1, f1, m1, rfl⟩
  conv => whnf
  refine br_mk (fun hf => ?_) (fun hf => ?_)
  · conv => whnf
    simp at hf
    obtain ⟨r, rfl⟩ : ∃ r', r = r' + 1 := ⟨r - 1, by omega⟩
    have : z = (r : Int) := by omega
    subst this
    refine ⟨[0, 1, 2, 3, 4, 5, 6, 7, 8, 9, 10, 11, 12, 13, 14], [0, 0, 2, 6, 14, 0, 0, 64, 224, 480, 992, 2046, 4095, 8191, 16383], by kernel_rfl, ?_⟩
    conv => whnf
    refine ⟨_, Cell.mk w1.1 rfl, ?_⟩
    conv => whnf
    have h8 := wrap8 (i := r) (by omega) (by omega)
    refine ⟨by rw [h8]; omega, ?_⟩
    conv => whnf
    rw [oneRow]
    refine ⟨_, _, w1.2.1.get (Mod.push none_ _ _) (fun _ _ _ => .inl (fun k => k)), (SlIs.row (n := 1) (H.obj_push_new _ _) rfl).weak, by rw [T5b]; omega, by omega, fun p2 h2 hs hm2 hf2 => ?_⟩
    conv => whnf
    obtain ⟨e2, q2⟩ := w1.app (ys := [oct v r]) (Mod.push none_ _ _) hs hm2 hf2
    refine ⟨_, _, e2, Nat.le_of_ble_eq_true rfl, ?_⟩
    conv => whnf
    have q3 : WtrQ h g p (ys ++ [oct v r]) sp _ := WtrQ.trans f1 m1 q2
    obtain ⟨p3, w3, f3, m3⟩ := q3
    refine ⟨_, Forget.cons rfl (Forget.cons rfl (Forget.cons rfl (Forget.nil _))), ⟨r, _, p3, _, by omega, wrap_i64 (by omega) (by omega), ?_, ?_, w3, f3, m3, rfl⟩, ?_⟩
    · simp
      omega
    · rw [← hy]
      simp [be]
    · show (IntKind.i64.wrap ((r : Int) - 1) + 1).toNat < ((r : Int) + 1).toNat
      rw [wrap_i64 (by omega) (by omega)]
      omega
  · conv => whnf
    simp at hf
    obtain rfl : r = 0 := by omega
    simp [be] at hy
    subst hy
    exact ⟨rfl, p', w1, f1, m1⟩
def small (k : Int) : Bool := decide (k < 1) || decide (7 < k)
def bad (k v : Int) : Bool := decide (v < 0) || decide (0 < shr_ v k)
def numsGo (k : Int) : List Int → List Int → Bool → List Int × Bool
  | [], xs, sp => (xs, sp)
  | v :: vs, xs, sp => if bad k v then (xs, true) else numsGo k vs (xs ++ be v k.toNat) sp
def numsV (k : Int) (vs xs : List Int) (sp : Bool) : List Int × Bool := if small k then (xs, true) else numsGo k vs xs sp
theorem be_length (v : Int) (n : Nat) : (be v n).length = n := by
  induction n with
  | zero => rfl
  | succ n ih => simp [be, ih]
theorem nums19 {h : H} {g : Nat} {p : Option (Nat × Nat)} {xs : List Int} {sp : Bool} (w : WtrP h g p xs sp) {q : Option (Nat × Nat)} {m : Nat} {vs : List Int} (hv : Nums (foot g p) h q m vs) (hx : xs.length ≤ 1000000) (hm : vs.length ≤ 1000000) (k : Int) :
    ACalls Tryz.prog 100 [.ptr (some (g, 0)), i64 k, .sl q m] h (fun r h' => r = .ptr (some (g, 0)) ∧ WtrQ h g p (numsV k vs xs sp).1 (numsV k vs xs sp).2 h') := by
  have hml := hv.len
  subst hml
  refine call_ Tryz.func100 rfl rfl (by kernel_rfl) ?_
  conv => whnf
  refine br_mk (fun hb => ?_) (fun hb => ?_)
  · conv => whnf
    refine ⟨_, _, w.1, Nat.le_of_ble_eq_true rfl, ?_⟩
    conv => whnf
    have : small k = true := by
      simp at hb
      simp [small, hb]
    rw [numsV, if_pos this]
    exact ⟨rfl, w.spoil _⟩
  conv => whnf
  refine br_mk (fun hc => ?_) (fun hc => ?_)
  · conv => whnf
    refine ⟨_, _, w.1, Nat.le_of_ble_eq_true rfl, ?_⟩
    conv => whnf
    have : small k = true := by
      simp at hc
      simp [small, hc]
    rw [numsV, if_pos this]
    exact ⟨rfl, w.spoil _⟩
  conv => whnf
  simp at hb hc
  have hsm : small k = false := by simp [small]; omega
  rw [numsV, hsm, if_neg (by decide)]
  obtain ⟨n, rfl⟩ : ∃ n : Nat, k = n := ⟨k.toNat, by omega⟩
  refine ⟨fun env hh => ∃ (j : Nat) (z : Int) (p' : Option (Nat × Nat)) (ys : List Int), j ≤ vs.length ∧ z = j ∧ ys.length ≤ xs.length + 7 * j ∧ numsGo n (vs.drop j) ys sp = numsGo n vs xs sp ∧ WtrP hh g p' ys sp ∧ isFresh h p p' ∧ Ab.Mod (foot g p) h hh ∧ env = [(24, i64 z), (23, i64 vs.length), (22, .sl q vs.length), (1, i64 n), (0, .ptr (some (g, 0)))],
      fun env _ => match get env 24 with
        | .int _ z => (vs.length - z).toNat
        | _ => 0, ⟨_, Forget.cons rfl (Forget.cons rfl (Forget.cons rfl (Forget.cons rfl (Forget.cons rfl (Forget.nil _))))), 0, _, p, xs, Nat.zero_le _, rfl, Nat.le_refl _, rfl, w, isFresh.refl _ _, ⟨Nat.le_refl _, fun _ _ _ => rfl⟩, rfl⟩, ?_⟩
  rintro _ h1 ⟨j, z, p', ys, hj, rfl, hl, hy, w1, f1, m1, rfl⟩
  conv => whnf
  refine br_mk (fun hf => ?_) (fun hf => ?_)
  rotate_left
  · conv => whnf
    simp at hf
    obtain rfl : j = vs.length := by omega
    rw [← hy, List.drop_length]
    exact ⟨rfl, p', w1, f1, m1⟩
  conv => whnf
  simp at hf
  have hv1 := hv.get m1
  obtain ⟨i, c, rfl, hc1⟩ := hv1.cell hf
  refine ⟨i, c, j, rfl, rfl, hf, ?_⟩
  conv => whnf
  refine ⟨_, hc1, ?_⟩
  conv => whnf
  rw [drop_cons hf, numsGo] at hy
  generalize hve : vs.getD j 0 = v at *
  refine br_mk (fun hd => ?_) (fun hd => ?_)
  · conv => whnf
    refine ⟨_, _, w1.1, Nat.le_of_ble_eq_true rfl, ?_⟩
    conv => whnf
    have : bad n v = true := by
      simp at hd
      simp [bad, hd]
    rw [this, if_pos rfl] at hy
    rw [← hy]
    exact ⟨rfl, WtrQ.trans f1 m1 (w1.spoil _)⟩
  conv => whnf
  have h8 := wrap8 (i := n) (by omega) (by omega)
  refine ⟨by rw [h8]; omega, ?_⟩
  conv => whnf
  refine br_mk (fun he => ?_) (fun he => ?_)
  · conv => whnf
    refine ⟨_, _, w1.1, Nat.le_of_ble_eq_true rfl, ?_⟩
    conv => whnf
    have : bad n v = true := by
      have he : decide (shr_ v n > 0) = true := he
      simp [bad]
      simp at he
      omega
    rw [this, if_pos rfl] at hy
    rw [← hy]
    exact ⟨rfl, WtrQ.trans f1 m1 (w1.spoil _)⟩
  conv => whnf
  have : bad n v = false := by
    have he : decide (shr_ v n > 0) = false := he
    simp at he hd
    simp [bad]
    omega
  rw [this, if_neg (by decide)] at hy
  refine ⟨fun env hh => ∃ (r : Nat) (z : Int) (p2 : Option (Nat × Nat)) (zs : List Int), r ≤ n ∧ z = (r : Int) - 1 ∧ zs.length + r = ys.length + n ∧ zs ++ be v r = ys ++ be v n ∧ WtrP hh g p2 zs sp ∧ isFresh h p p2 ∧ Ab.Mod (foot g p) h hh ∧ env = [(9, i64 z), (8, i64 v), (24, i64 j), (23, i64 vs.length), (22, .sl (some (i, c)) vs.length), (1, i64 n), (0, .ptr (some (g, 0)))],
      fun env _ => match get env 9 with
        | .int _ z => (z + 1).toNat
        | _ => 0, ⟨_, Forget.cons rfl (Forget.cons rfl (Forget.cons rfl (Forget.cons rfl (Forget.cons rfl (Forget.cons rfl (Forget.cons rfl (Forget.nil _))))))), n, _, p', ys, Nat.le_refl _, wrap_i64 (by omega) (by omega), rfl, rfl, w1, f1, m1, rfl⟩, ?_⟩
  rintro _ h2 ⟨r, z, p2, zs, hr, hz, hl2, hy2, w2, f2, m2, rfl⟩
  conv => whnf
  refine br_mk (fun hf => ?_) (fun hf => ?_)
  · conv => whnf
    simp at hf
    obtain ⟨r, rfl⟩ : ∃ r', r = r' + 1 := ⟨r - 1, by omega⟩
    have : z = (r : Int) := by omega
    subst this
    refine ⟨[0, 1, 2, 3, 4, 5, 6, 7, 8, 9, 10, 11, 12, 13, 14], [0, 0, 2, 6, 14, 0, 0, 64, 224, 480, 992, 2046, 4095, 8191, 16383], by kernel_rfl, ?_⟩
    conv => whnf
    refine ⟨_, Cell.mk w2.1 rfl, ?_⟩
    conv => whnf
    have h8 := wrap8 (i := r) (by omega) (by omega)
    refine ⟨by rw [h8]; omega, ?_⟩
    conv => whnf
    rw [oneRow]
    refine ⟨_, _, w2.2.1.get (Mod.push none_ _ _) (fun _ _ _ => .inl (fun k => k)), (SlIs.row (n := 1) (H.obj_push_new _ _) rfl).weak, by rw [T5b]; omega, by omega, fun p3 h3 hs hm3 hf3 => ?_⟩
    conv => whnf
    obtain ⟨e3, q3⟩ := w2.app (ys := [oct v r]) (Mod.push none_ _ _) hs hm3 hf3
    refine ⟨_, _, e3, Nat.le_of_ble_eq_true rfl, ?_⟩
    conv => whnf
    have q4 : WtrQ h g p (zs ++ [oct v r]) sp _ := WtrQ.trans f2 m2 q3
    obtain ⟨p4, w4, f4, m4⟩ := q4
    refine ⟨_, Forget.cons rfl (Forget.cons rfl (Forget.cons rfl (Forget.cons rfl (Forget.cons rfl (Forget.cons rfl (Forget.cons rfl (Forget.nil _))))))), ⟨r, _, p4, _, by omega, wrap_i64 (by omega) (by omega), ?_, ?_, w4, f4, m4, rfl⟩, ?_⟩
    · simp
      omega
    · rw [← hy2]
      simp [be]
    · show (IntKind.i64.wrap ((r : Int) - 1) + 1).toNat < ((r : Int) + 1).toNat
      rw [wrap_i64 (by omega) (by omega)]
      omega
  · conv => whnf
    simp at hf
    obtain rfl : r = 0 := by omega
    simp [be] at hy2
    subst hy2
    refine ⟨_, Forget.cons rfl (Forget.cons rfl (Forget.cons rfl (Forget.cons rfl (Forget.cons rfl (Forget.nil _))))), ⟨j + 1, _, p2, _, by omega, succ_i64 (n := vs.length) (by omega) (by omega), ?_, hy, w2, f2, m2, rfl⟩, ?_⟩
    · rw [List.length_append, be_length]
      omega
    · show (vs.length - IntKind.i64.wrap ((j : Int) + 1)).toNat < (vs.length - (j : Int)).toNat
      rw [succ_i64 (n := vs.length) (by omega) (by omega)]
      omega
theorem raw22 {h : H} {g : Nat} {p : Option (Nat × Nat)} {xs : List Int} {sp : Bool} (w : WtrP h g p xs sp) {q : Option (Nat × Nat)} {m : Nat} {ys : List Int} (hv : SlIs h q m false 1 (ints .u8 ys)) (hx : xs.length ≤ 1000000) (hm : ys.length ≤ 1000000) :
    ACalls Tryz.prog 101 [.ptr (some (g, 0)), .sl q m] h (fun r h' => r = .ptr (some (g, 0)) ∧ WtrQ h g p (xs ++ ys) sp h') := by
  have hl : m = ys.length := by
    have := hv.1
    rw [ints_length] at this
    omega
  subst hl
  refine call_ Tryz.func101 rfl rfl (by kernel_rfl) ?_
  conv => whnf
  refine ⟨_, Cell.mk w.1 rfl, ?_⟩
  conv => whnf
  refine ⟨_, _, w.2.1, hv, by rw [T5b]; omega, by omega, fun p2 h2 hs hm2 hf2 => ?_⟩
  conv => whnf
  obtain ⟨e2, q2⟩ := w.app (ys := ys) ⟨Nat.le_refl _, fun _ _ _ => rfl⟩ hs hm2 hf2
  refine ⟨_, _, e2, Nat.le_of_ble_eq_true rfl, ?_⟩
  conv => whnf
  exact ⟨rfl, q2⟩
theorem bytes23 {h : H} {g : Nat} {p : Option (Nat × Nat)} {xs : List Int} {sp : Bool} (w : WtrP h g p xs sp) (hx : xs.length ≤ 1000000) :
    ACalls Tryz.prog 93 [.ptr (some (g, 0))] h (fun r h' => ∃ q n, r = .tup [.sl q n, i64 (if sp then 1 else 0)] ∧ OctR h' q n (if sp then [] else xs) ∧ Ab.Mod none_ h h') := by
  refine call_ Tryz.func93 rfl rfl (by kernel_rfl) ?_
  conv => whnf
  refine ⟨_, Cell.mk w.1 rfl, ?_⟩
  conv => whnf
  refine br_mk (fun hb => ?_) (fun hb => ?_)
  · conv => whnf
    simp only [hb, if_true]
    exact ⟨none, 0, rfl, OctR.nil _ _, Nat.le_refl _, fun _ _ _ => rfl⟩
  conv => whnf
  refine ⟨_, Cell.mk w.1 rfl, ?_⟩
  conv => whnf
  refine (clone54 w.2.1.weak (by omega)).mono ?_
  rintro _ h' ⟨q, rfl, hq, hm⟩
  conv => whnf
  simp only [hb]
  exact ⟨q, _, rfl, hq, hm⟩
theorem bytes23_ok {h : H} {g : Nat} {p : Option (Nat × Nat)} {xs : List Int} (w : WtrP h g p xs false) (hx : xs.length ≤ 1000000) :
    ACalls Tryz.prog 93 [.ptr (some (g, 0))] h (fun r h' => ∃ q, r = .tup [.sl q xs.length, i64 0] ∧ OctR h' q xs.length xs ∧ Ab.Mod none_ h h') :=
  (bytes23 w hx).mono fun r h' ⟨q, n, e, o, m⟩ => by
    have := o.len
    subst this
    exact ⟨q, e, o, m⟩
theorem wtr_new (h : H) : WtrP (h.push (.row true 2 [.sl none 0, .bool false])) h.next none [] false :=
  ⟨H.obj_push_new _ _, SlIs.nil _ _ _, fun _ _ e => by cases e⟩
def Prs (h : H) (p : Option (Nat × Nat)) (n : Nat) (ps : List (Int × Int)) : Prop := RoSl h p n 2 (pairs .i64 ps)
theorem Prs.len {h : H} {p : Option (Nat × Nat)} {n : Nat} {ps : List (Int × Int)} (o : Prs h p n ps) : n = ps.length := by
  have := o.1
  rw [pairs_length] at this
  omega
theorem Prs.cell {h : H} {p : Option (Nat × Nat)} {n : Nat} {ps : List (Int × Int)} (o : Prs h p n ps) {j : Nat} (hj : j < n) : ∃ i c, p = some (i, c) ∧ Cell h i (c + j * 2 + 0 * 1) (i64 (ps.getD j (0, 0)).1) ∧ Cell h i (c + j * 2 + 1 * 1) (i64 (ps.getD j (0, 0)).2) := by
  have := o.len
  subst this
  obtain ⟨i, c, rfl⟩ := RoSl.some o (by omega)
  obtain ⟨h1, h2⟩ := pairs_get0 .i64 ps j hj
  refine ⟨i, c, rfl, RoSl.cell o h1, ?_⟩
  have := RoSl.cell o h2
  rwa [← Nat.add_assoc] at this
structure Act where
  kind : Int
  size : Int
  np : Option (Nat × Nat)
  nums : List Int
  bp : Option (Nat × Nat)
  octs : List Int
def Act.cells (a : Act) : List V := [i64 a.kind, i64 a.size, .sl a.np a.nums.length, .sl a.bp a.octs.length]
def Act.ok (h : H) (a : Act) : Prop := RoSl h a.np a.nums.length 1 (ints .i64 a.nums) ∧ OctR h a.bp a.octs.length a.octs ∧ ∀ x ∈ a.octs, 0 ≤ x ∧ x < 256
def Acts (h : H) (p : Option (Nat × Nat)) (n : Nat) (es : List Act) : Prop := RoSl h p n 4 (es.flatMap Act.cells) ∧ ∀ e ∈ es, e.ok h
theorem Acts.len {h : H} {p : Option (Nat × Nat)} {n : Nat} {es : List Act} (o : Acts h p n es) : n = es.length := by
  have := o.1.1
  rw [flat_length (sz := 4) (fun _ => rfl)] at this
  omega
theorem Acts.get {S : Nat → Prop} {h h' : H} {p : Option (Nat × Nat)} {n : Nat} {es : List Act} (o : Acts h p n es) (m : Ab.Mod S h h') : Acts h' p n es :=
  ⟨o.1.get m, fun e he => ⟨(o.2 e he).1.get m, (o.2 e he).2.1.get m, (o.2 e he).2.2⟩⟩
theorem Acts.cell {h : H} {p : Option (Nat × Nat)} {n : Nat} {es : List Act} (o : Acts h p n es) {j : Nat} (hj : j < es.length) : ∃ i c e, p = some (i, c) ∧ es[j]? = some e ∧ e.ok h ∧ Cell h i (c + j * 4 + 0) (i64 e.kind) ∧ Cell h i (c + j * 4 + 1) (i64 e.size) ∧ Cell h i (c + j * 4 + 2) (.sl e.np e.nums.length) ∧ Cell h i (c + j * 4 + 3) (.sl e.bp e.octs.length) := by
  have hl := o.len
  obtain ⟨i, c, rfl⟩ := RoSl.some o.1 (by omega)
  have he : es[j]? = some es[j] := List.getElem?_eq_getElem hj
  have key : ∀ d v, d < 4 → (Act.cells es[j])[d]? = some v → Cell h i (c + j * 4 + d) v := fun d v hd hv => by
    have := RoSl.cell o.1 (j := j * 4 + d) (v := v) (by
      rw [flat_get (sz := 4) (fun _ => rfl) hd, he]
      exact hv)
    rwa [← Nat.add_assoc] at this
  exact ⟨i, c, es[j], rfl, he, o.2 _ (List.getElem_mem hj), key 0 _ (by decide) rfl, key 1 _ (by decide) rfl, key 2 _ (by decide) rfl, key 3 _ (by decide) rfl⟩
def Apart (g : Nat) (p : Option (Nat × Nat)) (g' : Nat) (p' : Option (Nat × Nat)) : Prop := ∀ i, foot g p i → ¬ foot g' p' i
theorem Apart.symm {g g' : Nat} {p p' : Option (Nat × Nat)} (a : Apart g p g' p') : Apart g' p' g p := fun i k k' => a i k' k
theorem Apart.step {h : H} {g g' : Nat} {p p' pn : Option (Nat × Nat)} {ys : List Int} {sp : Bool} (a : Apart g p g' p') (w : WtrP h g' p' ys sp) (f : isFresh h p pn) : Apart g pn g' p' := fun i k k' => by
  have hi : i < h.next := by
    rcases k' with rfl | ⟨o, e⟩
    · exact w.lt
    · exact w.slt e
  exact a i (foot_fresh f i hi k) k'
def Bts (xs : List Int) : Prop := ∀ x ∈ xs, 0 ≤ x ∧ x < 256
theorem Bts.append {xs ys : List Int} (h1 : Bts xs) (h2 : Bts ys) : Bts (xs ++ ys) := fun x hx => by
  rcases List.mem_append.1 hx with k | k
  · exact h1 x k
  · exact h2 x k
theorem wrap_u8 (x : Int) : 0 ≤ IntKind.u8.wrap x ∧ IntKind.u8.wrap x < 256 := by
  simp [IntKind.wrap, IntKind.bits, IntKind.signed]
  omega
theorem be_bts (v : Int) (n : Nat) : Bts (be v n) := by
  induction n with
  | zero => exact fun x hx => by cases hx
  | succ n ih =>
    intro x hx
    rcases List.mem_cons.1 hx with rfl | hx
    · exact wrap_u8 _
    · exact ih x hx
theorem shr_nonneg {v k : Int} (h : 0 ≤ v) : 0 ≤ shr_ v k := Int.fdiv_nonneg h (Int.pow_nonneg (by decide))
theorem bad_misfit {k v : Int} (h : small k = false) : bad k v = misfit k v := by
  simp only [small, Bool.or_eq_false_iff] at h
  rw [bad, misfit, h.1, h.2, Bool.false_or, Bool.false_or]
  by_cases hv : v < 0
  · simp [hv]
  · have := shr_nonneg (k := k) (v := v) (by omega)
    have e : decide (0 < shr_ v k) = (shr_ v k != 0) := by
      rw [Bool.eq_iff_iff]
      simp
      omega
    rw [e]
theorem small_toNat {k : Int} (h : small k = false) : k.toNat ≤ 7 := by
  simp [small] at h
  omega
theorem numsGo_len {k : Int} (hk : small k = false) : ∀ (vs xs : List Int) (sp : Bool), (numsGo k vs xs sp).1.length ≤ xs.length + 7 * vs.length ∧ (Bts xs → Bts (numsGo k vs xs sp).1)
  | [], xs, sp => ⟨by simp [numsGo], id⟩
  | v :: vs, xs, sp => by
    rw [numsGo]
    cases hb : bad k v with
    | true => exact ⟨by simp, id⟩
    | false =>
      have := numsGo_len hk vs (xs ++ be v k.toNat) sp
      have h7 := small_toNat hk
      rw [List.length_append, be_length] at this
      simp only [if_neg (show ¬ (false = true) by decide)]
      exact ⟨by simp only [List.length_cons]; omega, fun h => this.2 (h.append (be_bts _ _))⟩
theorem numsV_len (k : Int) (vs xs : List Int) (sp : Bool) : (numsV k vs xs sp).1.length ≤ xs.length + 7 * vs.length ∧ (Bts xs → Bts (numsV k vs xs sp).1) := by
  rw [numsV]
  cases hk : small k with
  | true => exact ⟨by simp, id⟩
  | false => exact numsGo_len hk vs xs sp
theorem WtrP.len {h : H} {g : Nat} {p : Option (Nat × Nat)} {xs : List Int} {sp : Bool} (w : WtrP h g p xs sp) : SlIs h p xs.length false 1 (ints .u8 xs) := w.2.1.weak
end Go.Proofs.YtmififfaljihgaaGreat
