/- Words for proofs over the abstract memory. -/
import Derived.Test.YtmififfaljihgaaGreatAb16
set_option linter.unusedVariables false
namespace Go.Ab
open Go

theorem br_mk {b : Bool} {X Y : Prop} (h1 : b = true → X) (h2 : b = false → Y) : br b X Y := br_iff.2 ⟨h1, h2⟩
theorem Cell.mk {h : H} {i off : Nat} {v : V} {o : Bool} {sz : Nat} {cs : List V} (hg : h.obj i = some (.row o sz cs)) (hv : cs[off]? = some v) : Cell h i off v := ⟨o, sz, cs, hg, hv⟩
theorem Cells.mk {h : H} {i off n : Nat} {vs : List V} {o : Bool} {sz : Nat} {cs : List V} (hg : h.obj i = some (.row o sz cs)) (hn : off + n ≤ cs.length) (hv : (cs.drop off).take n = vs) : Cells h i off n vs := ⟨o, sz, cs, hg, hn, hv⟩

theorem Forget.nil (env : Env) : Forget env [] := fun _ => .inl rfl
theorem Forget.cons {env e : Env} {t : Nat} {v : V} (h1 : get env t = v) (h2 : Forget env e) : Forget env ((t, v) :: e) := fun s => by
  simp only [get]
  cases h : Nat.beq t s with
  | true =>
    have := Nat.eq_of_beq_eq_true h
    subst this
    exact .inr h1.symm
  | false => exact h2 s
/-! ### Calls -/
theorem ACalls.mono {P : Program} {f : Nat} {args : List V} {h : H} {Q Q' : V → H → Prop} (hc : ACalls P f args h Q) (hq : ∀ r h', Q r h' → Q' r h') : ACalls P f args h Q' :=
  ⟨hc.1, fun ρ w vs r d v => (hc.2 ρ w vs r d v).mono fun e w' ⟨x, h', ρ', u, e1, q, rest⟩ => ⟨x, h', ρ', u, e1, hq _ _ q, rest⟩⟩
/-- Row i is written no more. -/
def H.ro (h : H) (i : Nat) : H where
  next := h.next
  obj := fun j => if j = i then (h.obj i).map (fun o => match o with
    | .row _ sz cs => .row false sz cs
    | .mapb es _ _ => .map true es
    | o => o) else h.obj j
  lt := fun j ob hh => by
    split at hh
    · rename_i e
      subst e
      cases hi : h.obj j with
      | none => simp [hi] at hh
      | some o => exact h.lt j o hi
    · exact h.lt j ob hh
theorem H.ro_obj (h : H) (i j : Nat) : (h.ro i).obj j = if j = i then (h.obj i).map (fun o => match o with
    | .row _ sz cs => .row false sz cs
    | .mapb es _ _ => .map true es
    | o => o) else h.obj j := rfl
theorem H.ro_same {h : H} {i : Nat} {o : Bool} {sz : Nat} {cs : List V} (hi : h.obj i = some (.row o sz cs)) : (h.ro i).obj i = some (.row false sz cs) := by simp [H.ro_obj, hi]
theorem H.ro_mapb {h : H} {i : Nat} {es : List (V × V)} {bs : List Nat} {cl : Nat} (hi : h.obj i = some (.mapb es bs cl)) : (h.ro i).obj i = some (.map true es) := by simp [H.ro_obj, hi]
theorem H.ro_ne (h : H) {i j : Nat} (hj : j ≠ i) : (h.ro i).obj j = h.obj j := by simp [H.ro_obj, hj]
theorem H.ro_old {h : H} {i j : Nat} {ob : Obj} (hh : (h.ro i).obj j = some ob) : ∃ ob0, h.obj j = some ob0 ∧ (ob.own = true → ob0.own = true) ∧ (∀ ρ w l, ObjRel ρ w l ob0 → ObjRel ρ w l ob) := by
  rw [H.ro_obj] at hh
  split at hh
  · rename_i e
    subst e
    cases hi : h.obj j with
    | none => simp [hi] at hh
    | some o =>
      rw [hi] at hh
      cases o with
      | row ow sz cs =>
        simp at hh
        subst hh
        exact ⟨_, rfl, (fun e => by cases e), fun ρ w l ⟨a, b, c, e, f, g1, g2, g3, g4⟩ => ⟨a, b, c, e, f, g1, g2, (fun e => by cases e), g4⟩⟩
      | map ow es =>
        simp at hh
        subst hh
        exact ⟨_, rfl, fun e => e, fun _ _ _ k => k⟩
      | mapb es bs cl =>
        simp at hh
        subst hh
        exact ⟨_, rfl, fun e => e, fun ρ w l ⟨a, b, c, d, e, f, g⟩ => ⟨a, cl, b, c, d, by rw [e]; exact f, g⟩⟩
      | itr a b c d =>
        simp at hh
        subst hh
        exact ⟨_, rfl, fun e => e, fun _ _ _ k => k⟩
  · exact ⟨ob, hh, fun e => e, fun _ _ _ k => k⟩
theorem Rel.ro {ρ : Rho} {h : H} {w : World} (r : Rel ρ h w) (i : Nat) : Rel ρ (h.ro i) w := by
  constructor
  · intro j ob hj
    obtain ⟨ob0, h1, _, h3⟩ := H.ro_old hj
    obtain ⟨l, e1, e2⟩ := r.obj j ob0 h1
    exact ⟨l, e1, h3 _ _ _ e2⟩
  · intro j k oj ok lj lk hj hk ho hjk e1 e2
    obtain ⟨oj0, h1, h2, _⟩ := H.ro_old hj
    obtain ⟨ok0, h3, _, _⟩ := H.ro_old hk
    exact r.sep j k oj0 ok0 lj lk h1 h3 (h2 ho) hjk e1 e2
theorem Since.ro {ρ ρ' : Rho} {h h' : H} {w w' : World} (s : Since ρ h w ρ' h' w') (i : Nat) : Since ρ h w ρ' (h'.ro i) w' :=
  ⟨s.ext, s.os, s.tape, s.output, s.size, s.next, s.frame, fun j ob l h1 h2 h3 => by
    obtain ⟨ob0, k1, k2, _⟩ := H.ro_old h1
    exact s.own j ob0 l k1 (k2 h2) h3⟩
theorem ACalls.ro {P : Program} {f : Nat} {args : List V} {h : H} {Q Q' : V → H → Prop} (hc : ACalls P f args h Q) (hq : ∀ r h', Q r h' → ∃ i, Q' r (h'.ro i)) : ACalls P f args h Q' :=
  ⟨hc.1, fun ρ w vs r d v => (hc.2 ρ w vs r d v).mono fun e w' ⟨x, h', ρ', u, e1, q, k1, k2, k3, k4⟩ => by
    obtain ⟨i, q'⟩ := hq _ _ q
    exact ⟨x, h'.ro i, ρ', u, e1, q', k1, k2.ro i, k3, k4.ro i⟩⟩

/-! ### What has turned -/
def none_ : Nat → Prop := fun _ => False
theorem Mod.trans {S S' : Nat → Prop} {a b c : H} (h : Mod S a b) (k : Mod S' b c) : Mod (fun i => S i ∨ S' i) a c :=
  ⟨Nat.le_trans h.next k.next, fun i hi hn => by
    have e1 : b.obj i = a.obj i := h.obj i hi (by
      rcases hn with hn | hn
      · exact .inl (fun s => hn (.inl s))
      · exact .inr hn)
    rw [← e1]
    refine k.obj i (Nat.lt_of_lt_of_le hi h.next) ?_
    rcases hn with hn | hn
    · exact .inl (fun s => hn (.inr s))
    · exact .inr (by rw [e1]; exact hn)⟩
/-- What is new may turn as it likes. -/
theorem Mod.trans' {S S' S2 : Nat → Prop} {a b c : H} (h : Mod S a b) (k : Mod S' b c) (h1 : ∀ i, i < a.next → S i → S2 i) (h2 : ∀ i, i < a.next → S' i → S2 i) : Mod S2 a c :=
  ⟨Nat.le_trans h.next k.next, fun i hi hn => (h.trans k).obj i hi (by
    rcases hn with hn | hn
    · exact .inl (fun s => hn (s.elim (h1 i hi) (h2 i hi)))
    · exact .inr hn)⟩
theorem Mod.mono {S S' : Nat → Prop} {a b : H} (h : Mod S a b) (hs : ∀ i, i < a.next → S i → S' i) : Mod S' a b :=
  ⟨h.next, fun i hi hn => h.obj i hi (by
    rcases hn with hn | hn
    · exact .inl (fun s => hn (hs i hi s))
    · exact .inr hn)⟩
theorem Mod.push (S : Nat → Prop) (h : H) (ob : Obj) : Mod S h (h.push ob) := ⟨Nat.le_succ _, fun i hi _ => H.obj_push_old ob (Nat.ne_of_lt hi)⟩
theorem Mod.set {S : Nat → Prop} {h : H} {i : Nat} {ob ob0 : Obj} (hs : S i) (hi : h.obj i = some ob0) (ho : ob0.own = true) : Mod S h (h.set i ob) :=
  ⟨Nat.le_refl _, fun j _ hn => H.obj_set_ne h ob (by
    rintro rfl
    rcases hn with hn | ⟨o, h1, h2⟩
    · exact hn hs
    · rw [hi] at h1
      injection h1 with h1
      subst h1
      rw [ho] at h2
      cases h2)⟩
theorem Mod.ro_new {S : Nat → Prop} {a b : H} (h : Mod S a b) {i : Nat} (hi : a.next ≤ i) : Mod S a (b.ro i) :=
  ⟨h.next, fun j hj hn => by rw [H.ro_ne _ (by omega)]; exact h.obj j hj hn⟩
theorem Mod.ro_in {S : Nat → Prop} {a b : H} (h : Mod S a b) {i : Nat} (hi : S i) (ho : ∀ ob, a.obj i = some ob → ob.own = true) : Mod S a (b.ro i) :=
  ⟨h.next, fun j hj hn => by
    by_cases e : j = i
    · subst e
      rcases hn with hn | ⟨ob, h1, h2⟩
      · exact absurd hi hn
      · rw [ho ob h1] at h2
        cases h2
    · rw [H.ro_ne _ e]
      exact h.obj j hj hn⟩
theorem Mod.get {S : Nat → Prop} {a b : H} (h : Mod S a b) {i : Nat} {ob : Obj} (hi : a.obj i = some ob) (hs : ¬ S i ∨ ob.own = false) : b.obj i = some ob := by
  rw [h.obj i (a.lt i ob hi) (by
    rcases hs with hs | hs
    · exact .inl hs
    · exact .inr ⟨ob, hi, hs⟩), hi]
theorem Mod.ro_get {S : Nat → Prop} {a b : H} (h : Mod S a b) {i sz : Nat} {cs : List V} (hi : a.obj i = some (.row false sz cs)) : b.obj i = some (.row false sz cs) := h.get hi (.inr rfl)

/-! ### Slices -/
theorem SlIs.nil (h : H) (own : Bool) (sz : Nat) : SlIs h none 0 own sz [] := ⟨by simp, .inl ⟨rfl, .inl rfl⟩⟩
theorem SlIs.row {h : H} {i n sz : Nat} {o : Bool} {cs : List V} (hi : h.obj i = some (.row o sz cs)) (hl : cs.length = n * sz) : SlIs h (some (i, 0)) n o sz cs :=
  ⟨hl, .inr ⟨i, 0, o, cs, rfl, hi, fun e => e, by omega, by rw [List.drop_zero, ← hl, List.take_length]⟩⟩
theorem SlIs.weak {h : H} {p : Option (Nat × Nat)} {n sz : Nat} {own : Bool} {cs : List V} (s : SlIs h p n own sz cs) : SlIs h p n false sz cs := by
  obtain ⟨h1, h2⟩ := s
  refine ⟨h1, ?_⟩
  rcases h2 with ⟨a, b⟩ | ⟨i, o, o', r, e1, e2, e3, e4⟩
  · exact .inl ⟨a, .inr rfl⟩
  · exact .inr ⟨i, o, o', r, e1, e2, (fun e => by cases e), e4⟩
theorem SlIs.length {h : H} {p : Option (Nat × Nat)} {n sz : Nat} {own : Bool} {cs : List V} (s : SlIs h p n own sz cs) : cs.length = n * sz := s.1
/-- carried on -/
theorem SlIs.get {S : Nat → Prop} {h h' : H} {p : Option (Nat × Nat)} {n sz : Nat} {own : Bool} {cs : List V} (s : SlIs h p n own sz cs) (m : Mod S h h') (hs : ∀ i o, p = some (i, o) → ¬ S i ∨ ∃ ob, h.obj i = some ob ∧ ob.own = false) : SlIs h' p n own sz cs := by
  obtain ⟨h1, h2⟩ := s
  refine ⟨h1, ?_⟩
  rcases h2 with h2 | ⟨i, o, o', r, e1, e2, e3⟩
  · exact .inl h2
  · exact .inr ⟨i, o, o', r, e1, by rw [m.obj i (h.lt i _ e2) (hs i o e1), e2], e3⟩
/-- a slice of what nobody writes -/
def RoSl (h : H) (p : Option (Nat × Nat)) (n sz : Nat) (cs : List V) : Prop :=
  cs.length = n * sz ∧ (n = 0 ∨ ∃ i o rest, p = some (i, o) ∧ h.obj i = some (.row false sz rest) ∧ o + n * sz ≤ rest.length ∧ (rest.drop o).take (n * sz) = cs)
theorem RoSl.is {h : H} {p : Option (Nat × Nat)} {n sz : Nat} {cs : List V} (s : RoSl h p n sz cs) : SlIs h p n false sz cs := by
  obtain ⟨h1, h2⟩ := s
  refine ⟨h1, ?_⟩
  rcases h2 with h2 | ⟨i, o, r, e1, e2, e3⟩
  · exact .inl ⟨h2, .inr rfl⟩
  · exact .inr ⟨i, o, false, r, e1, e2, (fun e => by cases e), e3⟩
theorem RoSl.get {S : Nat → Prop} {h h' : H} {p : Option (Nat × Nat)} {n sz : Nat} {cs : List V} (s : RoSl h p n sz cs) (m : Mod S h h') : RoSl h' p n sz cs := by
  obtain ⟨h1, h2⟩ := s
  refine ⟨h1, ?_⟩
  rcases h2 with h2 | ⟨i, o, r, e1, e2, e3⟩
  · exact .inl h2
  · exact .inr ⟨i, o, r, e1, m.ro_get e2, e3⟩
theorem RoSl.nil (h : H) (p : Option (Nat × Nat)) (sz : Nat) : RoSl h p 0 sz [] := ⟨by simp, .inl rfl⟩
theorem RoSl.row {h : H} {i n sz : Nat} {cs : List V} (hi : h.obj i = some (.row false sz cs)) (hl : cs.length = n * sz) : RoSl h (some (i, 0)) n sz cs :=
  ⟨hl, .inr ⟨i, 0, cs, rfl, hi, by omega, by rw [List.drop_zero, ← hl, List.take_length]⟩⟩
theorem RoSl.cut {h : H} {p : Option (Nat × Nat)} {n sz : Nat} {cs : List V} (s : RoSl h p n sz cs) {l m : Nat} (h1 : l ≤ m) (h2 : m ≤ n) : RoSl h (slp p (l * sz)) (m - l) sz ((cs.drop (l * sz)).take ((m - l) * sz)) := by
  obtain ⟨hl, hr⟩ := s
  have hmul : l * sz + (m - l) * sz ≤ n * sz := by
    rw [← Nat.add_mul]
    exact Nat.mul_le_mul_right _ (by omega)
  refine ⟨by rw [List.length_take, List.length_drop, hl]; omega, ?_⟩
  rcases hr with rfl | ⟨i, o, r, rfl, e2, e3, e4⟩
  · exact .inl (by omega)
  · refine .inr ⟨i, o + l * sz, r, rfl, e2, by omega, ?_⟩
    rw [← e4, List.drop_take, List.drop_drop, List.take_take]
    congr 1
    omega
theorem RoSl.cell {h : H} {i o n sz : Nat} {cs : List V} (s : RoSl h (some (i, o)) n sz cs) {j : Nat} {v : V} (hj : cs[j]? = some v) : Cell h i (o + j) v := by
  obtain ⟨hl, hr⟩ := s
  have hjl := (List.getElem?_eq_some_iff.1 hj).1
  rcases hr with rfl | ⟨i', o', r, e1, e2, e3, e4⟩
  · omega
  · injection e1 with e1
    injection e1 with e1 e1'
    subst e1 e1'
    refine ⟨false, sz, r, e2, ?_⟩
    rw [← e4, List.getElem?_take, if_pos (by omega), List.getElem?_drop] at hj
    exact hj
theorem RoSl.some {h : H} {p : Option (Nat × Nat)} {n sz : Nat} {cs : List V} (s : RoSl h p n sz cs) (hn : 0 < n) : ∃ i o, p = some (i, o) := by
  rcases s.2 with rfl | ⟨i, o, _, e, _⟩
  · omega
  · exact ⟨i, o, e⟩
theorem RoSl.ro {h : H} {p : Option (Nat × Nat)} {n sz : Nat} {cs : List V} (s : RoSl h p n sz cs) (i : Nat) : RoSl (h.ro i) p n sz cs := by
  obtain ⟨h1, h2⟩ := s
  refine ⟨h1, ?_⟩
  rcases h2 with h2 | ⟨j, o, r, e1, e2, e3⟩
  · exact .inl h2
  · refine .inr ⟨j, o, r, e1, ?_, e3⟩
    by_cases e : j = i
    · subst e
      exact H.ro_same e2
    · rw [H.ro_ne _ e, e2]
/-- a slice made since h0, one's own -/
def NewSl (h0 h : H) (p : Option (Nat × Nat)) (n sz : Nat) (cs : List V) : Prop := SlIs h p n true sz cs ∧ ∀ i o, p = some (i, o) → h0.next ≤ i
theorem NewSl.freeze {S : Nat → Prop} {h0 h : H} {p : Option (Nat × Nat)} {n sz : Nat} {cs : List V} (s : NewSl h0 h p n sz cs) (m : Mod S h0 h) : ∃ i, h0.next ≤ i ∧ RoSl (h.ro i) p n sz cs ∧ Mod S h0 (h.ro i) := by
  obtain ⟨⟨h1, h2⟩, h3⟩ := s
  rcases h2 with ⟨rfl, _⟩ | ⟨i, o, o', r, e1, e2, e3, e4, e5⟩
  · exact ⟨h.next, m.next, ⟨h1, .inl rfl⟩, m.ro_new m.next⟩
  · have hi := h3 i o e1
    exact ⟨i, hi, ⟨h1, .inr ⟨i, o, r, e1, H.ro_same e2, e4, e5⟩⟩, m.ro_new hi⟩
theorem NewSl.nil (h0 h : H) (sz : Nat) : NewSl h0 h none 0 sz [] := ⟨SlIs.nil _ _ _, fun _ _ e => by cases e⟩
theorem ints_length (k : IntKind) (xs : List Int) : (ints k xs).length = xs.length := by simp [ints]
theorem ints_get {k : IntKind} {xs : List Int} {j : Nat} (h : j < xs.length) : (ints k xs)[j]? = some (.int k (xs.getD j 0)) := by
  simp [ints, List.getElem?_eq_getElem h, List.getD_eq_getElem?_getD]
theorem ints_append (k : IntKind) (xs ys : List Int) : ints k (xs ++ ys) = ints k xs ++ ints k ys := by simp [ints]
theorem ints_drop (k : IntKind) (xs : List Int) (n : Nat) : (ints k xs).drop n = ints k (xs.drop n) := by simp [ints]
theorem ints_take (k : IntKind) (xs : List Int) (n : Nat) : (ints k xs).take n = ints k (xs.take n) := by simp [ints]
theorem wrap_i64 {x : Int} (h1 : -9223372036854775808 ≤ x) (h2 : x ≤ 9223372036854775807) : IntKind.i64.wrap x = x := by
  simp [IntKind.wrap, IntKind.bits, IntKind.signed]
  omega
end Go.Ab
