/- General words for walks: slices, rows, tables. -/
import Derived.Test.YtpefdmidfllhoaaAb18
import Derived.Test.YtpefdmidfllhoaaAb19
import Derived.Test.YtpefdmidfllhoaaAb20
import Derived.Test.YtpefdmidfllhoaaAb21
import Derived.Test.YtpefdmidfllhoaaQ0
set_option linter.unusedVariables false
set_option linter.unusedSimpArgs false
namespace Go.Proofs.Ytpefdmidfllhoaa
open Go Go.Ab
def one (g : Nat) : Nat → Prop := fun i => i = g
theorem foldl_take {α : Type} {f : α → Int → α} {z : α} {xs : List Int} {j : Nat} (hj : j < xs.length) : (xs.take (j + 1)).foldl f z = f ((xs.take j).foldl f z) (xs.getD j 0) := by
  rw [List.take_add_one, List.foldl_append, List.getElem?_eq_getElem hj, List.getD_eq_getElem?_getD, List.getElem?_eq_getElem hj]
  rfl
theorem succ_i64 {j n : Nat} (h : j < n) (hn : n ≤ 70368744177664) : IntKind.i64.wrap ((j : Int) + 1) = ((j + 1 : Nat) : Int) := by
  rw [wrap_i64 (by omega) (by omega)]
  omega
def foot (g : Nat) (p : Option (Nat × Nat)) : Nat → Prop := fun i => i = g ∨ inSl p i
theorem isFresh.refl (h : H) (p : Option (Nat × Nat)) : isFresh h p p := fun _ _ _ => .inl rfl
theorem isFresh.mono {h h1 : H} {p p' : Option (Nat × Nat)} (hn : h.next ≤ h1.next) (f : isFresh h1 p p') : isFresh h p p' := fun i o e => (f i o e).imp id (Nat.le_trans hn)
theorem isFresh.trans {h h1 : H} {p p' p2 : Option (Nat × Nat)} (f : isFresh h p p') (hn : h.next ≤ h1.next) (f2 : isFresh h1 p' p2) : isFresh h p p2 := fun i o e => by
  rcases f2 i o e with k | k
  · subst k
    exact f i o e
  · exact .inr (Nat.le_trans hn k)
theorem foot_fresh {h : H} {g : Nat} {p p' : Option (Nat × Nat)} (f : isFresh h p p') : ∀ i, i < h.next → foot g p' i → foot g p i := by
  rintro i hi (rfl | ⟨o, e⟩)
  · exact .inl rfl
  · rcases f i o e with k | k
    · exact .inr ⟨o, by rw [← k, e]⟩
    · omega
/-- slice of numbers, read only here -/
def Nums (S : Nat → Prop) (h : H) (p : Option (Nat × Nat)) (n : Nat) (vs : List Int) : Prop :=
  SlIs h p n false 1 (ints .i64 vs) ∧ (n = 0 ∨ ∀ i o, p = some (i, o) → ¬ S i ∨ ∃ ob, h.obj i = some ob ∧ ob.own = false)
theorem Nums.len {S : Nat → Prop} {h : H} {p : Option (Nat × Nat)} {n : Nat} {xs : List Int} (o : Nums S h p n xs) : n = xs.length := by
  have := o.1.1
  rw [ints_length] at this
  omega
theorem Nums.get {S : Nat → Prop} {h h' : H} {p : Option (Nat × Nat)} {n : Nat} {xs : List Int} (o : Nums S h p n xs) (m : Ab.Mod S h h') : Nums S h' p n xs := by
  rcases o.2 with rfl | o2
  · exact ⟨⟨o.1.1, .inl ⟨rfl, .inr rfl⟩⟩, .inl rfl⟩
  refine ⟨o.1.get m o2, .inr (fun i j e => ?_)⟩
  rcases o2 i j e with k | ⟨ob, k1, k2⟩
  · exact .inl k
  · exact .inr ⟨ob, m.get k1 (.inr k2), k2⟩
theorem SlIs.cell {h : H} {p : Option (Nat × Nat)} {n sz : Nat} {own : Bool} {cs : List V} (s : SlIs h p n own sz cs) {j : Nat} {v : V} (hj : cs[j]? = some v) : ∃ i c, p = some (i, c) ∧ Cell h i (c + j) v := by
  obtain ⟨hl, hr⟩ := s
  have hjl := (List.getElem?_eq_some_iff.1 hj).1
  rcases hr with ⟨rfl, _⟩ | ⟨i', o', b, r, e1, e2, e3, e4, e5⟩
  · omega
  · refine ⟨i', o', e1, b, sz, r, e2, ?_⟩
    rw [← e5, List.getElem?_take, if_pos (by omega), List.getElem?_drop] at hj
    exact hj
theorem Nums.cell {S : Nat → Prop} {h : H} {p : Option (Nat × Nat)} {n : Nat} {xs : List Int} (o : Nums S h p n xs) {j : Nat} (hj : j < n) : ∃ i c, p = some (i, c) ∧ Cell h i (c + j * 1) (i64 (xs.getD j 0)) := by
  have := o.len
  rw [Nat.mul_one]
  exact SlIs.cell o.1 (ints_get (by omega))
theorem Nums.of_ro {S : Nat → Prop} {h : H} {p : Option (Nat × Nat)} {n : Nat} {vs : List Int} (o : RoSl h p n 1 (ints .i64 vs)) : Nums S h p n vs := by
  refine ⟨o.is, ?_⟩
  rcases o.2 with k | ⟨i, c, r, rfl, k, _⟩
  · exact .inl k
  · refine .inr (fun i' c' e => .inr ?_)
    injection e with e
    injection e with e1 e2
    subst e1
    exact ⟨_, k, rfl⟩
theorem drop_cons {xs : List Int} {j : Nat} (h : j < xs.length) : xs.drop j = xs.getD j 0 :: xs.drop (j + 1) := by
  rw [List.drop_eq_getElem_cons h, List.getD_eq_getElem?_getD, List.getElem?_eq_getElem h]
  rfl
theorem row_nums {h : H} {S : Nat → Prop} {vs : List Int} {i n : Nat} {o : Bool} (hi : h.obj i = some (.row o 1 (ints .i64 vs))) (hn : vs.length = n) (hs : ¬ S i) : Nums S h (some (i, 0)) n vs :=
  ⟨(SlIs.row (n := n) hi (by rw [ints_length, hn, Nat.mul_one])).weak, .inr (fun j o' e => .inl (by
    injection e with e
    injection e with e
    rw [← e]
    exact hs))⟩
theorem flat_get {α : Type} {f : α → List V} {sz : Nat} (hf : ∀ a, (f a).length = sz) {d : Nat} (hd : d < sz) : ∀ (es : List α) (j : Nat), (es.flatMap f)[j * sz + d]? = (es[j]?).bind fun e => (f e)[d]?
  | [], j => by simp
  | e :: es, 0 => by
    rw [List.flatMap_cons, Nat.zero_mul, Nat.zero_add, List.getElem?_append_left (by rw [hf]; exact hd)]
    rfl
  | e :: es, j + 1 => by
    rw [List.flatMap_cons, List.getElem?_append_right (by rw [hf, Nat.add_mul]; omega), hf]
    have : (j + 1) * sz + d - sz = j * sz + d := by
      rw [Nat.add_mul]
      omega
    rw [this, flat_get hf hd es j]
    rfl
theorem flat_length {α : Type} {f : α → List V} {sz : Nat} (hf : ∀ a, (f a).length = sz) (es : List α) : (es.flatMap f).length = es.length * sz := by
  induction es with
  | nil => simp
  | cons e es ih => rw [List.flatMap_cons, List.length_append, hf, ih, List.length_cons, Nat.add_mul]; omega
theorem tmod_round {x m : Int} (hm : 0 < m) : (if x.tmod m < 0 then x.tmod m + m else x.tmod m) = x % m := by
  have h1 := Int.emod_nonneg x (show m ≠ 0 by omega)
  have h2 := Int.emod_lt_of_pos x hm
  rw [Int.tmod_eq_emod]
  split
  · rw [if_neg (by omega)]
    omega
  · rw [if_pos (by omega)]
    omega
theorem SlIs.ro_ne {h : H} {p : Option (Nat × Nat)} {n sz : Nat} {own : Bool} {cs : List V} (s : SlIs h p n own sz cs) {i : Nat} (hi : ∀ j o, p = some (j, o) → j ≠ i) : SlIs (h.ro i) p n own sz cs := by
  obtain ⟨h1, h2⟩ := s
  refine ⟨h1, ?_⟩
  rcases h2 with h2 | ⟨j, o, o', r, e1, e2, e3⟩
  · exact .inl h2
  · exact .inr ⟨j, o, o', r, e1, by rw [H.ro_ne _ (hi j o e1), e2], e3⟩
theorem SlIs.freeze {h : H} {p : Option (Nat × Nat)} {n sz : Nat} {own : Bool} {cs : List V} (s : SlIs h p n own sz cs) : ∃ i, (inSl p i ∨ h.next ≤ i) ∧ RoSl (h.ro i) p n sz cs := by
  obtain ⟨h1, h2⟩ := s
  rcases h2 with ⟨rfl, _⟩ | ⟨i, o, o', r, e1, e2, e3, e4, e5⟩
  · exact ⟨h.next, .inr (Nat.le_refl _), h1, .inl rfl⟩
  · exact ⟨i, .inl ⟨o, e1⟩, h1, .inr ⟨i, o, r, e1, H.ro_same e2, e4, e5⟩⟩
theorem SlIs.own_lt {h : H} {p : Option (Nat × Nat)} {n sz : Nat} {cs : List V} (s : SlIs h p n true sz cs) {i : Nat} (k : inSl p i) : i < h.next := by
  obtain ⟨o, rfl⟩ := k
  rcases s.2 with ⟨_, k | k⟩ | ⟨i', o', b, r, e1, e2, _⟩
  · cases k
  · cases k
  · injection e1 with e1
    injection e1 with e1
    subst e1
    exact h.lt _ _ e2
theorem slo_len {h : H} {p : Option (Nat × Nat)} {n : Nat} {own : Bool} {k : IntKind} {xs : List Int} (o : SlIs h p n own 1 (ints k xs)) : n = xs.length := by
  have := o.1
  rw [ints_length] at this
  omega
theorem slo_get {h : H} {p : Option (Nat × Nat)} {n : Nat} {own : Bool} {k : IntKind} {xs : List Int} (o : SlIs h p n own 1 (ints k xs)) {j : Nat} (hj : j < n) : ∃ i c, p = some (i, c) ∧ Cell h i (c + j * 1) (.int k (xs.getD j 0)) := by
  have := slo_len o
  rw [Nat.mul_one]
  exact SlIs.cell o (ints_get (by omega))
theorem SlIs.old {S : Nat → Prop} {h h' : H} {p : Option (Nat × Nat)} {n sz : Nat} {own : Bool} {cs : List V} (s : SlIs h p n own sz cs) (m : Ab.Mod S h h') (hS : ∀ i, i < h.next → ¬ S i) : SlIs h' p n own sz cs := by
  obtain ⟨h1, h2⟩ := s
  refine ⟨h1, ?_⟩
  rcases h2 with h2 | ⟨i, o, o', r, e1, e2, e3⟩
  · exact .inl h2
  · exact .inr ⟨i, o, o', r, e1, m.get e2 (.inl (hS i (h.lt _ _ e2))), e3⟩
theorem getD_mem {c : List Int} {i : Nat} (h : i < c.length) : c.getD i 0 ∈ c := by
  rw [List.getD_eq_getElem?_getD, List.getElem?_eq_getElem h]
  exact List.getElem_mem h
theorem get_getD {c : List Int} {i : Nat} (h : i < c.length) : c[i]? = some (c.getD i 0) := by
  rw [List.getD_eq_getElem?_getD, List.getElem?_eq_getElem h]
  rfl
theorem SlIs.cut {h : H} {p : Option (Nat × Nat)} {n sz : Nat} {cs : List V} (s : SlIs h p n false sz cs) {l m : Nat} (h1 : l ≤ m) (h2 : m ≤ n) : SlIs h (slp p (l * sz)) (m - l) false sz ((cs.drop (l * sz)).take ((m - l) * sz)) := by
  obtain ⟨hl, hr⟩ := s
  have hmul : l * sz + (m - l) * sz ≤ n * sz := by
    rw [← Nat.add_mul]
    exact Nat.mul_le_mul_right _ (by omega)
  refine ⟨by rw [List.length_take, List.length_drop, hl]; omega, ?_⟩
  rcases hr with ⟨rfl, _⟩ | ⟨i, o, b, r, rfl, e2, e0, e3, e4⟩
  · exact .inl ⟨by omega, .inr rfl⟩
  · refine .inr ⟨i, o + l * sz, b, r, rfl, e2, e0, by omega, ?_⟩
    rw [← e4, List.drop_take, List.drop_drop, List.take_take]
    congr 1
    omega
theorem slo_cut {h : H} {p : Option (Nat × Nat)} {n : Nat} {k : IntKind} {xs : List Int} (s : SlIs h p n false 1 (ints k xs)) {l m : Nat} (h1 : l ≤ m) (h2 : m ≤ n) : SlIs h (slp p l) (m - l) false 1 (ints k ((xs.drop l).take (m - l))) := by
  have := SlIs.cut s h1 h2
  rw [Nat.mul_one, Nat.mul_one, ints_drop, ints_take] at this
  exact this
theorem mod_refl (S : Nat → Prop) (h : H) : Ab.Mod S h h := ⟨Nat.le_refl _, fun _ _ _ => rfl⟩
theorem mod_none {a b c : H} (h : Ab.Mod none_ a b) (k : Ab.Mod none_ b c) : Ab.Mod none_ a c := h.trans' k (fun _ _ k => k) (fun _ _ k => k)
theorem zeros_ints (k : IntKind) (n : Nat) : zerosV n [V.int k 0] = ints k (List.replicate n 0) := by
  unfold zerosV ints
  rw [List.map_replicate, show n * [V.int k 0].length = n from Nat.mul_one n]
  apply List.ext_getElem?
  intro i
  rw [List.getElem?_map, List.getElem?_replicate]
  by_cases h : i < n
  · rw [List.getElem?_range h, if_pos h]
    show some (([V.int k 0] : List V).getD (i % 1) .undef) = _
    rw [Nat.mod_one]
    rfl
  · rw [List.getElem?_eq_none (by simp; omega), if_neg h]
    rfl
/-- a slice of integers, made since h0 -/
def NewS (h0 h : H) (k : IntKind) (p : Option (Nat × Nat)) (n : Nat) (xs : List Int) : Prop := SlIs h p n true 1 (ints k xs) ∧ (∀ i o, p = some (i, o) → h0.next ≤ i) ∧ Ab.Mod none_ h0 h
theorem NewS.empty (h : H) (k : IntKind) : NewS h (h.push (.row true 1 [])) k (some (h.next, 0)) 0 [] :=
  ⟨⟨rfl, .inr ⟨_, 0, true, [], rfl, H.obj_push_new _ _, fun e => e, by simp, by simp [ints]⟩⟩, fun i o e => by
    injection e with e
    injection e with e
    omega, Mod.push none_ h _⟩
theorem NewS.nil (h0 h : H) (k : IntKind) (m : Ab.Mod none_ h0 h) : NewS h0 h k none 0 [] := ⟨SlIs.nil _ _ _, (fun _ _ e => by cases e), m⟩
theorem NewS.app {h0 h1 h2 : H} {k : IntKind} {p p' : Option (Nat × Nat)} {n m : Nat} {xs ys : List Int} (w : NewS h0 h1 k p n xs) (hs : SlIs h2 p' (n + m) true 1 (ints k xs ++ ints k ys)) (hm : Ab.Mod (inSl p) h1 h2) (hf : isFresh h1 p p') : NewS h0 h2 k p' (n + m) (xs ++ ys) := by
  refine ⟨by rw [ints_append]; exact hs, fun i o e => ?_, w.2.2.trans' hm (fun _ _ k => k) (fun i hi k => ?_)⟩
  · rcases hf i o e with k | k
    · exact w.2.1 i o (by rw [← k, e])
    · exact Nat.le_trans w.2.2.next k
  · obtain ⟨o, k⟩ := k
    have := w.2.1 i o k
    omega
theorem NewS.keep {h0 h h' : H} {k : IntKind} {p : Option (Nat × Nat)} {n : Nat} {xs : List Int} (w : NewS h0 h k p n xs) (m : Ab.Mod none_ h h') : NewS h0 h' k p n xs :=
  ⟨SlIs.old w.1 m (fun _ _ k => k), w.2.1, mod_none w.2.2 m⟩
theorem NewS.len {h0 h : H} {k : IntKind} {p : Option (Nat × Nat)} {n : Nat} {xs : List Int} (w : NewS h0 h k p n xs) : n = xs.length := slo_len w.1.weak
theorem splice_one {α : Type} (cs : List α) (o : Nat) (v : α) : splice cs o [v] = cs.set o v := rfl
theorem NewS.put {h0 h : H} {k : IntKind} {p : Option (Nat × Nat)} {n : Nat} {xs : List Int} (w : NewS h0 h k p n xs) {j : Nat} (hj : j < n) (v : Int) : ∃ i c sz cs, p = some (i, c) ∧ h.obj i = some (.row true sz cs) ∧ c + j * 1 + 1 ≤ cs.length ∧ NewS h0 (h.set i (.row true sz (splice cs (c + j * 1) [V.int k v]))) k p n (xs.set j v) := by
  obtain ⟨⟨hl, hr⟩, hf, m⟩ := w
  rcases hr with ⟨rfl, _⟩ | ⟨i, c, o', r, rfl, e2, e3, e4, e5⟩
  · omega
  · obtain rfl := e3 rfl
    have hlen : (ints k xs).length = n * 1 := hl
    refine ⟨i, c, 1, r, rfl, e2, by omega, ⟨by rw [ints_length, List.length_set, ← ints_length k, hlen], .inr ⟨i, c, true, _, rfl, H.obj_set_same e2, fun e => e, ?_, ?_⟩⟩, hf, ?_⟩
    · rw [splice_one, List.length_set]
      exact e4
    · rw [splice_one, Nat.mul_one, Nat.mul_one, List.drop_set, if_neg (by omega), List.take_set]
      rw [Nat.mul_one] at e5
      rw [e5, show c + j - c = j by omega]
      simp [ints, List.map_set]
    · exact m.trans' (Mod.set (S := one i) rfl e2 rfl) (fun _ _ k => k) (fun i' hi k => by
        have := hf i c rfl
        unfold one at k
        omega)
theorem flat_seg {α : Type} {f : α → List V} {sz : Nat} (hf : ∀ a, (f a).length = sz) {l : List α} {j : Nat} (hj : j < l.length) : ((l.flatMap f).drop (j * sz)).take sz = f l[j] := by
  apply List.ext_getElem?
  intro d
  rw [List.getElem?_take, List.getElem?_drop]
  by_cases hd : d < sz
  · rw [if_pos hd, flat_get hf hd, List.getElem?_eq_getElem hj]
    rfl
  · rw [if_neg hd, List.getElem?_eq_none (by rw [hf]; omega)]
theorem sls_get {α : Type} {f : α → List V} {sz : Nat} (hf : ∀ a, (f a).length = sz) {h : H} {p : Option (Nat × Nat)} {n : Nat} {own : Bool} {l : List α} (o : SlIs h p n own sz (l.flatMap f)) (hn : n = l.length) {j : Nat} (hj : j < l.length) :
    ∃ i c, p = some (i, c) ∧ Cells h i (c + j * sz) sz (f l[j]) ∧ ∀ d v, (f l[j])[d]? = some v → Cell h i (c + j * sz + d) v := by
  obtain ⟨hl, hr⟩ := o
  rcases hr with ⟨h0, _⟩ | ⟨i, c, b, r, rfl, e2, _, e4, e5⟩
  · omega
  · have hm : j * sz + sz ≤ n * sz := by
      rw [hn, ← Nat.succ_mul]
      exact Nat.mul_le_mul_right _ hj
    have hs : (r.drop (c + j * sz)).take sz = f l[j] := by
      rw [← flat_seg hf hj, ← e5, List.drop_take, List.drop_drop, List.take_take, Nat.min_eq_left (by omega)]
    refine ⟨i, c, rfl, ⟨b, sz, r, e2, by omega, hs⟩, fun d v hd => ⟨b, sz, r, e2, ?_⟩⟩
    have hds : d < sz := by
      have := (List.getElem?_eq_some_iff.1 hd).1
      rwa [hf] at this
    rw [← hs, List.getElem?_take, if_pos hds, List.getElem?_drop] at hd
    exact hd
theorem all_no {α : Type} {f : α → Bool} {l : List α} {j : Nat} (hj : j < l.length) (h : f l[j] = false) : l.all f = false := by
  cases e : l.all f with
  | false => rfl
  | true =>
    rw [List.all_eq_true] at e
    rw [e _ (List.getElem_mem hj)] at h
    cases h
theorem all_yes {α : Type} {f : α → Bool} {l : List α} (h : ∀ j (hj : j < l.length), f l[j] = true) : l.all f = true := by
  rw [List.all_eq_true]
  intro x hx
  obtain ⟨j, hj, rfl⟩ := List.getElem_of_mem hx
  exact h j hj
theorem range_no {f : Nat → Bool} {n j : Nat} (hj : j < n) (h : f j = false) : (List.range n).all f = false := by
  cases e : (List.range n).all f with
  | false => rfl
  | true =>
    rw [List.all_eq_true] at e
    rw [e _ (List.mem_range.2 hj)] at h
    cases h
theorem range_yes {f : Nat → Bool} {n : Nat} (h : ∀ j, j < n → f j = true) : (List.range n).all f = true := by
  rw [List.all_eq_true]
  exact fun x hx => h x (List.mem_range.1 hx)
/-- a row that is laid by -/
theorem lay_row {h : H} {sz : Nat} (z cs : List V) : ∃ gm : (h.push (.row true sz z)).obj h.next = some (.row true sz z), ((h.push (.row true sz z)).set h.next (.row true sz cs)).obj h.next = some (.row true sz cs) ∧ Ab.Mod none_ h ((h.push (.row true sz z)).set h.next (.row true sz cs)) := by
  have mp := Mod.push none_ h (.row true sz z)
  have gm : (h.push (.row true sz z)).obj h.next = some (.row true sz z) := H.obj_push_new _ _
  refine ⟨gm, H.obj_set_same gm, ?_⟩
  have ms := Mod.set (S := one h.next) (ob := .row true sz cs) rfl gm rfl
  exact mp.trans' ms (S2 := none_) (fun _ _ k => k) (fun i hi k => absurd hi (by unfold one at k; omega))
def tab (n : Nat) (F : Nat → Nat) : List Int := (List.range n).map fun v => (F v : Int)
theorem tab_len (n : Nat) (F : Nat → Nat) : (tab n F).length = n := by simp [tab]
theorem tab_get {n : Nat} {F : Nat → Nat} {j : Nat} (h : j < n) : (tab n F).getD j 0 = F j := by
  simp [tab, List.getD_eq_getElem?_getD, h]
theorem tab_set {n : Nat} {F F' : Nat → Nat} {j : Nat} (hj : j < n) (h : ∀ v, v < n → v ≠ j → F' v = F v) : (tab n F).set j (F' j) = tab n F' := by
  apply List.ext_getElem?
  intro i
  rw [List.getElem?_set]
  by_cases e : j = i
  · subst e
    simp [tab, hj]
  · rw [if_neg e]
    by_cases hi : i < n
    · simp [tab, hi, h i hi (Ne.symm e)]
    · simp [tab, hi]
theorem tab_zero (n : Nat) : List.replicate n (0 : Int) = tab n (fun _ => 0) := by
  apply List.ext_getElem?
  intro i
  rw [List.getElem?_replicate]
  by_cases hi : i < n
  · simp [tab, hi]
  · simp [tab, hi]
theorem own_put {h : H} {k : IntKind} {p : Option (Nat × Nat)} {n : Nat} {xs : List Int} (w : SlIs h p n true 1 (ints k xs)) {j : Nat} (hj : j < n) (v : Int) : ∃ i c sz cs, p = some (i, c) ∧ h.obj i = some (.row true sz cs) ∧ c + j * 1 + 1 ≤ cs.length ∧ SlIs (h.set i (.row true sz (splice cs (c + j * 1) [V.int k v]))) p n true 1 (ints k (xs.set j v)) := by
  obtain ⟨hl, hr⟩ := w
  rcases hr with ⟨rfl, _⟩ | ⟨i, c, o', r, rfl, e2, e3, e4, e5⟩
  · omega
  · obtain rfl := e3 rfl
    have hlen : (ints k xs).length = n * 1 := hl
    refine ⟨i, c, 1, r, rfl, e2, by omega, ⟨by rw [ints_length, List.length_set, ← ints_length k, hlen], .inr ⟨i, c, true, _, rfl, H.obj_set_same e2, fun e => e, ?_, ?_⟩⟩⟩
    · rw [splice_one, List.length_set]
      exact e4
    · rw [splice_one, Nat.mul_one, Nat.mul_one, List.drop_set, if_neg (by omega), List.take_set]
      rw [Nat.mul_one] at e5
      rw [e5, show c + j - c = j by omega]
      simp [ints, List.map_set]
theorem drop_cons' {α : Type} {l : List α} {j : Nat} (d : α) (h : j < l.length) : l.drop j = l.getD j d :: l.drop (j + 1) := by
  rw [List.drop_eq_getElem_cons h, List.getD_eq_getElem?_getD, List.getElem?_eq_getElem h]
  rfl
theorem take_snoc' {α : Type} {l : List α} {j : Nat} (d : α) (h : j < l.length) : l.take (j + 1) = l.take j ++ [l.getD j d] := by
  rw [List.take_add_one, List.getElem?_eq_getElem h, List.getD_eq_getElem?_getD, List.getElem?_eq_getElem h]
  rfl
/-- a graph that is built up: its cells, the reader, the row that grows -/
def two (a b : Nat) : Nat → Prop := fun i => i = a ∨ i = b
theorem SlIs.ro_weak {h : H} {p : Option (Nat × Nat)} {n sz : Nat} {cs : List V} (s : SlIs h p n false sz cs) (i : Nat) : SlIs (h.ro i) p n false sz cs := by
  obtain ⟨h1, h2⟩ := s
  refine ⟨h1, ?_⟩
  rcases h2 with h2 | ⟨j, o, o', r, e1, e2, e3, e4⟩
  · exact .inl h2
  · by_cases k : j = i
    · subst k
      exact .inr ⟨j, o, false, r, e1, H.ro_same e2, (fun k => (by cases k)), e4⟩
    · exact .inr ⟨j, o, o', r, e1, by rw [H.ro_ne _ k, e2], e3, e4⟩
theorem rd_parts {D : Type} {h : H} {n e : Nat} {α : Type} {f : α → List V} (he : ∀ (d : DataW D) (c : List V), RD T h n e d c → ∃ a, c = f a) : ∀ {ds : List (DataW D)} {css : List (List V)}, RDs (RD T h n e) ds css → ∃ l : List α, css.flatten = l.flatMap f ∧ l.length = ds.length
  | [], [], _ => ⟨[], rfl, rfl⟩
  | d :: ds, c :: cs, r => by
    obtain ⟨l, h1, h2⟩ := rd_parts he r.2
    obtain ⟨a, rfl⟩ := he _ _ r.1
    exact ⟨a :: l, by rw [List.flatten_cons, h1]; rfl, by simp [h2]⟩
  | [], _ :: _, r => r.elim
  | _ :: _, [], r => r.elim
theorem rd_rows {D : Type} {h : H} {n t e sz : Nat} {α : Type} {f : α → List V} (hf : ∀ a, (f a).length = sz) (ht : (T.at_ t).d = .sl e) (hs : (T.at_ e).size = sz) (he : ∀ (d : DataW D) (c : List V), RD T h n e d c → ∃ a, c = f a) {d : DataW D} {c : List V} (r : RD T h (n + 1) t d c) :
    ∃ (p : Option (Nat × Nat)) (l : List α), c = [.sl p l.length] ∧ RoSl h p l.length sz (l.flatMap f) := by
  obtain ⟨p, ds, css, rfl, h1, h2, h3⟩ := rd_slice ht r
  obtain ⟨l, e1, e2⟩ := rd_parts he h3
  rw [hs, e1] at h2
  refine ⟨p, l, by rw [e2], by rw [flat_length hf], ?_⟩
  rcases h2 with h2 | ⟨i, rfl, h2⟩
  · exact .inl (by omega)
  · exact .inr ⟨i, 0, _, rfl, h2, by rw [flat_length hf]; omega, by rw [List.drop_zero, ← flat_length hf, List.take_length]⟩
end Go.Proofs.Ytpefdmidfllhoaa
