/- The law OctetsWrite: what it is handed, and its own bound. -/
import Derived.Test.YtnpfdppmpmnhbaaS9
set_option linter.unusedVariables false
namespace Go.Proofs.Ytnpfdppmpmnhbaa
open Go Go.Ab
theorem flat_get {α : Type} {f : α → List V} {sz : Nat} (hf : ∀ a, (f a).length = sz) {d : Nat} (hd : d < sz) : ∀ (es : List α) (j : Nat), (es.flatMap f)[j * sz + d]? = (es[j]?).bind fun e => (f e)[d]?
  | [], j => by simp
  | e :: es, 0 => by
    rw [List.flatMap_cons, Nat.zero_mul, Nat.zero_add, List.getElem?_append_left (by rw [hf]; exact hd)]
    rfl
  | e :: es, j + 1 => by
    rw [List.flatMap_cons, List.getElem?_append_right (by rw [hf, Nat.add_mul]; omega), hf]
    have : (j + 1) * sz + d - sz = j * sz + d := by
      rw [Nat.add_mul]
      omega
    rw [this, flat_get hf hd es j]
    rfl
theorem flat_length {α : Type} {f : α → List V} {sz : Nat} (hf : ∀ a, (f a).length = sz) (es : List α) : (es.flatMap f).length = es.length * sz := by
  induction es with
  | nil => simp
  | cons e es ih => rw [List.flatMap_cons, List.length_append, hf, ih, List.length_cons, Nat.add_mul]; omega
structure Act where
  kind : Int
  size : Int
  np : Option (Nat × Nat)
  nums : List Int
  bp : Option (Nat × Nat)
  octs : List Int
def Act.cells (a : Act) : List V := [i64 a.kind, i64 a.size, .sl a.np a.nums.length, .sl a.bp a.octs.length]
def Act.ok (h : H) (a : Act) : Prop := RoSl h a.np a.nums.length 1 (ints .i64 a.nums) ∧ Oct h a.bp a.octs.length a.octs ∧ ∀ x ∈ a.octs, 0 ≤ x ∧ x < 256
def Acts (h : H) (p : Option (Nat × Nat)) (n : Nat) (es : List Act) : Prop := RoSl h p n 4 (es.flatMap Act.cells) ∧ ∀ e ∈ es, e.ok h
theorem Acts.len {h : H} {p : Option (Nat × Nat)} {n : Nat} {es : List Act} (o : Acts h p n es) : n = es.length := by
  have := o.1.1
  rw [flat_length (sz := 4) (fun _ => rfl)] at this
  omega
theorem Acts.get {S : Nat → Prop} {h h' : H} {p : Option (Nat × Nat)} {n : Nat} {es : List Act} (o : Acts h p n es) (m : Ab.Mod S h h') : Acts h' p n es :=
  ⟨o.1.get m, fun e he => ⟨(o.2 e he).1.get m, (o.2 e he).2.1.get m, (o.2 e he).2.2⟩⟩
theorem Acts.cell {h : H} {p : Option (Nat × Nat)} {n : Nat} {es : List Act} (o : Acts h p n es) {j : Nat} (hj : j < es.length) : ∃ i c e, p = some (i, c) ∧ es[j]? = some e ∧ e.ok h ∧ Cell h i (c + j * 4 + 0) (i64 e.kind) ∧ Cell h i (c + j * 4 + 1) (i64 e.size) ∧ Cell h i (c + j * 4 + 2) (.sl e.np e.nums.length) ∧ Cell h i (c + j * 4 + 3) (.sl e.bp e.octs.length) := by
  have hl := o.len
  obtain ⟨i, c, rfl⟩ := RoSl.some o.1 (by omega)
  have he : es[j]? = some es[j] := List.getElem?_eq_getElem hj
  have key : ∀ d v, d < 4 → (Act.cells es[j])[d]? = some v → Cell h i (c + j * 4 + d) v := fun d v hd hv => by
    have := RoSl.cell o.1 (j := j * 4 + d) (v := v) (by
      rw [flat_get (sz := 4) (fun _ => rfl) hd, he]
      exact hv)
    rwa [← Nat.add_assoc] at this
  exact ⟨i, c, es[j], rfl, he, o.2 _ (List.getElem_mem hj), key 0 _ (by decide) rfl, key 1 _ (by decide) rfl, key 2 _ (by decide) rfl, key 3 _ (by decide) rfl⟩
def Act.fits (e : Act) : Prop := e.nums.length ≤ 20 ∧ e.octs.length ≤ 60

theorem few17 {h : H} {p : Option (Nat × Nat)} {n : Nat} {es : List Act} (o : Acts h p n es) (hn : n ≤ maxLen) : ACalls Try.prog 17 [.sl p n] h (fun r h' => h' = h ∧ ∃ b, r = .bool b ∧ (b = true → es.length ≤ 30 ∧ ∀ e ∈ es, e.fits)) := by
  have hl := o.len
  subst hl
  refine call_ Try.func17 rfl rfl (by kernel_rfl) ?_
  conv => whnf
  refine ⟨fun env hh => hh = h ∧ ∃ (j : Nat) (z : Int), j ≤ es.length ∧ j ≤ 40 ∧ z = j ∧ (∀ i e, i < j → es[i]? = some e → e.fits) ∧ env = [(3, i64 z), (0, .sl p es.length)],
    fun env _ => match get env 3 with
      | .int _ z => (es.length - z).toNat
      | _ => 0, ⟨_, Forget.cons rfl (Forget.cons rfl (Forget.nil _)), rfl, 0, _, Nat.zero_le _, by decide, rfl, fun i e hi => absurd hi (Nat.not_lt_zero i), rfl⟩, ?_⟩
  rintro _ _ ⟨rfl, j, z, hj, hj4, rfl, hf, rfl⟩
  conv => whnf
  refine br_mk (fun hb => ?_) (fun hb => ?_)
  rotate_left
  · conv => whnf
    simp at hb
    obtain rfl : j = es.length := by omega
    refine ⟨rfl, _, rfl, fun hb => ⟨by simp at hb; omega, fun e he => ?_⟩⟩
    obtain ⟨i, hi, rfl⟩ := List.getElem_of_mem he
    exact hf i _ hi (List.getElem?_eq_getElem hi)
  conv => whnf
  refine br_mk (fun hc => ?_) (fun hc => ?_)
  rotate_left
  · conv => whnf
    simp at hb hc
    refine ⟨rfl, _, rfl, fun hb => ?_⟩
    simp at hb
    omega
  conv => whnf
  simp at hb hc
  obtain ⟨i, c, e, rfl, he, hok, c0, c1, c2, c3⟩ := o.cell hb
  refine ⟨i, c, j, rfl, rfl, hb, ?_⟩
  conv => whnf
  refine ⟨_, c2, ?_⟩
  conv => whnf
  refine br_mk (fun hd => ?_) (fun hd => ?_)
  · conv => whnf
    exact ⟨rfl, false, rfl, fun k => by cases k⟩
  conv => whnf
  refine ⟨i, c, j, rfl, rfl, hb, ?_⟩
  conv => whnf
  refine ⟨_, c3, ?_⟩
  conv => whnf
  refine br_mk (fun hg => ?_) (fun hg => ?_)
  · conv => whnf
    exact ⟨rfl, false, rfl, fun k => by cases k⟩
  conv => whnf
  simp at hd hg
  have hs := succ_i64 (j := j) (n := 40) (by omega) (by omega)
  refine ⟨_, Forget.cons rfl (Forget.cons rfl (Forget.nil _)), ⟨rfl, j + 1, _, by omega, by omega, hs, fun i' e' hi he' => ?_, rfl⟩, ?_⟩
  · rcases Nat.lt_succ_iff_lt_or_eq.1 hi with k | rfl
    · exact hf i' e' k he'
    · rw [he] at he'
      injection he' with he'
      subst he'
      exact ⟨by omega, by omega⟩
  · show (es.length - IntKind.i64.wrap ((j : Int) + 1)).toNat < (es.length - (j : Int)).toNat
    rw [hs]
    omega
end Go.Proofs.Ytnpfdppmpmnhbaa
