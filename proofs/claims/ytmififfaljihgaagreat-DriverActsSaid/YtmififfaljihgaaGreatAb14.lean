/- The table of types, asked by program; structs of numbers, held against each other. -/
import Derived.Test.YtmififfaljihgaaGreatAb13
import Derived.Laws.StructEq
set_option linter.unusedVariables false
set_option linter.unusedSimpArgs false
namespace Go.Ab
open Go

def dmB : TypeDesc → TD → Bool
  | .bool, .bool => true
  | .int k, .int k' => kEq k k'
  | .string, .str => true
  | .pointer e, .ptr e' => Nat.beq e e'
  | .slice e, .sl e' => Nat.beq e e'
  | .map k e, .mp k' e' => Nat.beq k k' && Nat.beq e e'
  | .struct fs, .st l => (fs.toList.map (fun f => (f.type, f.offset))) == l
  | .array n e, .arr n' e' => Nat.beq n n' && Nat.beq e e'
  | _, _ => false
theorem dmB_spec {d : TypeDesc} {td : TD} (h : dmB d td = true) : DM d td := by
  cases d <;> cases td <;> simp [dmB] at h <;> simp [DM]
  case int.int k k' => exact kEq_eq h
  all_goals exact h
def vB : V → Value → Bool
  | .int k n, .int k' m => kEq k k' && n == m
  | .bool a, .bool b => a == b
  | .str [], .string s => s.data.toList.isEmpty
  | .ptr none, .pointer none => true
  | .sl none 0, .slice none 0 0 => true
  | .mp none, .map none => true
  | _, _ => false
theorem vB_spec {v : V} {u : Value} (h : vB v u = true) (ρ : Rho) : VRel ρ v u ∧ u.oneCell' = true ∧ isV v = true ∧ vcells v = [v] := by
  unfold vB at h
  split at h
  · simp only [Bool.and_eq_true, beq_iff_eq] at h
    rw [kEq_eq h.1, h.2]
    exact ⟨.int _ _, rfl, rfl, rfl⟩
  · rw [eq_of_beq h]
    exact ⟨.bool _, rfl, rfl, rfl⟩
  · rename_i s
    have : s.data.toList = [] := by simpa using h
    have e := VRel.str (ρ := ρ) s
    rw [this] at e
    exact ⟨e, rfl, rfl, rfl⟩
  · exact ⟨.nilp, rfl, rfl, rfl⟩
  · exact ⟨.nils, rfl, rfl, rfl⟩
  · exact ⟨.nilm, rfl, rfl, rfl⟩
  · cases h
def vsB : List V → List Value → Bool
  | [], [] => true
  | v :: vs, u :: us => vB v u && vsB vs us
  | _, _ => false
theorem vsB_spec : ∀ {vs : List V} {us : List Value}, vsB vs us = true → ∀ ρ, VsRel ρ vs us ∧ ∀ u ∈ us, u.oneCell' = true
  | [], [], _, ρ => ⟨VsRel.nil ρ, by simp⟩
  | v :: vs, u :: us, h, ρ => by
    simp only [vsB, Bool.and_eq_true] at h
    obtain ⟨h1, h2, _⟩ := vB_spec h.1 ρ
    obtain ⟨h3, h4⟩ := vsB_spec h.2 ρ
    exact ⟨h3.cons h1, fun x hx => by
      rcases List.mem_cons.1 hx with rfl | hx
      · exact h2
      · exact h4 x hx⟩
  | [], _ :: _, h, _ => by simp [vsB] at h
  | _ :: _, [], h, _ => by simp [vsB] at h
def zB : V → Value → Bool
  | .agg vs, .agg us => vsB vs us.toList
  | v, u => vB v u
theorem zB_spec {v : V} {u : Value} (h : zB v u = true) : (∀ ρ, VRel ρ v u) ∧ isV v = true := by
  unfold zB at h
  split at h
  · rename_i vs us
    refine ⟨fun ρ => ?_, rfl⟩
    obtain ⟨h1, h2⟩ := vsB_spec h ρ
    have := VRel.agg vs us.toList h2 h1.1 h1.2
    simpa using this
  · exact ⟨fun ρ => (vB_spec h ρ).1, (vB_spec h (fun _ => none)).2.2.1⟩
def tyB (P : Program) (t : Nat) (ti : TI) : Bool :=
  Nat.ble 1 P.types.size && (match P.underlying t with
   | some d => dmB d ti.d
   | none => false) &&
  (match P.info? t with
   | some i => Nat.beq i.size ti.size && Nat.beq i.bytes ti.bytes && (match i.zero with
     | some z => zB ti.zero z && Nat.beq (vcells ti.zero).length ti.size
     | none => false)
   | none => false)
theorem tyB_spec {P : Program} {t : Nat} {ti : TI} (h : tyB P t ti = true) : TyOk P t ti := by
  simp only [tyB, Bool.and_eq_true] at h
  obtain ⟨⟨h0, h1⟩, h2⟩ := h
  have h0 := Nat.le_of_ble_eq_true h0
  refine ⟨⟨P.types.size - 1, by omega⟩, ?_, ?_⟩
  · split at h1
    · rename_i d hd
      exact ⟨d, hd, dmB_spec h1⟩
    · cases h1
  · split at h2
    · rename_i i hi
      simp only [Bool.and_eq_true] at h2
      obtain ⟨⟨h3, h4⟩, h5⟩ := h2
      split at h5
      · rename_i z hz
        simp only [Bool.and_eq_true] at h5
        obtain ⟨k1, k2⟩ := zB_spec h5.1
        exact ⟨i, z, hi, Nat.eq_of_beq_eq_true h3, Nat.eq_of_beq_eq_true h4, hz, k1, k2, Nat.eq_of_beq_eq_true h5.2⟩
      · cases h5
    · cases h2
/-- may two structs of this type be held against each other, field by field? -/
def eqTyB (P : Program) (T : TT) (t : Nat) (ti : TI) : Bool :=
  match ti.d with
  | .st fs => !flatTy T 0 fs || (!P.stoodInHeld t && !P.eqGuardType P.depth t && (match P.underlying t with
    | some (.struct fl) => fl.toList.all fun f => f.name != "_"
    | _ => false))
  | _ => true
def tchk (P : Program) (T : TT) : Bool := T.all fun p => (match p.2.d with
  | .other => true
  | _ => tyB P p.1 p.2) && eqTyB P T p.1 p.2
theorem at_mem {T : TT} : ∀ {t : Nat}, (T.at_ t).d ≠ .other → (t, T.at_ t) ∈ T := by
  induction T with
  | nil => intro t h; simp [TT.at_] at h
  | cons p T ih =>
    obtain ⟨s, ti⟩ := p
    intro t h
    simp only [TT.at_] at h ⊢
    cases hb : Nat.beq s t with
    | true =>
      simp only [hb] at h ⊢
      rw [Nat.eq_of_beq_eq_true hb]
      exact List.mem_cons_self
    | false =>
      simp only [hb] at h ⊢
      exact List.mem_cons_of_mem _ (ih h)
theorem tchk_ok {P : Program} {T : TT} (h : tchk P T = true) : TOk P T := by
  intro t ht
  have hne : (T.at_ t).d ≠ .other := by
    intro e
    simp [has, e] at ht
  simp only [tchk, List.all_eq_true, Bool.and_eq_true] at h
  have := (h _ (at_mem hne)).1
  simp only at this
  exact tyB_spec this

section
variable {P : Program} {T : TT}
theorem eqFields_flat (hT : TOk P T) {d : Nat} {us ws : List Value} {w : World} {ρ : Rho} : ∀ (l : List Field) (j : Nat) (xs ys : List V) (a b : List Int), flatTy T j (l.map fun f => (f.type, f.offset)) = true → (∀ f ∈ l, f.name ≠ "_") →
    VsRel ρ xs (us.drop j) → VsRel ρ ys (ws.drop j) → flat T (l.map fun f => (f.type, f.offset)) xs = some a → flat T (l.map fun f => (f.type, f.offset)) ys = some b → (Op.eqFields (d + 1) us.toArray ws.toArray l).run P w = .ok (a == b) w
  | [], j, xs, ys, a, b, hf, hn, vx, vy, fa, fb => by
    cases xs with
    | cons x xs => simp [flat] at fa
    | nil =>
    cases ys with
    | cons y ys => simp [flat] at fb
    | nil =>
    simp [flat] at fa fb
    subst fa fb
    rfl
  | f :: l, j, xs, ys, a, b, hf, hn, vx, vy, fa, fb => by
    simp only [List.map_cons, flatTy, Bool.and_eq_true] at hf
    obtain ⟨⟨h1, h2⟩, h3⟩ := hf
    have ho := Nat.eq_of_beq_eq_true h1
    cases xs with
    | nil => simp [flat] at fa
    | cons x xs =>
    cases ys with
    | nil => simp [flat] at fb
    | cons y ys =>
    obtain ⟨u, us', e1, vx1, vx2⟩ := vx.uncons
    obtain ⟨v, ws', e2, vy1, vy2⟩ := vy.uncons
    have g1 : us[j]? = some u := by
      have := congrArg (fun l : List Value => l[0]?) e1
      simpa using this
    have g2 : ws[j]? = some v := by
      have := congrArg (fun l : List Value => l[0]?) e2
      simpa using this
    have d1 : us.drop (j + 1) = us' := by
      rw [← List.drop_drop, e1]
      rfl
    have d2 : ws.drop (j + 1) = ws' := by
      rw [← List.drop_drop, e2]
      rfl
    rw [← d1] at vx2
    rw [← d2] at vy2
    have hname : f.name ≠ "_" := hn f (by simp)
    have hk : aggK T f.type = .one := by
      unfold aggK
      split at h2 <;> simp_all
    have p1 : (part f.type us.toArray f.offset).run P w = .ok u w := by
      simp [part, (hT.isAgg w).2 hk, ho, g1]
    have p2 : (part f.type ws.toArray f.offset).run P w = .ok v w := by
      simp [part, (hT.isAgg w).2 hk, ho, g2]
    have ih : ∀ a' b', flat T (l.map fun f => (f.type, f.offset)) xs = some a' → flat T (l.map fun f => (f.type, f.offset)) ys = some b' → (Op.eqFields (d + 1) us.toArray ws.toArray l).run P w = .ok (a' == b') w := fun a' b' q1 q2 => eqFields_flat hT l (j + 1) xs ys a' b' h3 (fun f hf => hn f (by simp [hf])) vx2 vy2 q1 q2
    simp only [Op.eqFields, hname, ne_eq, not_false_eq_true, if_true, Sem.run_bind, p1, p2, Result.andThen_ok]
    simp only [List.map_cons, flat] at fa fb
    split at h2
    · rename_i k hk'
      have hu := hT.of_int hk'
      rw [hk'] at fa fb
      cases x <;> simp only [reduceCtorEq] at fa
      rename_i k1 n1
      cases y <;> simp only [reduceCtorEq] at fb
      rename_i k2 n2
      cases q1 : kEq k k1 with
      | false => simp [q1] at fa
      | true =>
      cases q2 : kEq k k2 with
      | false => simp [q2] at fb
      | true =>
      simp only [q1] at fa
      simp only [q2] at fb
      have q1 := kEq_eq q1
      have q2 := kEq_eq q2
      subst q1 q2
      obtain ⟨a', r1, rfl⟩ := Option.map_eq_some_iff.1 fa
      obtain ⟨b', r2, rfl⟩ := Option.map_eq_some_iff.1 fb
      have he : (Op.equalIn (d + 1) f.type u v).run P w = .ok (n1 == n2) w := by
        rw [vx1.int_inv, vy1.int_inv]
        simp only [Op.equalIn, Sem.run_bind, run_underlying hu, Result.andThen_ok, if_true, Sem.run_pure]
      rw [he]
      simp only [Result.andThen_ok]
      by_cases hne : n1 = n2
      · subst hne
        simp [ih a' b' r1 r2]
      · have h1 : (n1 == n2) = false := by simpa using hne
        simp [h1, hne]
    · rename_i hk'
      have hu := hT.of_bool hk'
      rw [hk'] at fa fb
      cases x <;> simp only [reduceCtorEq] at fa
      rename_i b1
      cases y <;> simp only [reduceCtorEq] at fb
      rename_i b2
      obtain ⟨a', r1, rfl⟩ := Option.map_eq_some_iff.1 fa
      obtain ⟨b', r2, rfl⟩ := Option.map_eq_some_iff.1 fb
      have he : (Op.equalIn (d + 1) f.type u v).run P w = .ok (b1 == b2) w := by
        rw [vx1.bool_inv, vy1.bool_inv]
        exact In_equal_bool hu d b1 b2
      rw [he]
      simp only [Result.andThen_ok]
      cases b1 <;> cases b2 <;> simp [ih a' b' r1 r2]
    · cases h2
theorem tchk_eq (h : tchk P T = true) : EqOk P T := by
  have hT := tchk_ok h
  intro t fs hd hf ρ xs ys a b fa fb xo yo u1 u2 w r1 r2
  have hne : (T.at_ t).d ≠ .other := by rw [hd]; simp
  simp only [tchk, List.all_eq_true, Bool.and_eq_true] at h
  have he := (h _ (at_mem hne)).2
  obtain ⟨fl, hu, hm⟩ := hT.of_st hd
  simp only [eqTyB, hd, hf, Bool.not_true, Bool.false_or, Bool.and_eq_true, Bool.not_eq_true', hu, List.all_eq_true] at he
  obtain ⟨⟨q1, q2⟩, q3⟩ := he
  obtain ⟨us, rfl, vx, _⟩ := r1.agg_inv
  obtain ⟨ws, rfl, vy, _⟩ := r2.agg_inv
  have hg : ∀ op, (eqGuard op t xo yo (.agg us.toArray) (.agg ws.toArray)).run P w = .ok () w := by
    intro op
    cases op <;> simp [eqGuard, q2]
  refine ⟨hg _, hg _, ?_, _, _, rfl, rfl⟩
  have hu' : P.underlying t = some (.struct (P.fieldsOf t)) := by
    simp [Program.fieldsOf, hu]
  have hfo : P.fieldsOf t = fl := by simp [Program.fieldsOf, hu]
  have := run_equalIn_struct (P := P) w 9999 t us.toArray ws.toArray hu' q1
  have h2 := eqFields_flat hT (d := 9998) (us := us) (ws := ws) (w := w) (ρ := ρ) fl.toList 0 xs ys a b (by rw [hm]; exact hf) (fun f hf => by simpa using q3 f hf) (by simpa using vx) (by simpa using vy) (by rw [hm]; exact fa) (by rw [hm]; exact fb)
  rw [hfo] at this
  exact this.trans h2
end
end Go.Ab
