/- Regions whose order Go leaves open. -/
import Derived.Test.YtmififfaljihgaaGreatAb10
set_option linter.unusedVariables false
set_option linter.unusedSimpArgs false
namespace Go.Ab
open Go

theorem get_restr (env : Env) : ∀ (ts : List Nat) (t : Nat), get (restr env ts) t = if t ∈ ts then get env t else .undef
  | [], t => rfl
  | x :: r, t => by
    rw [restr, get_cons, get_restr env r]
    by_cases h : x = t
    · subst h
      simp
    · rw [if_neg h]
      simp [Ne.symm h]
/-- What the table of what goes ahead of what must be. -/
structure DOk (T : TT) (ops : Array Oper) (L B : List Nat) : Prop where
  all : ∀ i, i < ops.size → i ∈ L
  op : ∀ i, i ∈ L → ∃ o, ops[i]? = some o
  step : ∀ pre i r, L = pre ++ i :: r → ∀ o, ops[i]? = some o → dStep T ops B pre i o = true
theorem dChk_spec {T : TT} {ops : Array Oper} {B : List Nat} : ∀ (L pre : List Nat), dChk T ops B pre L = true → (∀ i, i ∈ L → ∃ o, ops[i]? = some o) ∧ ∀ p i r, L = p ++ i :: r → ∀ o, ops[i]? = some o → dStep T ops B (pre ++ p) i o = true
  | [], pre, h => ⟨(fun i hi => by cases hi), (fun p i r e => by cases p <;> cases e)⟩
  | i :: L, pre, h => by
    simp only [dChk, Bool.and_eq_true] at h
    obtain ⟨h1, h2⟩ := h
    obtain ⟨k1, k2⟩ := dChk_spec L _ h2
    cases ho : ops[i]? with
    | none => simp [ho] at h1
    | some o =>
      simp only [ho] at h1
      refine ⟨fun j hj => ?_, fun p j r e oj hoj => ?_⟩
      · rcases List.mem_cons.1 hj with rfl | hj
        · exact ⟨o, ho⟩
        · exact k1 j hj
      · cases p with
        | nil =>
          injection e with e1 e2
          subst e1
          rw [ho] at hoj
          injection hoj with hoj
          subst hoj
          simpa using h1
        | cons x p =>
          injection e with e1 e2
          subst e1
          have := k2 p j r e2 oj hoj
          rwa [List.append_assoc] at this
theorem dOk_spec {T : TT} {ops : Array Oper} {L B : List Nat} (h : dOk T ops L B = true) : DOk T ops L B := by
  simp only [dOk, Bool.and_eq_true, List.all_eq_true, List.mem_range] at h
  obtain ⟨k1, k2⟩ := dChk_spec L [] h.1
  exact ⟨fun i hi => by simpa using (h.2 i hi).1, k1, fun pre i r e o ho => by simpa using k2 pre i r e o ho⟩
section
variable {T : TT} {ops : Array Oper} {L B : List Nat}
theorem DOk.fresh (d : DOk T ops L B) {pre : List Nat} {i : Nat} {r : List Nat} (e : L = pre ++ i :: r) : i ∉ pre := by
  obtain ⟨o, ho⟩ := d.op i (by rw [e]; simp)
  have := d.step pre i r e o ho
  simp [dStep] at this
  exact this.1.1.1.1
theorem DOk.edge (d : DOk T ops L B) {pre : List Nat} {i : Nat} {r : List Nat} (e : L = pre ++ i :: r) {o : Oper} (ho : ops[i]? = some o) {g : Edge} (hg : g ∈ o.after) (hb : Region.binds .any g = true) : g.on ∈ pre := by
  have := d.step pre i r e o ho
  simp only [dStep, Bool.and_eq_true, List.all_eq_true] at this
  have := this.1.1.1.2 g (by simpa using hg)
  rw [hb] at this
  simpa using this
theorem DOk.bef (d : DOk T ops L B) {pre : List Nat} {i : Nat} {r : List Nat} (e : L = pre ++ i :: r) {o : Oper} (ho : ops[i]? = some o) {j : Nat} (hj : j < ops.size) (hb : (B.getD i 0).testBit j = true) :
    j ∈ pre ∧ ∃ g ∈ o.after, Region.binds .any g = true ∧ (g.on = j ∨ (B.getD g.on 0).testBit j = true) := by
  have := d.step pre i r e o ho
  simp only [dStep, Bool.and_eq_true, List.all_eq_true] at this
  have := this.1.1.2 j (by simpa using hj)
  rw [hb] at this
  simp only [Bool.not_true, Bool.false_or, Bool.and_eq_true, List.any_eq_true, List.contains_iff_mem, Bool.or_eq_true, beq_iff_eq] at this
  obtain ⟨h1, g, h2, h3, h4⟩ := this
  exact ⟨h1, g, by simpa using h2, h3, h4⟩
theorem DOk.chain (d : DOk T ops L B) {pre : List Nat} {i : Nat} {r : List Nat} (e : L = pre ++ i :: r) {c : Nat} (hc : c ∈ pre) (hch : isChain T ops c = true) : (B.getD i 0).testBit c = true := by
  obtain ⟨o, ho⟩ := d.op i (by rw [e]; simp)
  have := d.step pre i r e o ho
  simp only [dStep, Bool.and_eq_true, List.all_eq_true] at this
  have := this.1.2 c hc
  rw [hch] at this
  simpa using this
theorem DOk.conf (d : DOk T ops L B) {pre : List Nat} {i : Nat} {r : List Nat} (e : L = pre ++ i :: r) {o oj : Oper} (ho : ops[i]? = some o) {j : Nat} (hj : j ∈ pre) (hoj : ops[j]? = some oj) (hc : conf ops o oj = true) : (B.getD i 0).testBit j = true := by
  have := d.step pre i r e o ho
  simp only [dStep, Bool.and_eq_true, List.all_eq_true] at this
  have := this.2 j hj
  simp only [hoj, hc] at this
  simpa using this
theorem split_at {i : Nat} (h : i ∈ L) : ∃ pre r, L = pre ++ i :: r := List.append_of_mem h
end

/-- The temporaries after some of the operations of l, in l's order. -/
def foldF (dst : Nat → Option Nat) (vals : Nat → V) (p : Nat → Bool) : List Nat → (Nat → V) → Nat → V
  | [], f => f
  | i :: l, f => foldF dst vals p l (if p i then fun t => if dst i = some t then vals i else f t else f)
theorem foldF_eq (dst : Nat → Option Nat) (vals : Nat → V) (p : Nat → Bool) : ∀ (l : List Nat) (f : Nat → V) (t : Nat), foldF dst vals p l f t = (l.filter fun i => p i && decide (dst i = some t)).foldl (fun _ i => vals i) (f t)
  | [], f, t => rfl
  | i :: l, f, t => by
    rw [foldF, foldF_eq dst vals p l]
    by_cases h1 : p i = true <;> by_cases h2 : dst i = some t <;> simp [h1, h2]
theorem foldF_append (dst : Nat → Option Nat) (vals : Nat → V) (p : Nat → Bool) (l m : List Nat) (f : Nat → V) : foldF dst vals p (l ++ m) f = foldF dst vals p m (foldF dst vals p l f) := by
  induction l generalizing f with
  | nil => rfl
  | cons i l ih => exact ih _
theorem foldF_congr {dst : Nat → Option Nat} {vals vals' : Nat → V} {p : Nat → Bool} : ∀ (l : List Nat) (f : Nat → V), (∀ i ∈ l, vals i = vals' i) → foldF dst vals p l f = foldF dst vals' p l f
  | [], f, h => rfl
  | i :: l, f, h => by
    rw [foldF, foldF, h i (by simp)]
    exact foldF_congr l _ (fun j hj => h j (by simp [hj]))
end Go.Ab
