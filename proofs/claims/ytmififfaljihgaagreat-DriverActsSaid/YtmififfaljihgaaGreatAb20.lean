/- Regions with operations that nothing orders: both orders are looked at. -/
import Derived.Test.YtmififfaljihgaaGreatAb0
set_option linter.unusedVariables false
set_option linter.unusedSimpArgs false
namespace Go.Ab
open Go
variable {P : Program} {ops : Array Oper} {Q : Exit → Act → World → Prop}
/-- an order that may be drawn -/
def VF (ops : Array Oper) : Nat → Array Bool → List Nat → Prop
  | 0, _, s => s = []
  | _ + 1, l, [] => Region.ready .any ops l = []
  | f + 1, l, i :: s => i ∈ Region.ready .any ops l ∧ VF ops f (l.setIfInBounds i true) s
theorem wpOps_vf : ∀ (fuel : Nat) (l : Array Bool) (s : List Nat) (a : Act) (w : World), wpAny P .any ops Q fuel l a w → VF ops fuel l s → wpOps P ops Q s a w
  | 0, l, s, a, w, h, v => by
    have v : s = [] := v
    subst v
    exact h.2
  | f + 1, l, [], a, w, h, v => h.1 v
  | f + 1, l, i :: s, a, w, h, v => by
    rw [wpOps_cons]
    exact wpOp_mono (fun a w hw => wpOps_vf f _ s a w hw v.2) (h.2 i v.1)
theorem vf_lin : ∀ (fuel t : Nat) (l : Array Bool), VF ops fuel l (Region.linearise.go .any ops fuel t l []) := by
  intro fuel
  induction fuel with
  | zero => intro t l; simp [Region.linearise.go, VF]
  | succ fuel ih =>
    intro t l
    simp only [Region.linearise.go]
    change VF ops (fuel + 1) l (match (Region.ready .any ops l)[t % (Region.ready .any ops l).length]? with
      | some i => Region.linearise.go .any ops fuel (t / (Region.ready .any ops l).length) (l.setIfInBounds i true) [i]
      | none => [].reverse)
    cases hi : (Region.ready .any ops l)[t % (Region.ready .any ops l).length]? with
    | none =>
      have hnil : Region.ready .any ops l = [] := by
        cases hr : Region.ready .any ops l with
        | nil => rfl
        | cons x xs =>
          rw [hr] at hi
          have hlt : t % (x :: xs).length < (x :: xs).length := Nat.mod_lt _ (by simp)
          simp at hi
          simp at hlt
          omega
      exact hnil
    | some i =>
      simp only []
      rw [linearise_go_acc, List.reverse_singleton, List.singleton_append]
      exact ⟨List.mem_of_getElem? hi, ih _ _⟩
def AllOrd (P : Program) (ops : Array Oper) (Q : Exit → Act → World → Prop) (a : Act) (w : World) : Prop := ∀ s, VF ops ops.size (Array.replicate ops.size false) s → wpOps P ops Q s a w
theorem allOrd_any {a : Act} {w : World} (h : wpAny P .any ops Q ops.size (Array.replicate ops.size false) a w) : AllOrd P ops Q a w := fun s v => wpOps_vf _ _ s a w h v
theorem region_allOrd {id : Nat} {a : Act} {w : World} (hm : P.follows .mixedOrders = true) (h : AllOrd P ops Q a { w with drawn := w.drawn + 1 }) : (Code.region id ops true).wp P Q a w :=
  wp_region_draw fun t => by
    simp only [Region.schedule, hm, Bool.true_or, if_true]
    exact h _ (vf_lin _ _ _)
/-! ### One edge more -/
theorem mem_ready_iff {i : Nat} {l : Array Bool} : i ∈ Region.ready .any ops l ↔ l.getD i true = false ∧ ∃ o, ops[i]? = some o ∧ ∀ g ∈ o.after, Region.binds .any g = true → l.getD g.on false = true := by
  simp only [Region.ready, List.mem_filter, List.mem_range, Bool.and_eq_true, Bool.not_eq_true']
  constructor
  · rintro ⟨h1, h2, h3⟩
    refine ⟨h2, ops[i], Array.getElem?_eq_getElem h1, fun g hg hb => ?_⟩
    rw [Array.getElem?_eq_getElem h1] at h3
    simp only [Option.map_some, Option.getD_some, Array.all_eq_true'] at h3
    have := h3 g hg
    simpa [hb] using this
  · rintro ⟨h2, o, ho, h3⟩
    refine ⟨(Array.getElem?_eq_some_iff.1 ho).1, h2, ?_⟩
    rw [ho]
    simp only [Option.map_some, Option.getD_some, Array.all_eq_true']
    intro g hg
    cases hb : Region.binds .any g with
    | false => rfl
    | true => simpa using h3 g hg hb
theorem addL_get : ∀ (l : List Oper) (a b i : Nat), (addL l a b)[i]? = (l[i]?).map fun o => if i = b then waitFor o a else o
  | [], a, b, i => by simp [addL]
  | o :: r, a, 0, 0 => by simp [addL]
  | o :: r, a, 0, i + 1 => by simp [addL]
  | o :: r, a, b + 1, 0 => by simp [addL]
  | o :: r, a, b + 1, i + 1 => by
    rw [addL, List.getElem?_cons_succ, List.getElem?_cons_succ, addL_get r a b i]
    congr 1
    funext o
    by_cases h : i = b
    · simp [h]
    · simp [h]
theorem addE_get (ops : Array Oper) (a b i : Nat) : (addE ops a b)[i]? = (ops[i]?).map fun o => if i = b then waitFor o a else o := by
  rw [addE, List.getElem?_toArray, addL_get, Array.getElem?_toList]
theorem addL_length : ∀ (l : List Oper) (a b : Nat), (addL l a b).length = l.length
  | [], _, _ => rfl
  | _ :: _, _, 0 => rfl
  | _ :: r, a, b + 1 => by simp [addL, addL_length r a b]
theorem addE_size (ops : Array Oper) (a b : Nat) : (addE ops a b).size = ops.size := by simp [addE, addL_length]
theorem mem_ready_addE {a b i : Nat} {l : Array Bool} : i ∈ Region.ready .any (addE ops a b) l ↔ i ∈ Region.ready .any ops l ∧ (i = b → l.getD a false = true) := by
  rw [mem_ready_iff, mem_ready_iff, addE_get]
  constructor
  · rintro ⟨h1, o, ho, h2⟩
    cases hi : ops[i]? with
    | none => simp [hi] at ho
    | some o' =>
      rw [hi] at ho
      simp only [Option.map_some, Option.some.injEq] at ho
      by_cases hb : i = b
      · rw [if_pos hb] at ho
        subst ho
        refine ⟨⟨h1, o', rfl, fun g hg => h2 g ?_⟩, fun _ => h2 ⟨a, .data⟩ ?_ rfl⟩
        · simp only [waitFor]
          exact Array.mem_push.2 (.inl hg)
        · simp only [waitFor]
          exact Array.mem_push.2 (.inr rfl)
      · rw [if_neg hb] at ho
        subst ho
        exact ⟨⟨h1, o', rfl, h2⟩, fun e => absurd e hb⟩
  · rintro ⟨⟨h1, o, ho, h2⟩, h3⟩
    refine ⟨h1, (if i = b then waitFor o a else o), by rw [ho]; rfl, ?_⟩
    by_cases hb : i = b
    · rw [if_pos hb]
      intro g hg hbd
      rcases Array.mem_push.1 hg with hg | rfl
      · exact h2 g hg hbd
      · exact h3 hb
    · rw [if_neg hb]
      exact h2
theorem getD_set {l : Array Bool} {i j : Nat} (h : l.getD j false = true) : (l.setIfInBounds i true).getD j false = true := by
  rw [Array.getD_eq_getD_getElem?, Array.getElem?_setIfInBounds]
  rw [Array.getD_eq_getD_getElem?] at h
  split
  · split
    · rfl
    · rename_i e hn
      subst e
      rw [Array.getElem?_eq_none (by omega)] at h
      cases h
  · exact h
theorem vf_listed {a b : Nat} : ∀ (f : Nat) (l : Array Bool) (s : List Nat), l.getD a false = true → VF ops f l s → VF (addE ops a b) f l s
  | 0, _, _, _, v => v
  | f + 1, l, [], h, v => by
    show Region.ready .any (addE ops a b) l = []
    have v : Region.ready .any ops l = [] := v
    rw [List.eq_nil_iff_forall_not_mem] at v ⊢
    exact fun i hi => v i (mem_ready_addE.1 hi).1
  | f + 1, l, i :: s, h, v => ⟨mem_ready_addE.2 ⟨v.1, fun _ => h⟩, vf_listed f _ s (getD_set h) v.2⟩
theorem set_self {l : Array Bool} {i : Nat} (h : i < l.size) : (l.setIfInBounds i true).getD i false = true := by
  rw [Array.getD_eq_getD_getElem?, Array.getElem?_setIfInBounds]
  simp [h]
theorem vf_split {a b : Nat} (hab : a ≠ b) : ∀ (f : Nat) (l : Array Bool) (s : List Nat), l.size = ops.size → VF ops f l s → VF (addE ops a b) f l s ∨ VF (addE ops b a) f l s
  | 0, _, _, _, v => .inl v
  | f + 1, l, [], _, v => by
    refine .inl ?_
    show Region.ready .any (addE ops a b) l = []
    have v : Region.ready .any ops l = [] := v
    rw [List.eq_nil_iff_forall_not_mem] at v ⊢
    exact fun i hi => v i (mem_ready_addE.1 hi).1
  | f + 1, l, i :: s, hl, v => by
    have hil : i < l.size := by
      obtain ⟨_, o, ho, _⟩ := mem_ready_iff.1 v.1
      rw [hl]
      exact (Array.getElem?_eq_some_iff.1 ho).1
    by_cases ha : i = a
    · subst ha
      exact .inl ⟨mem_ready_addE.2 ⟨v.1, fun e => absurd e hab⟩, vf_listed f _ s (set_self hil) v.2⟩
    · by_cases hb : i = b
      · subst hb
        exact .inr ⟨mem_ready_addE.2 ⟨v.1, fun e => absurd e ha⟩, vf_listed f _ s (set_self hil) v.2⟩
      · rcases vf_split hab f _ s (by simpa using hl) v.2 with k | k
        · exact .inl ⟨mem_ready_addE.2 ⟨v.1, fun e => absurd e hb⟩, k⟩
        · exact .inr ⟨mem_ready_addE.2 ⟨v.1, fun e => absurd e ha⟩, k⟩
theorem yielded_addE (ops : Array Oper) (a b : Nat) (ts : Array Value) : yielded (addE ops a b) ts = yielded ops ts := by
  funext j
  have e : ((addE ops a b)[j]?).bind (·.dst) = (ops[j]?).bind (·.dst) := by
    rw [addE_get]
    cases ops[j]? with
    | none => rfl
    | some o =>
      by_cases h : j = b
      · simp [h, waitFor]
      · simp [h]
  simp only [yielded, e]
theorem wpOps_addE {a b : Nat} : ∀ (s : List Nat) (x : Act) (w : World), wpOps P (addE ops a b) Q s x w → wpOps P ops Q s x w
  | [], _, _, h => h
  | i :: s, x, w, h => by
    rw [wpOps_cons] at h ⊢
    unfold wpOp at h ⊢
    rw [addE_get, yielded_addE] at h
    cases hi : ops[i]? with
    | none =>
      rw [hi] at h
      exact wpOps_addE s x w h
    | some o =>
      rw [hi] at h
      simp only [Option.map_some] at h
      have hw : ∀ o' : Oper, o' = (if i = b then waitFor o a else o) → Region.wanted o' (yielded ops x.tmps) = Region.wanted o (yielded ops x.tmps) ∧ o'.dst = o.dst ∧ (∀ K, o'.wp P x w K Q = o.wp P x w K Q) ∧ (o'.asks P x w = o.asks P x w) := by
        intro o' e
        subst e
        split
        · exact ⟨rfl, rfl, fun _ => rfl, rfl⟩
        · exact ⟨rfl, rfl, fun _ => rfl, rfl⟩
      obtain ⟨h1, h2, h3, h4⟩ := hw _ rfl
      simp only [h1, h2, h3, h4] at h
      simp only
      split
      · rename_i hg
        rw [if_pos hg] at h
        exact h.imp (Oper.wp_mono (fun x w k => wpOps_addE s x w k)) id
      · rename_i hg
        rw [if_neg hg] at h
        exact wpOps_addE s _ w h
theorem allOrd_split {a b : Nat} (hab : a ≠ b) {x : Act} {w : World} (h1 : AllOrd P (addE ops a b) Q x w) (h2 : AllOrd P (addE ops b a) Q x w) : AllOrd P ops Q x w := fun s v => by
  rcases vf_split hab _ _ s (by simp) v with k | k
  · exact wpOps_addE s x w (h1 s (by rw [addE_size]; exact k))
  · exact wpOps_addE s x w (h2 s (by rw [addE_size]; exact k))
end Go.Ab
