/- From a call on the abstract memory to what a law's row asks. -/
import Derived.Test.YtmififfaljihgaaGreatAb15
import Derived.Carry
import Derived.OpenShut
import Derived.ProofKit
set_option linter.unusedVariables false
set_option linter.unusedSimpArgs false
namespace Go.Ab
open Go Go.ChangeShapes Go.RowKit

/-- An argument of type t, its cells given. -/
def argV (T : TT) (t : Nat) (c : List V) : V :=
  match aggK T t with
  | .agg => .agg c
  | _ => c.headD .undef
/-- The arguments, told by data. -/
def ArgsRD {D : Type} (T : TT) (h : H) (n : Nat) : List Nat → List (DataW D) → List V → Prop
  | [], [], [] => True
  | t :: ts, d :: ds, v :: vs => (∃ c, v = argV T t c ∧ RD T h n t d c) ∧ ArgsRD T h n ts ds vs
  | _, _, _ => False
theorem ArgsRD.mono {D : Type} {T : TT} {h h' : H} (hh : ∀ i ob, h.obj i = some ob → h'.obj i = some ob) {n : Nat} : ∀ {ts : List Nat} {ds : List (DataW D)} {vs : List V}, ArgsRD T h n ts ds vs → ArgsRD T h' n ts ds vs
  | [], [], [], _ => trivial
  | t :: ts, d :: ds, v :: vs, ⟨⟨c, h1, h2⟩, h3⟩ => ⟨⟨c, h1, h2.mono hh⟩, ArgsRD.mono hh h3⟩
  | [], [], _ :: _, h => h.elim
  | [], _ :: _, _, h => h.elim
  | _ :: _, [], _, h => h.elim
  | _ :: _, _ :: _, [], h => h.elim
section
variable {P : Program} {T : TT} {D : Type} {enc : TypeId × Value → D} {W : World}
theorem arg_value (hT : TOk P T) {n t : Nat} {v : Value} {c : List V} {ρ : Rho} (hs : sup T (n + 1) t = true) (hok : Value.okWide P W .any 0 t v ∨ ∃ base, Value.okWide P W .any base t v) (hv : VsRel ρ c v.cells.toList) (h1 : ∀ u ∈ v.cells.toList, u.oneCell' = true) (hl : v.cells.toList.length = (T.at_ t).size) : VRel ρ (argV T t c) v := by
  obtain ⟨base, hok⟩ : ∃ base, Value.okWide P W .any base t v := by
    rcases hok with h | h
    · exact ⟨0, h⟩
    · exact h
  have one : ∀ (hu : ∀ cs, v ≠ .agg cs) (hk : aggK T t = .one), VRel ρ (argV T t c) v := by
    intro hu hk
    have : v.cells = #[v] := by
      cases v <;> first
        | rfl
        | exact absurd rfl (hu _)
    rw [this] at hv
    cases c with
    | nil => simp [VsRel] at hv
    | cons x c =>
      obtain ⟨u, us, e, h2, _⟩ := hv.uncons
      simp at e
      obtain ⟨rfl, rfl⟩ := e
      simpa [argV, hk] using h2
  unfold sup at hs
  split at hs
  · rename_i ht
    have hu := hT.of_bool ht
    refine one (fun cs e => ?_) (by simp [aggK, ht])
    subst e
    simp [Value.okWide, hu, Cell.okWide, Cell.ok] at hok
  · rename_i k ht
    have hu := hT.of_int ht
    refine one (fun cs e => ?_) (by simp [aggK, ht])
    subst e
    simp [Value.okWide, hu, Cell.okWide, Cell.ok] at hok
  · rename_i ht
    have hu := hT.of_str ht
    refine one (fun cs e => ?_) (by simp [aggK, ht])
    subst e
    simp [Value.okWide, hu, Cell.okWide, Cell.ok] at hok
  · rename_i e ht
    have hu := hT.of_sl ht
    refine one (fun cs e => ?_) (by simp [aggK, ht])
    subst e
    simp [Value.okWide, hu, Cell.okWide, Cell.ok] at hok
  · rename_i fs ht
    obtain ⟨fl, hu, _⟩ := hT.of_st ht
    simp only [Value.okWide, hu] at hok
    obtain ⟨cs, rfl, _⟩ := hok
    have : VRel ρ (.agg c) (.agg cs.toList.toArray) := .agg c cs.toList h1 hv.1 hv.2
    simpa [argV, aggK, ht] using this
  · rename_i m e ht
    have hu := hT.of_arr ht
    simp only [Value.okWide, hu] at hok
    obtain ⟨cs, rfl, _⟩ := hok
    have : VRel ρ (.agg c) (.agg cs.toList.toArray) := .agg c cs.toList h1 hv.1 hv.2
    simpa [argV, aggK, ht] using this
  · cases hs
theorem read_args (hT : TOk P T) {n : Nat} : ∀ (ts : List TypeId) (vs : List Value) (ds : List (DataW D)) (ps : List MemPlace), (∀ t ∈ ts, sup T (n + 1) t = true) → (∀ (j : Nat) t v, ts[j]? = some t → vs[j]? = some v → ∃ base, Value.okWide P W .any base t v) → DataW.TrodAll enc P W 0 (fun _ => true) true ts vs ds ps → ∀ ρ h, Reads ρ h W →
    ∃ ρ' h' as, Reads ρ' h' W ∧ GrowR ρ h ρ' h' ∧ VsRel ρ' as vs ∧ ArgsRD T h' (n + 1) ts ds as
  | [], [], [], ps, _, _, _, ρ, h, r => ⟨ρ, h, [], r, GrowR.refl _ _, VsRel.nil _, trivial⟩
  | t :: ts, v :: vs, d :: ds, ps, hs, hok, hr, ρ, h, r => by
    obtain ⟨p, q, ⟨F, h1⟩, h2, _⟩ := hr
    obtain ⟨ρ1, h1', c, r1, g1, v1, o1, l1, d1⟩ := read_one (enc := enc) hT (n + 1) F t _ d p (hs t (by simp)) h1 ρ h r
    obtain ⟨ρ2, h2', as, r2, g2, v2, d2⟩ := read_args hT ts vs ds q (fun t ht => hs t (by simp [ht])) (fun j t v ht hv => hok (j + 1) t v (by simpa using ht) (by simpa using hv)) h2 ρ1 h1' r1
    have hv := arg_value hT (W := W) (hs t (by simp)) (.inr (hok 0 t v rfl rfl)) v1 o1 l1
    exact ⟨ρ2, h2', argV T t c :: as, r2, g1.trans g2, VsRel.cons (hv.mono g2.ext) v2, ⟨⟨c, rfl, d1.mono g2.obj⟩, d2⟩⟩
  | [], [], _ :: _, _, _, _, h, _, _, _ => h.elim
  | [], _ :: _, _, _, _, _, h, _, _, _ => by cases ‹List (DataW D)› <;> exact h.elim
  | _ :: _, [], _, _, _, _, h, _, _, _ => by cases ‹List (DataW D)› <;> exact h.elim
  | _ :: _, _ :: _, [], _, _, _, h, _, _, _ => h.elim
def H.empty : H := ⟨0, fun _ => none, fun i ob h => by cases h⟩
theorem reads_empty (W : World) : Reads (fun _ => none) H.empty W := ⟨⟨fun i ob h => (by cases h), fun i j oi oj li lj h => (by cases h)⟩, fun _ _ => rfl, fun i ob h => by cases h⟩
theorem trodAll_below (hl : laidOutB P = true) {W' : World} (hb : Below W.heap.size W W') : ∀ (ts : List TypeId) (vs : List Value) (ds : List (DataW D)) (ps : List MemPlace), (∀ t ∈ ts, P.readableRec t = true ∧ t < P.types.size) → (∀ x ∈ ps, x.block < W.heap.size) →
    DataW.TrodAll enc P W 0 (fun _ => true) true ts vs ds ps → DataW.TrodAll enc P W' 0 (fun b => decide (b < W.heap.size)) true ts vs ds ps
  | [], [], [], ps, _, _, h => h
  | t :: ts, v :: vs, d :: ds, ps, ht, hp, ⟨p, q, h1, h2, e⟩ => by
    subst e
    exact ⟨p, q, Below.trod hl (ht t (by simp)).1 (ht t (by simp)).2 h1 hb (fun x hx => hp x (by simp [hx])), trodAll_below hl hb ts vs ds q (fun t h => ht t (by simp [h])) (fun x hx => hp x (by simp [hx])) h2, rfl⟩
  | [], [], _ :: _, _, _, _, h => h.elim
  | [], _ :: _, _, _, _, _, h => by cases ‹List (DataW D)› <;> exact h.elim
  | _ :: _, [], _, _, _, _, h => by cases ‹List (DataW D)› <;> exact h.elim
  | _ :: _, _ :: _, [], _, _, _, h => h.elim
/-- A law's contract out of a call on the abstract memory. -/
theorem law_contract (hT : TOk P T) {f tb : Nat} {fn : Func} {s : ChangeSpec} {fresh handsOn : Bool} (hl : laidOutB P = true) (hvars : s.vars = []) (hrt : fn.resultTypes = #[tb]) (htb : (T.at_ tb).d = .bool) (hsup : (fn.params.toList.all fun t => sup T 21 t) = true)
    (hrec : (fn.params.toList.all fun t => P.readableRec t && decide (t < P.types.size)) = true)
    (hspec : ∀ ds : List (DataW D), ds.length = fn.params.size → s.fn D ds = { results := [.lit (.bool true)], args := ds })
    (hlaw : ∀ (h : H) (ds : List (DataW D)) (as : List V), (∀ i ob, h.obj i = some ob → ob.own = false) → ArgsRD T h 21 fn.params.toList ds as → ACalls P f as h fun r _ => r = .bool true)
    (args : Array Value) (ds gs : List (DataW D)) (before : List MemPlace) (hval : ∀ (j : Nat) t v, fn.params[j]? = some t → args[j]? = some v → ∃ base, Value.okWide P W .any base t v) (hW : DataW.Whole enc P fn.params.toList s.vars false W args.toList ds gs before) :
    Calls P f args W fun e W' => ∃ v, e = .returned v ∧ s.post enc P fn false fresh handsOn false W args v W' := by
  have hlt := hW.lt
  have hW' := hW
  obtain ⟨p, q, hA, hV, rfl, hfz, hnd⟩ := hW
  rw [hvars] at hV
  obtain ⟨rfl, rfl⟩ := trodVars_none hV
  rw [List.all_eq_true] at hsup hrec
  obtain ⟨ρ, h, as, r, _, va, ra⟩ := read_args hT (n := 20) fn.params.toList args.toList ds p hsup (fun j t v h1 h2 => hval j t v (by simpa using h1) (by simpa using h2)) hA _ _ (reads_empty W)
  have hc := (hlaw h ds as r.ro ra).2 ρ W args.toList r.r r.d va
  rw [Array.toArray_toList] at hc
  refine hc.mono fun e W' he => ?_
  obtain ⟨v, h', ρ', u, rfl, rfl, vu, rr, dd, ss⟩ := he
  have hu := vu.bool_inv
  subst hu
  have hb : Below W.heap.size W W' := ⟨ss.os, ss.tape, ss.output, ss.size, fun k hk => ss.frame k hk (fun i ob l h1 h2 _ _ => by
    rw [r.ro i ob h1] at h2
    cases h2)⟩
  have hdl : ∀ (ts : List TypeId) (vs : List Value) (ds : List (DataW D)) (ps : List MemPlace), DataW.TrodAll enc P W 0 (fun _ => true) true ts vs ds ps → ds.length = ts.length := by
    intro ts
    induction ts with
    | nil =>
      intro vs ds ps h
      cases vs <;> cases ds <;> first
        | rfl
        | exact h.elim
    | cons t ts ih =>
      intro vs ds ps h
      cases vs <;> cases ds <;> first
        | exact h.elim
        | (obtain ⟨p, q, _, h2, _⟩ := h; simp [ih _ _ _ h2])
  have hs := hspec ds (by simpa using hdl _ _ _ _ hA)
  refine ⟨.bool true, rfl, ds, [], p ++ [], [], p, [], hW', ?_, ?_, ?_, hb.frame _, fun h => by cases h⟩
  · rw [List.append_nil, hs, hrt]
    exact trodAll_cons_mk (shut_bool (hT.of_bool htb) true) trodAll_mk0
  · rw [List.append_nil, hs]
    exact trodAll_below hl hb _ _ _ _ (fun t ht => by
      have := hrec t ht
      simpa using this) (fun x hx => hlt x (by simpa using hx)) hA
  · rw [hvars, List.append_nil, hs]
    exact rfl
end
end Go.Ab
