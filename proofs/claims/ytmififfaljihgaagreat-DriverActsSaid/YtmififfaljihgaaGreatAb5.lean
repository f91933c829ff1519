/- Operations that look at no memory, and those that read it: soundness, whole. -/
import Derived.Test.YtmififfaljihgaaGreatAb4
set_option linter.unusedVariables false
set_option linter.unusedSimpArgs false
namespace Go.Ab
open Go

theorem splice_length {α : Type} : ∀ (vs cs : List α) (o : Nat), (splice cs o vs).length = cs.length
  | [], cs, o => rfl
  | v :: vs, cs, o => by simp [splice, splice_length vs]
theorem VsRel.splice {ρ : Rho} : ∀ (vs : List V) (ws : List Value) (cs : List V) (us : List Value) (o : Nat), VsRel ρ cs us → VsRel ρ vs ws → VsRel ρ (splice cs o vs) (splice us o ws)
  | [], ws, cs, us, o, h, k => by
    have : ws = [] := List.eq_nil_of_length_eq_zero k.1.symm
    subst this
    exact h
  | v :: vs, ws, cs, us, o, h, k => by
    obtain ⟨u, us', rfl, k1, k2⟩ := k.uncons
    exact VsRel.splice vs us' _ _ _ (h.set o k1) k2
theorem splice_all {p : Value → Bool} : ∀ (vs cs : List Value) (o : Nat), (∀ u ∈ cs, p u = true) → (∀ u ∈ vs, p u = true) → ∀ u ∈ splice cs o vs, p u = true
  | [], cs, o, h, k, u, hu => h u hu
  | v :: vs, cs, o, h, k, u, hu => by
    refine splice_all vs (cs.set o v) (o + 1) (fun x hx => ?_) (fun x hx => k x (by simp [hx])) u hu
    rcases List.mem_or_eq_of_mem_set hx with hx | rfl
    · exact h x hx
    · exact k _ (by simp)
theorem foldl_splice (off : Nat) : ∀ (us : List Value) (k : Nat) (arr : Array Value), ((us.zipIdx k).foldl (fun cs p => cs.setIfInBounds (off + p.2) p.1) arr).toList = splice arr.toList (off + k) us
  | [], k, arr => rfl
  | u :: us, k, arr => by
    simp only [List.zipIdx_cons, List.foldl_cons, splice]
    rw [foldl_splice off us (k + 1)]
    simp [Nat.add_assoc]

section
variable {P : Program} {T : TT}
theorem run_part (hT : TOk P T) {t off : Nat} {cs : List V} {us : List Value} {K : V → Prop} (h : partV T t cs off K) : ∃ v, K v ∧ ∀ ρ (us : List Value) (w : World), VsRel ρ cs us → (∀ u ∈ us, u.oneCell' = true) → ∃ u, (part t us.toArray off).run P w = .ok u w ∧ VRel ρ v u := by
  unfold partV at h
  split at h
  · rename_i hk
    obtain ⟨hl, h⟩ := h
    refine ⟨_, h, fun ρ us w hv h1 => ⟨.agg (us.toArray.extract off (off + (T.at_ t).size)), by
      have hh : has T t = true := by
        unfold aggK at hk
        unfold has
        split at hk <;> simp_all
      simp only [part, Sem.run_bind, (hT.isAgg w).1 hk, Result.andThen_ok, if_true, hT.size hh, Sem.run_pure], ?_⟩⟩
    have he : us.toArray.extract off (off + (T.at_ t).size) = ((us.drop off).take (T.at_ t).size).toArray := by
      apply Array.ext'
      simp [Array.toList_extract, List.extract]
    rw [he]
    have := (hv.drop off).take (T.at_ t).size
    exact .agg _ _ (fun u hu => h1 u (List.mem_of_mem_drop (List.mem_of_mem_take hu))) this.1 this.2
  · rename_i hk
    obtain ⟨v, hc, h⟩ := h
    refine ⟨v, fv_iff.1 h, fun ρ us w hv h1 => ?_⟩
    obtain ⟨u, hu, hr⟩ := hv.get hc
    exact ⟨u, by simp [part, (hT.isAgg w).2 hk, hu], hr⟩
  · exact h.elim

theorem fill_sound {env : Env} {t : Nat} {place : Nat → Option (Nat × Nat)} : ∀ (parts : List (Nat × Operand)) (cs : List V) (K : List V → Prop), (∀ i off size, places T t i = some (off, size) → 1 ≤ size → place i = some (off, size)) → fillV T env t cs parts K →
    ∃ ds, K ds ∧ ∀ ρ N (a : Act) (us : List Value), ERel ρ N env a → VsRel ρ cs us → (∀ u ∈ us, u.oneCell' = true) → ∃ us' : List Value, Instr.fill place us.toArray (parts.map fun p => (p.1, a.eval p.2)) = some us'.toArray ∧ VsRel ρ ds us' ∧ (∀ u ∈ us', u.oneCell' = true) ∧ us'.length = us.length
  | [], cs, K, hp, h => ⟨cs, h, fun ρ N a us ha hv h1 => ⟨us, rfl, hv, h1, rfl⟩⟩
  | (i, x) :: r, cs, K, hp, h => by
    unfold fillV at h
    split at h
    · rename_i off size hpl
      simp only [fv_iff, chk_iff] at h
      obtain ⟨hsz, hv1, hlen, hfit, h⟩ := h
      have hsz' := Nat.le_of_ble_eq_true hsz
      have hlen' := Nat.eq_of_beq_eq_true hlen
      have hfit' := Nat.le_of_ble_eq_true hfit
      obtain ⟨ds, hK, hrun⟩ := fill_sound r _ K hp h
      refine ⟨ds, hK, fun ρ N a us ha hv h1 => ?_⟩
      obtain ⟨hc, hc1⟩ := (opv_rel ha x).cells hv1
      have hcl : (a.eval x).cells.size = size := by
        rw [← Array.length_toList, ← hc.1, hlen']
      obtain ⟨us', e1, e2, e3, e4⟩ := hrun ρ N a (splice us off (a.eval x).cells.toList) ha (VsRel.splice _ _ _ _ off hv hc) (splice_all _ _ _ h1 hc1)
      refine ⟨us', ?_, e2, e3, by rw [e4, splice_length]⟩
      simp only [List.map_cons, Instr.fill]
      rw [hp i off size hpl hsz']
      have hle : ¬ (off + size > us.length) := by
        have := hv.1
        omega
      have hf := foldl_splice off (a.eval x).cells.toList 0 us.toArray
      have hg : ((a.eval x).cells.zipIdx.foldl (fun cs p => cs.setIfInBounds (off + p.2) p.1) us.toArray) = (splice us off (a.eval x).cells.toList).toArray := by
        apply Array.ext'
        rw [← Array.foldl_toList, Array.toList_zipIdx, hf]
        simp
      simp only [hcl, List.size_toArray]
      rw [if_neg (by simp [hle])]
      rw [← e1]
      exact congrArg (fun z => Instr.fill place z (r.map fun p => (p.1, a.eval p.2))) hg
    · exact h.elim

theorem unO_sound {op : UnOp} {x : V} {K : V → Prop} (h : unO op x K) : ∃ v, K v ∧ ∀ ρ u (w : World), VRel ρ x u → ∃ u', (Op.unary op u).run P w = .ok u' w ∧ VRel ρ v u' := by
  unfold unO at h
  split at h
  · exact ⟨_, h, fun ρ u w r => ⟨_, by rw [r.int_inv]; simp [Op.unary, Op.intArith], .int _ _⟩⟩
  · exact ⟨_, h, fun ρ u w r => ⟨_, by rw [r.int_inv]; simp only [Op.unary, Op.intBits]; rfl, .int _ _⟩⟩
  · exact ⟨_, h, fun ρ u w r => ⟨_, by rw [r.bool_inv]; simp [Op.unary], .bool _⟩⟩
  · exact h.elim
end
end Go.Ab
