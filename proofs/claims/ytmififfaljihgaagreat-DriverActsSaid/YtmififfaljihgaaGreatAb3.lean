/- Operations that look at no memory, or only read: what the abstract answer says of the run. -/
import Derived.Test.YtmififfaljihgaaGreatAb2
set_option linter.unusedVariables false
set_option linter.unusedSimpArgs false
namespace Go.Ab
open Go

/-! ### The table of types -/
def DM : TypeDesc → TD → Prop
  | .bool, .bool => True
  | .int k, .int k' => k = k'
  | .string, .str => True
  | .pointer e, .ptr e' => e = e'
  | .slice e, .sl e' => e = e'
  | .map k e, .mp k' e' => k = k' ∧ e = e'
  | .struct fs, .st l => fs.toList.map (fun f => (f.type, f.offset)) = l
  | .array n e, .arr n' e' => n = n' ∧ e = e'
  | _, _ => False
structure TyOk (P : Program) (t : Nat) (ti : TI) : Prop where
  tys : ∃ m, P.types.size = m + 1
  und : ∃ d, P.underlying t = some d ∧ DM d ti.d
  info : ∃ i z, P.info? t = some i ∧ i.size = ti.size ∧ i.bytes = ti.bytes ∧ i.zero = some z ∧ (∀ ρ, VRel ρ ti.zero z) ∧ isV ti.zero = true ∧ (vcells ti.zero).length = ti.size
def TOk (P : Program) (T : TT) : Prop := ∀ t, has T t = true → TyOk P t (T.at_ t)

section
variable {P : Program} {T : TT} (hT : TOk P T)
include hT
theorem TOk.of_int {t : Nat} {k : IntKind} (h : (T.at_ t).d = .int k) : P.underlying t = some (.int k) := by
  obtain ⟨d, h1, h2⟩ := (hT t (by simp [has, h])).und
  rw [h] at h2
  cases d <;> simp [DM] at h2
  rw [h1, h2]
theorem TOk.of_bool {t : Nat} (h : (T.at_ t).d = .bool) : P.underlying t = some .bool := by
  obtain ⟨d, h1, h2⟩ := (hT t (by simp [has, h])).und
  rw [h] at h2
  cases d <;> simp [DM] at h2
  exact h1
theorem TOk.of_str {t : Nat} (h : (T.at_ t).d = .str) : P.underlying t = some .string := by
  obtain ⟨d, h1, h2⟩ := (hT t (by simp [has, h])).und
  rw [h] at h2
  cases d <;> simp [DM] at h2
  exact h1
theorem TOk.of_ptr {t e : Nat} (h : (T.at_ t).d = .ptr e) : P.underlying t = some (.pointer e) := by
  obtain ⟨d, h1, h2⟩ := (hT t (by simp [has, h])).und
  rw [h] at h2
  cases d <;> simp [DM] at h2
  rw [h1, h2]
theorem TOk.of_sl {t e : Nat} (h : (T.at_ t).d = .sl e) : P.underlying t = some (.slice e) := by
  obtain ⟨d, h1, h2⟩ := (hT t (by simp [has, h])).und
  rw [h] at h2
  cases d <;> simp [DM] at h2
  rw [h1, h2]
theorem TOk.of_mp {t k e : Nat} (h : (T.at_ t).d = .mp k e) : P.underlying t = some (.map k e) := by
  obtain ⟨d, h1, h2⟩ := (hT t (by simp [has, h])).und
  rw [h] at h2
  cases d <;> simp [DM] at h2
  rw [h1, h2.1, h2.2]
theorem TOk.of_st {t : Nat} {l : List (Nat × Nat)} (h : (T.at_ t).d = .st l) : ∃ fs, P.underlying t = some (.struct fs) ∧ fs.toList.map (fun f => (f.type, f.offset)) = l := by
  obtain ⟨d, h1, h2⟩ := (hT t (by simp [has, h])).und
  rw [h] at h2
  cases d <;> simp [DM] at h2
  exact ⟨_, h1, h2⟩
theorem TOk.of_arr {t n e : Nat} (h : (T.at_ t).d = .arr n e) : P.underlying t = some (.array n e) := by
  obtain ⟨d, h1, h2⟩ := (hT t (by simp [has, h])).und
  rw [h] at h2
  cases d <;> simp [DM] at h2
  rw [h1, h2.1, h2.2]
theorem TOk.size {t : Nat} (h : has T t = true) (w : World) : (sizeOf t).run P w = .ok (T.at_ t).size w := by
  obtain ⟨i, z, h1, h2, _⟩ := (hT t h).info
  simp [sizeOf, typeInfo, h1, h2]
theorem TOk.isAgg {t : Nat} (w : World) : (aggK T t = .agg → (isAgg t).run P w = .ok true w) ∧ (aggK T t = .one → (isAgg t).run P w = .ok false w) := by
  have hh : has T t = true → ∃ d, P.underlying t = some d ∧ DM d (T.at_ t).d := fun h => (hT t h).und
  unfold has at hh
  unfold aggK
  cases hd : (T.at_ t).d with
  | other => simp
  | _ =>
    rw [hd] at hh
    obtain ⟨d, h1, h2⟩ := hh rfl
    constructor <;> intro hk <;> simp at hk <;> cases d <;> simp [DM] at h2 <;> simp [Go.isAgg, run_underlying h1]
end

/-! ### The temporaries -/
structure ERel (ρ : Rho) (N : Nat) (env : Env) (a : Act) : Prop where
  size : a.tmps.size = N
  rel : ∀ t, VRel ρ (get env t) (a.tmps.getD t Go.undef)
theorem ERel.mono {ρ ρ' : Rho} (he : ∀ i l, ρ i = some l → ρ' i = some l) {N : Nat} {env : Env} {a : Act} (h : ERel ρ N env a) : ERel ρ' N env a := ⟨h.size, fun t => (h.rel t).mono he⟩
theorem ERel.forget {ρ : Rho} {N : Nat} {env env' : Env} {a : Act} (h : ERel ρ N env a) (hf : Forget env env') : ERel ρ N env' a := by
  refine ⟨h.size, fun t => ?_⟩
  rcases hf t with e | e
  · rw [e]
    exact .undef _
  · rw [e]
    exact h.rel t
theorem get_cons (t : Nat) (v : V) (env : Env) (n : Nat) : get ((t, v) :: env) n = if t = n then v else get env n := by
  simp only [get]
  cases h : Nat.beq t n with
  | true => simp [Nat.eq_of_beq_eq_true h]
  | false => simp [Nat.ne_of_beq_eq_false h]
theorem ERel.put {ρ : Rho} {N : Nat} {env : Env} {a : Act} (h : ERel ρ N env a) {d : Option Nat} {v : V} {u : Value} (hv : VRel ρ v u) (hd : ∀ t, d = some t → t < N) {K : Env → Prop} (hK : put env d v K) : ∃ env', ERel ρ N env' (a.put d u) ∧ K env' := by
  cases d with
  | none => exact ⟨env, h, hK⟩
  | some t =>
    have ht := hd t rfl
    refine ⟨(t, v) :: env, ⟨by simp [Act.put, h.size], fun n => ?_⟩, hK⟩
    rw [get_cons]
    simp only [Act.put]
    split
    · rename_i e
      subst e
      rw [← h.size] at ht
      simpa [Array.getD_eq_getD_getElem?, ht] using hv
    · rename_i e
      have := h.rel n
      simp only [Array.getD_eq_getD_getElem?] at this ⊢
      rw [Array.getElem?_setIfInBounds_ne e]
      exact this
theorem ofCell_rel (ρ : Rho) (v : Value) : VRel ρ (ofCell v) v := by
  unfold ofCell
  split <;> first | exact .undef _ | constructor
theorem opv_rel {ρ : Rho} {N : Nat} {env : Env} {a : Act} (h : ERel ρ N env a) (x : Operand) : VRel ρ (opv env x) (a.eval x) := by
  cases x with
  | tmp t => exact h.rel t
  | global g => exact .undef _
  | func f => exact .fn f
  | const v =>
    simp only [opv, Act.eval]
    unfold ofConst
    split
    · rename_i cs
      split
      case h_2 => exact .undef _
      rename_i hall
      rw [List.all_eq_true] at hall
      have hv : VsRel ρ (cs.toList.map ofCell) cs.toList := ⟨by simp, fun j c u hc hu => by
        simp only [List.getElem?_map, hu, Option.map_some] at hc
        injection hc with hc
        subst hc
        exact ofCell_rel ρ u⟩
      exact .agg _ cs.toList hall hv.1 hv.2
    · exact ofCell_rel ρ v

/-! ### What a value must be -/
section
variable {ρ : Rho}
theorem VRel.int_inv {k : IntKind} {n : Int} {u : Value} (h : VRel ρ (.int k n) u) : u = .int k n := by cases h; rfl
theorem VRel.bool_inv {b : Bool} {u : Value} (h : VRel ρ (.bool b) u) : u = .bool b := by cases h; rfl
theorem VRel.fn_inv {f : Nat} {u : Value} (h : VRel ρ (.fn f) u) : u = .func (.func f) #[] #[] := by cases h; rfl
theorem VRel.str_inv {s : List Int} {u : Value} (h : VRel ρ (.str s) u) : ∃ b, u = .string b ∧ s = b.data.toList.map fun b => (b.toNat : Int) := by cases h; exact ⟨_, rfl, rfl⟩
theorem VRel.nilp_inv {u : Value} (h : VRel ρ (.ptr none) u) : u = .pointer none := by cases h; rfl
theorem VRel.ptr_inv {i o : Nat} {u : Value} (h : VRel ρ (.ptr (some (i, o))) u) : ∃ l, ρ i = some l ∧ u = .pointer (some ⟨l.b, l.o + o, none⟩) := by cases h with | ptr i o l h => exact ⟨l, h, rfl⟩
theorem VRel.agg_inv {cs : List V} {u : Value} (h : VRel ρ (.agg cs) u) : ∃ us : List Value, u = .agg us.toArray ∧ VsRel ρ cs us ∧ ∀ x ∈ us, x.oneCell' = true := by cases h with | agg cs us h1 hl hc => exact ⟨us, rfl, ⟨hl, hc⟩, h1⟩
theorem VRel.tup_inv {cs : List V} {u : Value} (h : VRel ρ (.tup cs) u) : ∃ us : List Value, u = .tuple us.toArray ∧ VsRel ρ cs us := by cases h with | tup cs us hl hc => exact ⟨us, rfl, ⟨hl, hc⟩⟩
theorem VRel.sl_inv {p : Option (Nat × Nat)} {n : Nat} {u : Value} (h : VRel ρ (.sl p n) u) : (p = none ∧ n = 0 ∧ u = .slice none 0 0) ∨
    ∃ i o cap a l, p = some (i, o) ∧ u = .slice (some a) n cap ∧ ρ i = some l ∧ n ≤ cap ∧ cap ≤ maxLen ∧ (0 < cap → a = ⟨l.b, l.o + o, none⟩) ∧ o + cap * l.sz ≤ l.lim := by
  cases h with
  | nils => exact .inl ⟨rfl, rfl, rfl⟩
  | sl i o n cap a l h hn hm ha hl => exact .inr ⟨i, o, cap, a, l, rfl, rfl, h, hn, hm, ha, hl⟩
theorem VRel.mp_inv {p : Option Nat} {u : Value} (h : VRel ρ (.mp p) u) : (p = none ∧ u = .map none) ∨ ∃ i l, p = some i ∧ u = .map (some l.b) ∧ ρ i = some l := by
  cases h with
  | nilm => exact .inl ⟨rfl, rfl⟩
  | mp i l h => exact .inr ⟨i, l, rfl, rfl, h⟩
theorem VRel.ptr_opt {p : Option (Nat × Nat)} {u : Value} (h : VRel ρ (.ptr p) u) : ∃ a, u = .pointer a ∧ a.isNone = p.isNone := by
  cases h with
  | nilp => exact ⟨none, rfl, rfl⟩
  | ptr i o l h => exact ⟨_, rfl, rfl⟩
end
theorem fv_iff {v : V} {K : V → Prop} : fv v K ↔ K v := by cases v <;> rfl
theorem chk_iff {b : Bool} {X : Prop} : chk b X ↔ b = true ∧ X := by cases b <;> simp [chk]
theorem br_iff {b : Bool} {X Y : Prop} : br b X Y ↔ (b = true → X) ∧ (b = false → Y) := by cases b <;> simp [br]
theorem kEq_eq {a b : IntKind} (h : kEq a b = true) : a = b := by cases a <;> cases b <;> simp [kEq] at h <;> rfl
end Go.Ab
