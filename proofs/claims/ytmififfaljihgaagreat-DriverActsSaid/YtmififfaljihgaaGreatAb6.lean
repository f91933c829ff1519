/- Operations that look at no memory: whole. -/
import Derived.Test.YtmififfaljihgaaGreatAb5
set_option linter.unusedVariables false
set_option linter.unusedSimpArgs false
namespace Go.Ab
open Go

theorem run_sliceBound {P : Program} {w : World} {k : IntKind} {m y : Nat} {code : BoundsCode} (h : m ≤ y) : (Instr.sliceBound (.int k (m : Int)) y code).run P w = .ok m w := by
  simp only [Instr.sliceBound, asIntOf, Sem.run_bind, Sem.run_pure, Result.andThen_ok]
  rw [if_pos ⟨by omega, by omega⟩]
  simp
theorem boundO_sound {env : Env} {x : Option Operand} {d : Nat} {K : Nat → Prop} (h : boundO env x d K) : ∃ m, K m ∧ (x = none → m = d) ∧ ∀ x', x = some x' → ∃ k, opv env x' = .int k (m : Int) := by
  unfold boundO at h
  split at h
  · exact ⟨d, h, fun _ => rfl, fun x' e => by cases e⟩
  · rename_i x'
    split at h
    · rename_i k n hn
      obtain ⟨m, rfl, hK⟩ := h
      exact ⟨m, hK, (fun e => by cases e), (fun x'' e => by cases e; exact ⟨k, hn⟩)⟩
    · exact h.elim
theorem run_sliceBounds {P : Program} {w : World} {ρ : Rho} {N : Nat} {env : Env} {a : Act} (ha : ERel ρ N env a) {b : Bool} {lo hi : Option Operand} {l m n cap : Nat} (hl : (lo = none → l = 0) ∧ ∀ x', lo = some x' → ∃ k, opv env x' = .int k (l : Int))
    (hm : (hi = none → m = n) ∧ ∀ x', hi = some x' → ∃ k, opv env x' = .int k (m : Int)) (h1 : l ≤ m) (h2 : m ≤ n) (h3 : n ≤ cap) : (Instr.sliceBounds b n cap (lo.map a.eval) (hi.map a.eval) none).run P w = .ok (l, m, cap) w := by
  have hhi : ∀ code, (match hi.map a.eval with
      | some v => Instr.sliceBound v cap code
      | none => pure n : Sem Nat).run P w = .ok m w := by
    intro code
    cases hi with
    | none => simp [hm.1 rfl]
    | some x =>
      obtain ⟨k, hk⟩ := hm.2 x rfl
      have := opv_rel ha x
      rw [hk] at this
      rw [Option.map_some, this.int_inv]
      exact run_sliceBound (by omega)
  cases hi with
  | none =>
    have e := hm.1 rfl
    subst e
    cases lo with
    | none =>
      have e := hl.1 rfl
      subst e
      simp [Instr.sliceBounds]
    | some x =>
      obtain ⟨k, hk⟩ := hl.2 x rfl
      have := opv_rel ha x
      rw [hk] at this
      have e := this.int_inv
      simp [Instr.sliceBounds, e, run_sliceBound h1]
  | some y =>
    obtain ⟨k, hk⟩ := hm.2 y rfl
    have r1 := opv_rel ha y
    rw [hk] at r1
    have e1 := r1.int_inv
    have hb : ∀ code, (Instr.sliceBound (.int k (m : Int)) cap code).run P w = .ok m w := fun code => run_sliceBound (by omega)
    cases lo with
    | none =>
      have e := hl.1 rfl
      subst e
      simp [Instr.sliceBounds, e1, hb]
    | some x =>
      obtain ⟨k', hk'⟩ := hl.2 x rfl
      have := opv_rel ha x
      rw [hk'] at this
      have e := this.int_inv
      simp [Instr.sliceBounds, e, e1, hb, run_sliceBound h1]

section
variable {P : Program} {T : TT}
theorem run_fieldAt (hT : TOk P T) {s f t d : Nat} {fs : List (Nat × Nat)} (hs : (T.at_ s).d = .st fs) (hf : fs[f]? = some (t, d)) (hh : has T t = true) (hsz : 1 ≤ (T.at_ t).size) (b o : Nat) (w : World) : (Instr.fieldAt s (.pointer (some ⟨b, o, none⟩)) f).run P w = .ok (.pointer (some ⟨b, o + d, none⟩)) w := by
  obtain ⟨fs', h1, h2⟩ := hT.of_st hs
  have hf' : ∃ fl, fs'[f]? = some fl ∧ fl.type = t ∧ fl.offset = d := by
    rw [← h2, List.getElem?_map] at hf
    obtain ⟨fl, e1, e2⟩ := Option.map_eq_some_iff.1 hf
    simp at e2
    exact ⟨fl, by simpa using e1, e2.1, e2.2⟩
  obtain ⟨fl, e1, rfl, rfl⟩ := hf'
  simp only [Instr.fieldAt, Sem.run_bind, run_underlying h1, Result.andThen_ok, e1, Instr.sureAddr, Sem.run_pure, fieldPlace, hT.size hh]
  rw [if_neg (by omega)]
  simp [add_plain]
theorem run_index_str {t : Nat} {b : ByteArray} {j : Nat} {y : UInt8} {k : IntKind} {w : World} (hs : P.underlying t = some .string) (hy : b[j]? = some y) : (Instr.index t (.string b) (.int k (j : Int))).run P w = .ok (.int .u8 y.toNat) w := by
  have e : (if 0 ≤ (j : Int) then b[(j : Int).toNat]? else none) = some y := by
    rw [if_pos (Int.natCast_nonneg j), Int.toNat_natCast]
    exact hy
  unfold Instr.index
  rw [Sem.run_bind]
  show Result.andThen (Sem.run P (asIntOf (.int k (j : Int))) w) _ = _
  rw [show Sem.run P (asIntOf (.int k (j : Int))) w = .ok (k, (j : Int)) w from rfl, Result.andThen_ok, Sem.run_bind, run_underlying hs, Result.andThen_ok]
  show Sem.run P (match (if 0 ≤ (j : Int) then b[(j : Int).toNat]? else none) with
    | some b => (pure (Value.int .u8 b.toNat) : Sem Value)
    | none => boundsPanic k (j : Int) b.size .index) w = _
  rw [e]
  rfl
theorem run_sliceAt_str {t : Nat} {b : ByteArray} {l m : Nat} {lo hi : Option Value} {w : World} (hs : P.underlying t = some .string) (hb : (Instr.sliceBounds false b.size b.size lo hi none).run P w = .ok (l, m, b.size) w) : (Instr.sliceAt t (.string b) lo hi none).run P w = .ok (.string (b.extract l m)) w := by
  unfold Instr.sliceAt
  rw [Sem.run_bind, run_underlying hs, Result.andThen_ok]
  show Sem.run P (Instr.slice t (.string b) lo hi none) w = _
  unfold Instr.slice
  rw [Sem.run_bind, run_underlying hs, Result.andThen_ok]
  show Sem.run P (do
    let (l, h, _) ← Instr.sliceBounds false b.size b.size lo hi none
    pure (Value.string (b.extract l h)) : Sem Value) w = _
  rw [Sem.run_bind, hb]
  rfl
theorem Rel.arr_cells {ρ : Rho} {us : List Value} (h : ∀ u ∈ us, u.oneCell' = true) : ∀ u ∈ us, u.oneCell' = true := h
theorem has_of {t : Nat} {d : TD} (h : (T.at_ t).d = d) (hd : d ≠ .other) : has T t = true := by
  unfold has
  rw [h]
  cases d <;> simp at hd ⊢

theorem pCall_sound (hT : TOk P T) {c : Call} {dst : Option Tmp} {type : TypeId} {pos : String} {after : Array Edge} {guard : Option (Nat × Bool)} {env : Env} {K : V → Prop} (h : pCall T c env K) : ∃ v, K v ∧ PSem P ⟨dst, .call c, type, pos, after, guard⟩ env v := by
  obtain ⟨callee, ⟨args⟩, ⟨argTypes⟩⟩ := c
  simp only [pCall] at h
  split at h
  · rename_i x t
    have run : ∀ (a : Act) (w : World) (u : Value), (Builtin.len_ #[t] type #[a.eval x]).run P w = .ok u w → (execOp a.eval ⟨dst, .call ⟨.builtin .len, #[x], #[t]⟩, type, pos, after, guard⟩).run P w = .ok (.value u) w := by
      intro a w u hu
      simp [execOp, resolve, invoke, builtin, hu]
    split at h
    · rename_i e p n ht hx
      refine ⟨_, h, fun ρ N a w ha => ?_⟩
      have r := opv_rel ha x
      rw [hx] at r
      refine ⟨.int .i64 n, run a w _ ?_, .int _ _⟩
      rcases r.sl_inv with ⟨rfl, rfl, e⟩ | ⟨i, o, cap, ad, l, rfl, e, _⟩ <;> simp [Builtin.len_, e, run_underlying (hT.of_sl ht), goInt]
    · rename_i s ht hx
      refine ⟨_, h, fun ρ N a w ha => ?_⟩
      have r := opv_rel ha x
      rw [hx] at r
      obtain ⟨b, e, rfl⟩ := r.str_inv
      have hbs : (b.data.toList.map fun b => (b.toNat : Int)).length = b.size := by
        rw [List.length_map, Array.length_toList]
        rfl
      refine ⟨.int .i64 b.size, run a w _ ?_, by rw [hbs]; exact .int _ _⟩
      simp [Builtin.len_, e, run_underlying (hT.of_str ht), goInt]
    · rename_i n e ht
      refine ⟨_, h, fun ρ N a w ha => ?_⟩
      refine ⟨.int .i64 n, run a w _ ?_, .int _ _⟩
      simp [Builtin.len_, run_underlying (hT.of_arr ht), goInt]
    · exact h.elim
  · rename_i x y
    split at h
    · rename_i k m k' n hx hy
      refine ⟨_, h, fun ρ N a w ha => ?_⟩
      have r1 := opv_rel ha x
      have r2 := opv_rel ha y
      rw [hx] at r1
      rw [hy] at r2
      exact ⟨_, by simp [execOp, resolve, invoke, builtin, Builtin.min_, r1.int_inv, r2.int_inv, Builtin.min2], .int _ _⟩
    · exact h.elim
  · rename_i x y
    split at h
    · rename_i k m k' n hx hy
      refine ⟨_, h, fun ρ N a w ha => ?_⟩
      have r1 := opv_rel ha x
      have r2 := opv_rel ha y
      rw [hx] at r1
      rw [hy] at r2
      exact ⟨_, by simp [execOp, resolve, invoke, builtin, Builtin.max_, r1.int_inv, r2.int_inv, Builtin.max2], .int _ _⟩
    · exact h.elim
  · exact h.elim

theorem pO_sound (hT : TOk P T) (hE : EqOk P T) {o : Oper} {env : Env} {K : V → Prop} (h : pO T o env K) : ∃ v, K v ∧ PSem P o env v := by
  obtain ⟨dst, op, type, pos, after, guard⟩ := o
  cases op with
  | move x => exact ⟨_, fv_iff.1 h, fun ρ N a w ha => ⟨_, rfl, opv_rel ha x⟩⟩
  | assign x => exact ⟨_, fv_iff.1 h, fun ρ N a w ha => ⟨_, rfl, opv_rel ha x⟩⟩
  | pick c x y =>
    simp only [pO] at h
    split at h
    · rename_i g hg
      rw [br_iff] at h
      have hc : ∀ ρ N (a : Act), ERel ρ N env a → a.eval c = .bool g := fun ρ N a ha => by
        have := opv_rel ha c
        rw [hg] at this
        exact this.bool_inv
      cases g with
      | true => exact ⟨_, fv_iff.1 (h.1 rfl), fun ρ N a w ha => ⟨a.eval x, by simp [execOp, hc ρ N a ha, asBool], opv_rel ha x⟩⟩
      | false => exact ⟨_, fv_iff.1 (h.2 rfl), fun ρ N a w ha => ⟨a.eval y, by simp [execOp, hc ρ N a ha, asBool], opv_rel ha y⟩⟩
    · exact h.elim
  | makeFunc fn fs caps =>
    obtain ⟨fs⟩ := fs
    obtain ⟨caps⟩ := caps
    cases fn with
    | func f =>
      cases fs with
      | cons _ _ => exact h.elim
      | nil =>
        refine ⟨_, h, fun ρ N a w ha => ?_⟩
        have key : ∀ l : List Operand, VsRel ρ (l.map (opv env)) (l.map a.eval) := fun l => by
          induction l with
          | nil => exact VsRel.nil ρ
          | cons x l ih => exact VsRel.cons (opv_rel ha x) ih
        have hk := key caps
        refine ⟨.func (.func f) #[] (caps.map a.eval).toArray, ?_, .clo f _ _ hk.1 hk.2⟩
        simp [execOp, Instr.makeFunc]
    | _ => exact h.elim
  | nilCheck x =>
    simp only [pO] at h
    split at h
    · rename_i p hp
      refine ⟨_, h, fun ρ N a w ha => ?_⟩
      have r := opv_rel ha x
      rw [hp] at r
      obtain ⟨l, hl, e⟩ := r.ptr_inv
      exact ⟨_, by simp [execOp, e], .ptr _ _ l hl⟩
    · exact h.elim
  | binOp op t x y yt =>
    simp only [pO] at h
    unfold binO at h
    split at h
    · rename_i k a k' b hx hy
      obtain ⟨v, hK, hr⟩ := intBin_sound (P := P) h t
      refine ⟨v, hK, fun ρ N ac w ha => ?_⟩
      have r1 := opv_rel ha x
      have r2 := opv_rel ha y
      rw [hx] at r1
      rw [hy] at r2
      obtain ⟨u, e1, e2⟩ := hr ρ w
      exact ⟨u, by simp [execOp, r1.int_inv, r2.int_inv, eqGuard_other, e1], e2⟩
    · rename_i hno
      split at h
      · obtain ⟨b, hK, hr⟩ := eqB_sound hT hE h (fun k n k' m e => hno k n k' m e.1 e.2)
        refine ⟨_, hK, fun ρ N a w ha => ?_⟩
        have := (hr ρ x y _ _ w (opv_rel ha x) (opv_rel ha y)).1
        exact ⟨_, by simp only [execOp, Sem.run_bind, this, Result.andThen_ok, Sem.run_pure], .bool _⟩
      · obtain ⟨b, hK, hr⟩ := eqB_sound hT hE h (fun k n k' m e => hno k n k' m e.1 e.2)
        refine ⟨_, hK, fun ρ N a w ha => ?_⟩
        have := (hr ρ x y _ _ w (opv_rel ha x) (opv_rel ha y)).2
        exact ⟨_, by simp only [execOp, Sem.run_bind, this, Result.andThen_ok, Sem.run_pure], .bool _⟩
      · exact h.elim
  | unOp op t x =>
    obtain ⟨v, hK, hr⟩ := unO_sound (P := P) h
    refine ⟨v, hK, fun ρ N a w ha => ?_⟩
    obtain ⟨u, e1, e2⟩ := hr ρ _ w (opv_rel ha x)
    exact ⟨u, by simp [execOp, e1], e2⟩
  | convert src dst x =>
    simp only [pO] at h
    split at h
    · rename_i k k' n hd hx
      refine ⟨_, (chk_iff.1 h).2, fun ρ N a w ha => ?_⟩
      have r := opv_rel ha x
      rw [hx] at r
      obtain ⟨ds, hds, _⟩ := (hT src (chk_iff.1 h).1).und
      exact ⟨_, by simp [execOp, r.int_inv, convert, run_underlying hds, run_underlying (hT.of_int hd), Conv.intToInt], .int _ _⟩
    · exact h.elim
  | fieldAddr s x f =>
    simp only [pO] at h
    split at h
    · rename_i fs i off hs hx
      split at h
      · rename_i t d hf
        rw [chk_iff, chk_iff] at h
        refine ⟨_, h.2.2, fun ρ N a w ha => ?_⟩
        have r := opv_rel ha x
        rw [hx] at r
        obtain ⟨l, hl, e⟩ := r.ptr_inv
        exact ⟨.pointer (some ⟨l.b, l.o + (off + d), none⟩), by simp [execOp, e, run_fieldAt hT hs hf h.1 (Nat.le_of_ble_eq_true h.2.1), Nat.add_assoc], .ptr _ _ l hl⟩
      · exact h.elim
    · exact h.elim
  | field s x f =>
    simp only [pO] at h
    split at h
    · rename_i fs cs hs hx
      split at h
      · rename_i t d hf
        obtain ⟨fs', h1, h2⟩ := hT.of_st hs
        obtain ⟨v, hK, hr⟩ := run_part hT (us := []) h
        refine ⟨v, hK, fun ρ N a w ha => ?_⟩
        have r := opv_rel ha x
        rw [hx] at r
        obtain ⟨us, e, hv, h1'⟩ := r.agg_inv
        obtain ⟨u, e1, e2⟩ := hr ρ us w hv h1'
        have hf' : ∃ fl, fs'[f]? = some fl ∧ fl.type = t ∧ fl.offset = d := by
          rw [← h2, List.getElem?_map] at hf
          obtain ⟨fl, e1, e2⟩ := Option.map_eq_some_iff.1 hf
          simp at e2
          exact ⟨fl, by simpa using e1, e2.1, e2.2⟩
        obtain ⟨fl, g1, rfl, rfl⟩ := hf'
        exact ⟨u, by simp [execOp, e, Instr.field, run_underlying h1, g1, asAgg, e1], e2⟩
      · exact h.elim
    · exact h.elim
  | indexAddr t x ix =>
    simp only [pO] at h
    split at h
    · rename_i e p n k z ht hx hz
      rw [chk_iff] at h
      obtain ⟨hh, i, off, j, rfl, rfl, hj, h⟩ := h
      refine ⟨_, h, fun ρ N a w ha => ?_⟩
      have r := opv_rel ha x
      have r2 := opv_rel ha ix
      rw [hx] at r
      rw [hz] at r2
      rcases r.sl_inv with ⟨e1, _⟩ | ⟨i', o', cap, ad, l, e1, e2, hl, hn, hm, had, hlim⟩
      · cases e1
      · injection e1 with e1
        injection e1 with e1 e1'
        subst e1 e1'
        have := had (by omega)
        subst this
        exact ⟨.pointer (some ⟨l.b, l.o + (off + j * (T.at_ e).size), none⟩), by simp [execOp, e2, r2.int_inv, Instr.indexAt, asIntOf, run_underlying (hT.of_sl ht), hj, hT.size hh, add_plain, Nat.add_assoc], .ptr _ _ l hl⟩
    · rename_i n e i off k z ht hx hz
      rw [chk_iff] at h
      obtain ⟨hh, j, rfl, hj, h⟩ := h
      refine ⟨_, h, fun ρ N a w ha => ?_⟩
      have r := opv_rel ha x
      have r2 := opv_rel ha ix
      rw [hx] at r
      rw [hz] at r2
      obtain ⟨l, hl, e2⟩ := r.ptr_inv
      exact ⟨.pointer (some ⟨l.b, l.o + (off + j * (T.at_ e).size), none⟩), by simp [execOp, e2, r2.int_inv, Instr.indexAt, asIntOf, run_underlying (hT.of_arr ht), hj, hT.size hh, add_plain, Instr.sureAddr, Nat.add_assoc], .ptr _ _ l hl⟩
    · exact h.elim
  | index t x ix =>
    simp only [pO] at h
    split at h
    · rename_i n e cs k z ht hx hz
      rw [chk_iff] at h
      obtain ⟨hh, j, rfl, hj, h⟩ := h
      obtain ⟨v, hK, hr⟩ := run_part hT (us := []) h
      refine ⟨v, hK, fun ρ N a w ha => ?_⟩
      have r := opv_rel ha x
      have r2 := opv_rel ha ix
      rw [hx] at r
      rw [hz] at r2
      obtain ⟨us, e', hv, h1'⟩ := r.agg_inv
      obtain ⟨u, e1, e2⟩ := hr ρ us w hv h1'
      exact ⟨u, by simp [execOp, e', r2.int_inv, Instr.index, asIntOf, run_underlying (hT.of_arr ht), hj, hT.size hh, e1], e2⟩
    · rename_i s k z ht hx hz
      obtain ⟨j, c, rfl, hc, h⟩ := h
      refine ⟨_, h, fun ρ N a w ha => ?_⟩
      have r := opv_rel ha x
      have r2 := opv_rel ha ix
      rw [hx] at r
      rw [hz] at r2
      obtain ⟨b, e', rfl⟩ := r.str_inv
      rw [List.getElem?_map] at hc
      obtain ⟨y, hy, rfl⟩ := Option.map_eq_some_iff.1 hc
      have hy' : b[j]? = some y := by
        have hlt := (List.getElem?_eq_some_iff.1 hy).1
        have hlt' : j < b.size := by
          rw [Array.length_toList] at hlt
          exact hlt
        rw [getElem?_pos b j hlt']
        have := (List.getElem?_eq_some_iff.1 hy).2
        simp only [Array.getElem_toList] at this
        rw [← this]
        rfl
      exact ⟨.int .u8 y.toNat, by
        show (do pure (Next.value (← Instr.index t (a.eval x) (a.eval ix))) : Sem Next).run P w = _
        rw [e', r2.int_inv, Sem.run_bind, run_index_str (hT.of_str ht) hy']
        rfl, .int _ _⟩
    · exact h.elim
  | slice t x lo hi mx =>
    simp only [pO] at h
    split at h
    · rename_i s ht hx
      obtain ⟨l, h, hl1, hl2⟩ := boundO_sound h
      obtain ⟨m, ⟨h1, h2, h⟩, hm1, hm2⟩ := boundO_sound h
      refine ⟨_, h, fun ρ N a w ha => ?_⟩
      have r := opv_rel ha x
      rw [hx] at r
      obtain ⟨b, e', rfl⟩ := r.str_inv
      have hbs : (b.data.toList.map fun b => (b.toNat : Int)).length = b.size := by
        rw [List.length_map, Array.length_toList]
        rfl
      rw [hbs] at h2 hm1
      have hb := run_sliceBounds (P := P) (w := w) ha (b := false) (lo := lo) (hi := hi) ⟨hl1, hl2⟩ ⟨hm1, hm2⟩ h1 h2 (Nat.le_refl b.size)
      refine ⟨.string (b.extract l m), by
        show (do pure (Next.value (← Instr.sliceAt t (a.eval x) (lo.map a.eval) (hi.map a.eval) none)) : Sem Next).run P w = _
        rw [e', Sem.run_bind, run_sliceAt_str (hT.of_str ht) hb]
        rfl, ?_⟩
      have : ((b.data.toList.map fun b => (b.toNat : Int)).drop l).take (m - l) = (b.extract l m).data.toList.map fun b => (b.toNat : Int) := by
        rw [ByteArray.data_extract, Array.toList_extract, List.extract, List.map_take, List.map_drop]
      rw [this]
      exact .str _
    · exact h.elim
  | build t parts =>
    simp only [pO] at h
    have key : has T t = true → (fillV T env t (vcells (T.at_ t).zero) parts.toList fun cs => K (.agg cs)) → ∃ z : Value, (∀ w, (zeroValue t).run P w = .ok z w) ∧ ∀ (place : Nat → Option (Nat × Nat)), (∀ i off size, places T t i = some (off, size) → 1 ≤ size → place i = some (off, size)) → ∃ v, K v ∧ ∀ ρ N (a : Act) (w : World), ERel ρ N env a → ∃ us : List Value, Instr.fill place z.cells (parts.toList.map fun p => (p.1, a.eval p.2)) = some us.toArray ∧ VRel ρ v (.agg us.toArray) := by
      intro hh h
      obtain ⟨i, z, g1, g2, g3, g4, g5, g6, g7⟩ := (hT t hh).info
      refine ⟨z, fun w => by simp [zeroValue, typeInfo, g1, g4], ?_⟩
      intro place hp
      obtain ⟨ds, hK, hr⟩ := fill_sound (place := place) _ _ _ hp h
      refine ⟨_, hK, fun ρ N a w ha => ?_⟩
      obtain ⟨hv, h1⟩ := (g5 ρ).cells g6
      obtain ⟨us', e1, e2, e3, e4⟩ := hr ρ N a z.cells.toList ha hv h1
      exact ⟨us', by simpa using e1, .agg _ _ e3 e2.1 e2.2⟩
    split at h
    · rename_i l hd
      rw [chk_iff] at h
      obtain ⟨hall, h⟩ := h
      obtain ⟨fs, h1, h2⟩ := hT.of_st hd
      obtain ⟨z, hz, key⟩ := key (has_of hd (by simp)) h
      have hmap : ∀ w, (fs.mapM fun f => do pure (f.offset, ← sizeOf f.type) : Sem (Array (Nat × Nat))).run P w = .ok (fs.map fun f => (f.offset, (T.at_ f.type).size)) w := by
        intro w
        rw [Array.mapM_eq_mapM_toList, Sem.run_map]
        have hl : ∀ (l : List Field), (∀ f ∈ l, has T f.type = true) → (l.mapM fun f => do pure (f.offset, ← sizeOf f.type) : Sem (List (Nat × Nat))).run P w = .ok (l.map fun f => (f.offset, (T.at_ f.type).size)) w := by
          intro l
          induction l with
          | nil => intro _; simp
          | cons f l ih =>
            intro hf
            have e1 := hT.size (hf f (by simp)) w
            have e2 := ih (fun x hx => hf x (by simp [hx]))
            rw [List.mapM_cons, Sem.run_bind, Sem.run_bind, e1]
            simp only [Result.andThen_ok, Sem.run_pure, Sem.run_bind]
            rw [e2]
            rfl
        rw [hl _ (fun f hf => by
          rw [List.all_eq_true] at hall
          exact hall (f.type, f.offset) (by rw [← h2]; exact List.mem_map.2 ⟨f, hf, rfl⟩))]
        simp only [Result.andThen_ok]
        congr 1
        apply Array.ext'
        simp
      obtain ⟨v, hK, hr⟩ := key ((fs.map fun f => (f.offset, (T.at_ f.type).size))[·]?) (fun i off size hp _ => by
        simp only [places, hd] at hp
        rw [← h2, List.getElem?_map] at hp
        simp only [Array.getElem?_map]
        rw [← Array.getElem?_toList]
        cases hf : fs.toList[i]? with
        | none => simp [hf] at hp
        | some f =>
          simp only [hf, Option.map_some] at hp ⊢
          split at hp
          · exact hp
          · cases hp)
      refine ⟨v, hK, fun ρ N a w ha => ?_⟩
      obtain ⟨us, e1, e2⟩ := hr ρ N a w ha
      refine ⟨_, ?_, e2⟩
      simp only [execOp, Instr.build, Sem.run_bind, hz, Result.andThen_ok, run_underlying h1]
      rw [hmap]
      have e1' : Instr.fill ((fs.map fun f => (f.offset, (T.at_ f.type).size))[·]?) z.cells (parts.map fun p => (p.1, a.eval p.2)).toList = some us.toArray := by simpa using e1
      simp only [Result.andThen_ok]
      rw [e1']
      rfl
    · rename_i n e hd
      rw [chk_iff] at h
      obtain ⟨hhe, h⟩ := h
      have hu := hT.of_arr hd
      obtain ⟨z, hz, key⟩ := key (has_of hd (by simp)) h
      obtain ⟨v, hK, hr⟩ := key (fun i => some (i * (T.at_ e).size, (T.at_ e).size)) (fun i off size hp _ => by
        simp only [places, hd] at hp
        split at hp
        · exact hp
        · cases hp)
      refine ⟨v, hK, fun ρ N a w ha => ?_⟩
      obtain ⟨us, e1, e2⟩ := hr ρ N a w ha
      refine ⟨_, ?_, e2⟩
      simp only [execOp, Instr.build, Sem.run_bind, hz, Result.andThen_ok, run_underlying hu, hT.size hhe]
      have e1' : Instr.fill (fun i => some (i * (T.at_ e).size, (T.at_ e).size)) z.cells (parts.map fun p => (p.1, a.eval p.2)).toList = some us.toArray := by simpa using e1
      rw [e1']
      rfl
    · exact h.elim
  | extract x i =>
    simp only [pO] at h
    split at h
    · rename_i vs hx
      obtain ⟨v, hv, h⟩ := h
      refine ⟨v, fv_iff.1 h, fun ρ N a w ha => ?_⟩
      have r := opv_rel ha x
      rw [hx] at r
      obtain ⟨us, e, hus⟩ := r.tup_inv
      obtain ⟨u, e1, e2⟩ := hus.get hv
      exact ⟨u, by simp [execOp, e, Instr.extract, e1], e2⟩
    · exact h.elim
  | call c => exact pCall_sound hT h
  | _ => exact h.elim
end
end Go.Ab
