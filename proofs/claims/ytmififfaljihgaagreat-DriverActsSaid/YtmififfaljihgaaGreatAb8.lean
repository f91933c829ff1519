/- Operations that make or turn memory: soundness. -/
import Derived.Test.YtmififfaljihgaaGreatAb7
set_option linter.unusedVariables false
set_option linter.unusedSimpArgs false
namespace Go.Ab
open Go

/-- What an operation that makes or turns memory leaves. -/
def COut (ρ : Rho) (h : H) (w : World) (o : Oper) (a : Act) (K : V → H → Prop) (a' : Act) (w' : World) : Prop := ∃ v h' ρ' u, a' = a.put o.dst u ∧ K v h' ∧ VRel ρ' v u ∧ Rel ρ' h' w' ∧ Dom ρ' h'.next ∧ Since ρ h w ρ' h' w'
theorem COut.mono {ρ : Rho} {h : H} {w : World} {o : Oper} {a : Act} {K K' : V → H → Prop} {a' : Act} {w' : World} (hk : ∀ v h', K v h' → K' v h') (hc : COut ρ h w o a K a' w') : COut ρ h w o a K' a' w' := by
  obtain ⟨v, h', ρ', u, e, k, r⟩ := hc
  exact ⟨v, h', ρ', u, e, hk _ _ k, r⟩

section
variable {P : Program} {T : TT}
theorem wp_value {o : Oper} {a : Act} {w w' : World} {u : Value} {next : Act → World → Prop} {Q : Exit → Act → World → Prop} (h : (execOp a.eval o).run P w = .ok (.value u) w') (hn : next (a.put o.dst u) w') : o.wp P a w next Q := by
  unfold Oper.wp
  rw [h]
  exact hn
theorem wp_skip_ {o : Oper} {a : Act} {w w' : World} {next : Act → World → Prop} {Q : Exit → Act → World → Prop} (h : (execOp a.eval o).run P w = .ok .skip w') (hn : next (a.put o.dst Go.undef) w') : o.wp P a w next Q := by
  unfold Oper.wp
  rw [h]
  exact hn
/-- a row that is pushed -/
theorem new_row {ρ : Rho} {h : H} {w : World} (r : Rel ρ h w) (hd : Dom ρ h.next) {cells : List Value} {cs : List V} (hv : VsRel ρ cs cells) (h1 : ∀ u ∈ cells, u.oneCell' = true) (rest : List Value) (e sz : Nat) :
    Rel (ρ.add h.next ⟨w.heap.size, 0, cells.length + rest.length, sz⟩) (h.push (.row true sz cs)) { w with heap := w.heap.push (.cells (cells ++ rest).toArray e) } ∧ Dom (ρ.add h.next ⟨w.heap.size, 0, cells.length + rest.length, sz⟩) (h.push (.row true sz cs)).next ∧
      Since ρ h w (ρ.add h.next ⟨w.heap.size, 0, cells.length + rest.length, sz⟩) (h.push (.row true sz cs)) { w with heap := w.heap.push (.cells (cells ++ rest).toArray e) } := by
  have hold : ∀ b, b < w.heap.size → (w.heap.push (.cells (cells ++ rest).toArray e))[b]? = w.heap[b]? := fun b hb => by
    rw [Array.getElem?_push, if_neg (by omega)]
  refine ⟨Rel.push r hd (Nat.le_refl _) hold (objRel_new (hv.mono (Rho.add_ext hd _)) h1 rest rfl), hd.add _, Since.push r hd (Nat.le_refl _) rfl rfl rfl (by simp) hold⟩
theorem VRel.sl_new {ρ : Rho} {n : Nat} {l : Loc} {len cap : Nat} (hn : len ≤ cap) (hm : cap ≤ maxLen) (ho : l.o = 0) (hl : cap * l.sz ≤ l.lim) : VRel (ρ.add n l) (.sl (some (n, 0)) len) (.slice (some ⟨l.b, 0, none⟩) len cap) :=
  .sl n 0 len cap _ l (Rho.add_self _ _ _) hn hm (fun _ => by rw [ho]) (by omega)
theorem VRel.ptr_new {ρ : Rho} {n : Nat} {l : Loc} (ho : l.o = 0) : VRel (ρ.add n l) (.ptr (some (n, 0))) (.pointer (some ⟨l.b, 0, none⟩)) := by
  have := VRel.ptr (ρ := ρ.add n l) n 0 l (Rho.add_self _ _ _)
  rw [ho] at this
  exact this
theorem zeros_rel {ρ : Rho} {vz : List V} {z : Array Value} (hz : VsRel ρ vz z.toList) (h1 : ∀ u ∈ z.toList, u.oneCell' = true) (n : Nat) : VsRel ρ (zerosV n vz) ((Array.range (n * z.size)).map (z[· % z.size]!)).toList ∧ ∀ u ∈ ((Array.range (n * z.size)).map (z[· % z.size]!)).toList, u.oneCell' = true := by
  have hl : vz.length = z.size := by rw [hz.1, Array.length_toList]
  have at_ : ∀ j, j < n * z.size → ∃ hj : j % z.size < z.size, z[j % z.size]! = z[j % z.size] := by
    intro j hj
    have : 0 < z.size := by
      rcases Nat.eq_zero_or_pos z.size with h0 | h0
      · rw [h0] at hj
        omega
      · exact h0
    exact ⟨Nat.mod_lt _ this, getElem!_pos z _ (Nat.mod_lt _ this)⟩
  constructor
  · refine VsRel.of_get (by simp [zerosV, hl]) fun j c hc => ?_
    have hj : j < n * z.size := by
      have := (List.getElem?_eq_some_iff.1 hc).1
      simpa [zerosV, hl] using this
    simp only [zerosV, hl, List.getElem?_map] at hc
    obtain ⟨hj', e⟩ := at_ j hj
    simp [List.getElem?_range hj] at hc
    subst hc
    obtain ⟨u, h2, h3⟩ := hz.get (j := j % z.size) (List.getElem?_eq_getElem (by omega))
    refine ⟨u, ?_, ?_⟩
    · simp only [Array.toList_map, List.getElem?_map, Array.toList_range, List.getElem?_range hj, Option.map_some, e]
      rw [Array.getElem?_toList, Array.getElem?_eq_getElem hj'] at h2
      exact h2
    · rw [List.getElem?_eq_getElem (show j % z.size < vz.length by omega)]
      exact h3
  · intro u hu
    simp only [Array.toList_map, List.mem_map, Array.toList_range, List.mem_range] at hu
    obtain ⟨j, hj, rfl⟩ := hu
    obtain ⟨hj', e⟩ := at_ j hj
    rw [e]
    exact h1 _ (by simp)

theorem aO_sound (hT : TOk P T) {o : Oper} {env : Env} {h : H} {K : V → H → Prop} (hr : aO T o env h K) :
    ∃ v ob, K v (h.push ob) ∧ ob.own = true ∧ ∀ ρ N (a : Act) (w : World), ERel ρ N env a → Rel ρ h w → Dom ρ h.next → ∃ u w' l, (execOp a.eval o).run P w = .ok (.value u) w' ∧ w'.drawn = w.drawn ∧ VRel (ρ.add h.next l) v u ∧ Rel (ρ.add h.next l) (h.push ob) w' ∧ Dom (ρ.add h.next l) (h.push ob).next ∧ Since ρ h w (ρ.add h.next l) (h.push ob) w' := by
  obtain ⟨dst, op, type, pos, after, guard⟩ := o
  cases op with
  | alloc e =>
    simp only [aO, chk_iff] at hr
    obtain ⟨hh, hr⟩ := hr
    obtain ⟨i, z, g1, g2, g3, g4, g5, g6, g7⟩ := (hT e hh).info
    refine ⟨_, _, hr, rfl, fun ρ N a w ha r hd => ?_⟩
    obtain ⟨hv, h1⟩ := (g5 ρ).cells g6
    obtain ⟨n1, n2, n3⟩ := new_row r hd hv h1 [] e (T.at_ e).size
    refine ⟨.pointer (some ⟨w.heap.size, 0, none⟩), _, _, ?_, ?_, VRel.ptr_new rfl, n1, n2, n3⟩
    case refine_2 => rfl
    simp [execOp, Instr.alloc, zeroValue, typeInfo, g1, g4, newVar, newRow]
  | box e x =>
    simp only [aO, chk_iff, fv_iff] at hr
    obtain ⟨hh, hiv, hlen, hr⟩ := hr
    refine ⟨_, _, hr, rfl, fun ρ N a w ha r hd => ?_⟩
    obtain ⟨hv, h1⟩ := (opv_rel ha x).cells hiv
    obtain ⟨n1, n2, n3⟩ := new_row r hd hv h1 [] e (T.at_ e).size
    refine ⟨.pointer (some ⟨w.heap.size, 0, none⟩), _, _, ?_, ?_, VRel.ptr_new rfl, n1, n2, n3⟩
    case refine_2 => rfl
    simp [execOp, Instr.box, newVar, newRow]
  | buildSlice t len parts =>
    simp only [aO] at hr
    split at hr
    · rename_i e ht
      rw [chk_iff, chk_iff, chk_iff] at hr
      obtain ⟨hh, hlen, hle, hr⟩ := hr
      have hle' := Nat.le_of_ble_eq_true hle
      have hlen' := Nat.le_of_ble_eq_true hlen
      obtain ⟨i, z, g1, g2, g3, g4, g5, g6, g7⟩ := (hT e hh).info
      obtain ⟨ds, hK, hf⟩ := fill_sound (place := fun i => some (i * (T.at_ e).size, (T.at_ e).size)) _ _ _ (fun i off size hp _ => by
        simp only [places, ht] at hp
        split at hp
        · exact hp
        · cases hp) hr
      refine ⟨_, _, hK, rfl, fun ρ N a w ha r hd => ?_⟩
      obtain ⟨hv, h1⟩ := (g5 ρ).cells g6
      have hzs : z.cells.size = (T.at_ e).size := by
        rw [← Array.length_toList, ← hv.1, g7]
      obtain ⟨z1, z2⟩ := zeros_rel hv h1 len
      rw [hzs] at z1 z2
      obtain ⟨us, e1, e2, e3, e4⟩ := hf ρ N a _ ha z1 z2
      have hul : us.length = len * (T.at_ e).size := by
        rw [e4]
        simp
      obtain ⟨n1, n2, n3⟩ := new_row r hd e2 e3 [] e (T.at_ e).size
      refine ⟨.slice (some ⟨w.heap.size, 0, none⟩) len len, _, _, ?_, ?_, VRel.sl_new (Nat.le_refl _) ?_ rfl ?_, n1, n2, n3⟩
      case refine_2 => rfl
      · have hne : ¬ (16777216 < len * (T.at_ e).size) := by omega
        have e1' : Instr.fill (fun i => some (i * (T.at_ e).size, (T.at_ e).size)) ((Array.range (len * (T.at_ e).size)).map (z.cells[· % (T.at_ e).size]!)) (parts.map fun p => (p.1, a.eval p.2)).toList = some us.toArray := by
          rw [Array.toArray_toList] at e1
          rw [Array.toList_map]
          exact e1
        have key : ∀ zz : Array Value, (len * (T.at_ e).size = 0 ∨ zz = z.cells) → Instr.fill (fun i => some (i * (T.at_ e).size, (T.at_ e).size)) ((Array.range (len * (T.at_ e).size)).map (zz[· % zz.size]!)) (parts.map fun p => (p.1, a.eval p.2)).toList = some us.toArray := by
          intro zz hz
          rcases hz with hz | rfl
          · have hemp : ∀ f : Nat → Value, (Array.range 0).map f = #[] := fun f => by simp
            rw [← e1', hz, hemp, hemp]
          · rw [hzs]
            exact e1'
        simp only [execOp, Instr.buildSlice, Sem.run_bind, run_underlying (hT.of_sl ht), Result.andThen_ok, hT.size hh]
        rw [if_neg (by omega)]
        simp only [Sem.run_bind, Sem.run_pure, Result.andThen_ok]
        by_cases h0 : len * (T.at_ e).size = 0
        · simp only [h0, if_true, Sem.run_bind, Sem.run_pure, Result.andThen_ok]
          have := key #[] (.inl h0)
          rw [h0] at this
          rw [this]
          simp [newRow]
        · simp only [h0, if_false, zeroValue, typeInfo, Sem.run_bind, run_program, Result.andThen_ok, g1, g4, Sem.run_pure]
          have := key z.cells (.inr rfl)
          rw [this]
          simp [newRow]
      · have : maxLen = 9223372036854775807 := rfl
        omega
      · simp [hul]
    · exact hr.elim
  | makeSlice t n c =>
    simp only [aO] at hr
    split at hr
    · rename_i e k n' k' c' ht hn hc
      rw [chk_iff] at hr
      obtain ⟨hh, m, rfl, rfl, hm, hb, hr⟩ := hr
      obtain ⟨i, z, g1, g2, g3, g4, g5, g6, g7⟩ := (hT e hh).info
      refine ⟨_, _, hr, rfl, fun ρ N a w ha r hd => ?_⟩
      obtain ⟨hv, h1⟩ := (g5 ρ).cells g6
      have hzs : z.cells.size = (T.at_ e).size := by
        rw [← Array.length_toList, ← hv.1, g7]
      obtain ⟨z1, z2⟩ := zeros_rel hv h1 m
      have rn := opv_rel ha n
      have rc := opv_rel ha c
      rw [hn] at rn
      rw [hc] at rc
      obtain ⟨n1, n2, n3⟩ := new_row r hd z1 z2 [] e (T.at_ e).size
      refine ⟨.slice (some ⟨w.heap.size, 0, none⟩) m m, _, _, ?_, ?_, VRel.sl_new (Nat.le_refl _) ?_ rfl ?_, n1, n2, n3⟩
      case refine_2 => rfl
      · have hwrap : IntKind.i64.wrap (m : Int) = (m : Int) := by
          simp [IntKind.wrap, IntKind.bits, IntKind.signed]
          omega
        have hbi : ¬ (281474976710656 < (i.bytes : Int) * (m : Int)) := by
          rw [g3]
          have : ((T.at_ e).bytes : Int) * (m : Int) = ((m * (T.at_ e).bytes : Nat) : Int) := by
            rw [Nat.mul_comm]
            exact (Int.natCast_mul _ _).symm
          rw [this]
          omega
        have hm0 : ¬ ((m : Int) < 0) := by omega
        have hrw : (Array.range (m * (T.at_ e).size)).map (z.cells[· % z.cells.size]!) = ((Array.range (m * z.cells.size)).map (z.cells[· % z.cells.size]!)) := by rw [hzs]
        simp only [execOp, Instr.makeSlice, Sem.run_bind, run_underlying (hT.of_sl ht), Result.andThen_ok, rn.int_inv, rc.int_inv, asInt, asIntOf, Sem.run_pure, typeInfo, run_program, g1, hwrap]
        have hcond : ((decide ((m : Int) < 0) || decide ((i.bytes : Int) * (m : Int) > 2 ^ 48)) || decide ((m : Int) < 0) || decide ((m : Int) > (m : Int))) = false := by
          simp
          omega
        rw [hcond]
        simp only [Bool.false_eq_true, if_false, Sem.run_bind, run_askRoom, Result.andThen_ok, hT.size hh, Int.toNat_natCast]
        by_cases h0 : m * (T.at_ e).size = 0
        · simp [h0, newRow, hzs]
          congr 2
          apply Array.ext'
          simp
        · simp only [h0, if_false, zeroValue, typeInfo, Sem.run_bind, run_program, Result.andThen_ok, g1, g4, Sem.run_pure]
          rw [hrw]
          simp [newRow]
          congr 2
          apply Array.ext'
          simp
      · have : maxLen = 9223372036854775807 := rfl
        omega
      · simp [hzs]
    · exact hr.elim
  | makeMap t rs =>
    cases rs with
    | some _ => exact hr.elim
    | none =>
      simp only [aO] at hr
      split at hr
      · rename_i k e ht
        refine ⟨_, _, hr, rfl, fun ρ N a w ha r hd => ?_⟩
        have hold : ∀ b, b < w.heap.size → (w.heap.push (.map #[] 0))[b]? = w.heap[b]? := fun b hb => by
          rw [Array.getElem?_push, if_neg (by omega)]
        refine ⟨.map (some w.heap.size), { w with heap := w.heap.push (.map #[] 0) }, ⟨w.heap.size, 0, 0, 0⟩, ?_, rfl, .mp _ _ (Rho.add_self _ _ _), Rel.push r hd (Nat.le_refl _) hold ?_, hd.add _, Since.push r hd (Nat.le_refl _) rfl rfl rfl (by simp) hold⟩
        · simp [execOp, Instr.makeMap]
        · exact ⟨#[], 0, by simp, rfl, by simp, by simp, fun j kv m h1 h2 => by simp at h2⟩
      · exact hr.elim
  | _ => exact hr.elim
end
end Go.Ab
