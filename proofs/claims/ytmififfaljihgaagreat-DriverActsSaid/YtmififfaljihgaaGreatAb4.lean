/- Operations that look at no memory: soundness. -/
import Derived.Test.YtmififfaljihgaaGreatAb3
import Derived.Laws.Strings
set_option linter.unusedVariables false
set_option linter.unusedSimpArgs false
namespace Go.Ab
open Go

/-- The operation gives v, in whatever world. -/
def PSem (P : Program) (o : Oper) (env : Env) (v : V) : Prop := ∀ ρ N (a : Act) (w : World), ERel ρ N env a → ∃ u, (execOp a.eval o).run P w = .ok (.value u) w ∧ VRel ρ v u

theorem intBin_sound {P : Program} {op : BinOp} {k k' : IntKind} {a b : Int} {K : V → Prop} (h : intBin op k k' a b K) (t : TypeId) : ∃ v, K v ∧ ∀ ρ (w : World), ∃ u, (binOp op t (.int k a) (.int k' b)).run P w = .ok u w ∧ VRel ρ v u := by
  cases op <;> simp only [intBin, chk_iff] at h
  case add => obtain ⟨hk, h⟩ := h; cases kEq_eq hk; exact ⟨_, h, fun ρ w => ⟨_, by simp [binOp, Op.intArith], .int _ _⟩⟩
  case sub => obtain ⟨hk, h⟩ := h; cases kEq_eq hk; exact ⟨_, h, fun ρ w => ⟨_, by simp [binOp, Op.intArith], .int _ _⟩⟩
  case mul => obtain ⟨hk, h⟩ := h; cases kEq_eq hk; exact ⟨_, h, fun ρ w => ⟨_, by simp [binOp, Op.intArith], .int _ _⟩⟩
  case quo => obtain ⟨hk, hb, h⟩ := h; cases kEq_eq hk; exact ⟨_, h, fun ρ w => ⟨_, by simp [binOp, Op.intDiv, hb], .int _ _⟩⟩
  case rem => obtain ⟨hk, hb, h⟩ := h; cases kEq_eq hk; exact ⟨_, h, fun ρ w => ⟨_, by simp [binOp, Op.intDiv, hb], .int _ _⟩⟩
  case and => obtain ⟨hk, h⟩ := h; cases kEq_eq hk; exact ⟨_, h, fun ρ w => ⟨_, by simp [binOp, Op.intBits], .int _ _⟩⟩
  case or => obtain ⟨hk, h⟩ := h; cases kEq_eq hk; exact ⟨_, h, fun ρ w => ⟨_, by simp [binOp, Op.intBits], .int _ _⟩⟩
  case xor => obtain ⟨hk, h⟩ := h; cases kEq_eq hk; exact ⟨_, h, fun ρ w => ⟨_, by simp [binOp, Op.intBits], .int _ _⟩⟩
  case andNot => obtain ⟨hk, h⟩ := h; cases kEq_eq hk; exact ⟨_, h, fun ρ w => ⟨_, by simp [binOp, Op.intBits], .int _ _⟩⟩
  case shl => obtain ⟨hb, h⟩ := h; exact ⟨_, h, fun ρ w => ⟨_, by simp [binOp, Op.shift, show ¬ b < 0 by omega], .int _ _⟩⟩
  case shr => obtain ⟨hb, h⟩ := h; exact ⟨_, h, fun ρ w => ⟨_, by simp [binOp, Op.shift, show ¬ b < 0 by omega], .int _ _⟩⟩
  case eql => obtain ⟨hk, h⟩ := h; cases kEq_eq hk; exact ⟨_, h, fun ρ w => ⟨_, by simp [binOp, Op.intCmp], .bool _⟩⟩
  case neq => obtain ⟨hk, h⟩ := h; cases kEq_eq hk; exact ⟨_, h, fun ρ w => ⟨_, by simp [binOp, Op.intCmp], .bool _⟩⟩
  case lss => obtain ⟨hk, h⟩ := h; cases kEq_eq hk; exact ⟨_, h, fun ρ w => ⟨_, by simp [binOp, Op.intCmp], .bool _⟩⟩
  case leq => obtain ⟨hk, h⟩ := h; cases kEq_eq hk; exact ⟨_, h, fun ρ w => ⟨_, by simp [binOp, Op.intCmp], .bool _⟩⟩
  case gtr => obtain ⟨hk, h⟩ := h; cases kEq_eq hk; exact ⟨_, h, fun ρ w => ⟨_, by simp [binOp, Op.intCmp], .bool _⟩⟩
  case geq => obtain ⟨hk, h⟩ := h; cases kEq_eq hk; exact ⟨_, h, fun ρ w => ⟨_, by simp [binOp, Op.intCmp], .bool _⟩⟩

def sInts (b : ByteArray) : List Int := b.data.toList.map fun b => (b.toNat : Int)
theorem map_toNat_inj : ∀ (a b : List UInt8), (a.map fun b => (b.toNat : Int)) = (b.map fun b => (b.toNat : Int)) → a = b
  | [], [], _ => rfl
  | [], _ :: _, h => by simp at h
  | _ :: _, [], h => by simp at h
  | x :: a, y :: b, h => by
    simp only [List.map_cons, List.cons.injEq] at h
    have h1 : x = y := UInt8.toNat_inj.1 (by omega)
    rw [h1, map_toNat_inj a b h.2]
theorem bytes_eq (a b : ByteArray) : (a.toList == b.toList) = (sInts a == sInts b) := by
  rw [ByteArray.toList_eq, ByteArray.toList_eq, Bool.eq_iff_iff, beq_iff_eq, beq_iff_eq]
  exact ⟨fun h => by unfold sInts; rw [h], fun h => map_toNat_inj _ _ h⟩
/-- What the comparison of two structs of integers and bools needs of a type. -/
def EqOk (P : Program) (T : TT) : Prop := ∀ t fs, (T.at_ t).d = .st fs → flatTy T 0 fs = true → ∀ ρ xs ys a b, flat T fs xs = some a → flat T fs ys = some b →
  ∀ (x y : Operand) u1 u2 (w : World), VRel ρ (.agg xs) u1 → VRel ρ (.agg ys) u2 → (eqGuard .eql t x y u1 u2).run P w = .ok () w ∧ (eqGuard .neq t x y u1 u2).run P w = .ok () w ∧ (Op.equal t u1 u2).run P w = .ok (a == b) w ∧ ∃ c1 c2, u1 = .agg c1 ∧ u2 = .agg c2

theorem eqGuard_other {P : Program} {op : BinOp} {t : TypeId} {x y : Operand} {a b : Value} {w : World} (h2 : ∀ c, a ≠ .agg c) (h3 : a ≠ .nilIface) : (eqGuard op t x y a b).run P w = .ok () w := by
  cases a <;> first
    | exact absurd rfl h3
    | exact absurd rfl (h2 _)
    | (cases op <;> rfl)
section
variable {P : Program} {t e k : TypeId} {w : World}
theorem In_equal_bool (ht : P.underlying t = some .bool) (d : Nat) (a b : Bool) : (Op.equalIn (d + 1) t (.bool a) (.bool b)).run P w = .ok (a == b) w := by
  simp only [Op.equalIn, Sem.run_bind, run_underlying ht, Result.andThen_ok, Sem.run_pure]
theorem equal_bool (ht : P.underlying t = some .bool) (a b : Bool) : (Op.equal t (.bool a) (.bool b)).run P w = .ok (a == b) w := In_equal_bool ht 9999 a b
theorem In_equal_ptr_nil (ht : P.underlying t = some (.pointer e)) (d : Nat) (a : Option Addr) : (Op.equalIn (d + 1) t (.pointer a) (.pointer none)).run P w = .ok a.isNone w := by
  cases a <;> simp only [Op.equalIn, Sem.run_bind, run_underlying ht, Result.andThen_ok, Sem.run_pure] <;> rfl
theorem equal_ptr_nil (ht : P.underlying t = some (.pointer e)) (a : Option Addr) : (Op.equal t (.pointer a) (.pointer none)).run P w = .ok a.isNone w := In_equal_ptr_nil ht 9999 a
theorem In_equal_nil_ptr (ht : P.underlying t = some (.pointer e)) (d : Nat) (a : Option Addr) : (Op.equalIn (d + 1) t (.pointer none) (.pointer a)).run P w = .ok a.isNone w := by
  cases a <;> simp only [Op.equalIn, Sem.run_bind, run_underlying ht, Result.andThen_ok, Sem.run_pure]
theorem equal_nil_ptr (ht : P.underlying t = some (.pointer e)) (a : Option Addr) : (Op.equal t (.pointer none) (.pointer a)).run P w = .ok a.isNone w := In_equal_nil_ptr ht 9999 a
theorem In_equal_sl_nil (ht : P.underlying t = some (.slice e)) (d : Nat) (a : Option Addr) (n c n' c' : Nat) : (Op.equalIn (d + 1) t (.slice a n c) (.slice none n' c')).run P w = .ok a.isNone w := by
  cases a <;> simp only [Op.equalIn, Sem.run_bind, run_underlying ht, Result.andThen_ok, Sem.run_pure] <;> rfl
theorem equal_sl_nil (ht : P.underlying t = some (.slice e)) (a : Option Addr) (n c n' c' : Nat) : (Op.equal t (.slice a n c) (.slice none n' c')).run P w = .ok a.isNone w := In_equal_sl_nil ht 9999 a n c n' c'
theorem In_equal_mp_nil (ht : P.underlying t = some (.map k e)) (d : Nat) (a : Option Nat) : (Op.equalIn (d + 1) t (.map a) (.map none)).run P w = .ok a.isNone w := by
  cases a <;> simp only [Op.equalIn, Sem.run_bind, run_underlying ht, Result.andThen_ok, Sem.run_pure] <;> rfl
theorem equal_mp_nil (ht : P.underlying t = some (.map k e)) (a : Option Nat) : (Op.equal t (.map a) (.map none)).run P w = .ok a.isNone w := In_equal_mp_nil ht 9999 a
end
theorem eqB_sound {P : Program} {T : TT} (hT : TOk P T) (hE : EqOk P T) {t : Nat} {x y : V} {K : Bool → Prop} (h : eqB T t x y K) (ho : ∀ k n k' m, ¬ (x = .int k n ∧ y = .int k' m)) :
    ∃ b, K b ∧ ∀ ρ (xo yo : Operand) u1 u2 (w : World), VRel ρ x u1 → VRel ρ y u2 →
      (do eqGuard .eql t xo yo u1 u2; binOp .eql t u1 u2 : Sem Value).run P w = .ok (.bool b) w ∧ (do eqGuard .neq t xo yo u1 u2; binOp .neq t u1 u2 : Sem Value).run P w = .ok (.bool (!b)) w := by
  unfold eqB at h
  split at h
  · -- bools
    split at h
    · rename_i a b ht
      refine ⟨_, h, fun ρ xo yo u1 u2 w r1 r2 => ?_⟩
      rw [r1.bool_inv, r2.bool_inv]
      simp [eqGuard_other, binOp, equal_bool (hT.of_bool ht)]
    · exact h.elim
  · -- strings
    refine ⟨_, h, fun ρ xo yo u1 u2 w r1 r2 => ?_⟩
    obtain ⟨s1, rfl, rfl⟩ := r1.str_inv
    obtain ⟨s2, rfl, rfl⟩ := r2.str_inv
    have := bytes_eq s1 s2
    unfold sInts at this
    rw [← this]
    simp [eqGuard_other, binOp, Op.stringOp]
  · -- a pointer and nil
    split at h
    · rename_i p e ht
      refine ⟨_, h, fun ρ xo yo u1 u2 w r1 r2 => ?_⟩
      rw [r2.nilp_inv]
      obtain ⟨a, rfl, ha⟩ := r1.ptr_opt
      rw [← ha]
      simp [eqGuard_other, binOp, equal_ptr_nil (hT.of_ptr ht), equal_nil_ptr (hT.of_ptr ht)]
    · exact h.elim
  · split at h
    · rename_i p e _ _ ht
      refine ⟨_, h, fun ρ xo yo u1 u2 w r1 r2 => ?_⟩
      rw [r1.nilp_inv]
      obtain ⟨a, rfl, ha⟩ := r2.ptr_opt
      rw [← ha]
      simp [eqGuard_other, binOp, equal_ptr_nil (hT.of_ptr ht), equal_nil_ptr (hT.of_ptr ht)]
    · exact h.elim
  · -- a slice and nil
    split at h
    · rename_i p _ _ e ht
      refine ⟨_, h, fun ρ xo yo u1 u2 w r1 r2 => ?_⟩
      have h2 : ∃ n c, u2 = .slice none n c := by
        rcases r2.sl_inv with ⟨_, _, rfl⟩ | ⟨_, _, _, _, _, h, _⟩
        · exact ⟨_, _, rfl⟩
        · cases h
      obtain ⟨n2, c2, rfl⟩ := h2
      rcases r1.sl_inv with ⟨rfl, _, rfl⟩ | ⟨i, o, cap, a, l, rfl, rfl, _⟩ <;> simp [eqGuard_other, binOp, equal_sl_nil (hT.of_sl ht)]
    · exact h.elim
  · -- a map and nil
    split at h
    · rename_i p k e ht
      refine ⟨_, h, fun ρ xo yo u1 u2 w r1 r2 => ?_⟩
      have h2 : u2 = .map none := by
        rcases r2.mp_inv with ⟨_, rfl⟩ | ⟨_, _, h, _⟩
        · rfl
        · cases h
      subst h2
      rcases r1.mp_inv with ⟨rfl, rfl⟩ | ⟨i, l, rfl, rfl, _⟩ <;> simp [eqGuard_other, binOp, equal_mp_nil (hT.of_mp ht)]
    · exact h.elim
  · -- structs
    rename_i xs ys
    split at h
    · rename_i fs ht
      rw [chk_iff] at h
      obtain ⟨hf, a, b, ha, hb, h⟩ := h
      refine ⟨_, h, fun ρ xo yo u1 u2 w r1 r2 => ?_⟩
      obtain ⟨g1, g2, g3, c1, c2, rfl, rfl⟩ := hE t fs ht hf ρ xs ys a b ha hb xo yo u1 u2 w r1 r2
      constructor
      · simp [g1, binOp, g3]
      · simp [g2, binOp, g3]
    · exact h.elim
  · exact h.elim
end Go.Ab
