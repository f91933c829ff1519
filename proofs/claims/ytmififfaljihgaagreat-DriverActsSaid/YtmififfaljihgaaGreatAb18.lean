/- The same transformers by recursors: what is evaluated, and what the kernel sees, are then one and the same term. -/
import Derived.Test.YtmififfaljihgaaGreatAb17
set_option linter.unusedVariables false
namespace Go.Ab
open Go
noncomputable def wpN' (P : Program) (T : TT) (ops : Array Oper) (l : List Oper) : Env → H → (Env → H → Prop) → Prop :=
  List.rec (motive := fun _ => Env → H → (Env → H → Prop) → Prop) (fun env h K => K env h)
    (fun o _ ih env h K => guardW ops o env fun env go => match go with
      | true => opO P T o env h fun v h' => put env o.dst v fun env => ih env h' K
      | false => put env o.dst (.tup []) fun env => ih env h K) l
theorem wpN'_eq {P : Program} {T : TT} {ops : Array Oper} : ∀ (l : List Oper) (env : Env) (h : H) (K : Env → H → Prop), wpN' P T ops l env h K = wpN P T ops l env h K
  | [], _, _, _ => rfl
  | o :: r, env, h, K => by
    have ih : wpN' P T ops r = wpN P T ops r := by
      funext env h K
      exact wpN'_eq r env h K
    show (guardW ops o env fun env go => match go with
      | true => opO P T o env h fun v h' => put env o.dst v fun env => wpN' P T ops r env h' K
      | false => put env o.dst (.tup []) fun env => wpN' P T ops r env h K) = _
    rw [ih]
    rfl
noncomputable def wpD' (P : Program) (T : TT) (ops : Array Oper) (B : List Nat) (l : List Nat) : List Pend → Env → H → (Env → H → Prop) → Prop :=
  List.rec (motive := fun _ => List Pend → Env → H → (Env → H → Prop) → Prop) (fun _ env h K => K env h)
    (fun i _ ih pend env h K => match ops[i]? with
      | none => False
      | some o => guardW ops o env fun env go => match go with
        | false => put env o.dst (.tup []) fun env => ih pend env h K
        | true => match cls T o.op with
          | .p => pO T o (restr env (o.looksAt ops)) fun v => put env o.dst v fun env => ih pend env h K
          | .r => rO T o (restr env (o.looksAt ops)) h fun v => put env o.dst v fun env' => ih (⟨i, o, restr env (o.looksAt ops), v⟩ :: pend) env' h K
          | .a => aO T o (restr env (o.looksAt ops)) h fun v h' => put env o.dst v fun env => ih pend env h' K
          | .c => cO P T o (restr env (o.looksAt ops)) h fun v h' => put env o.dst v fun env => still T (B.getD i 0) h' pend (ih pend env h' K)) l
theorem wpD'_eq {P : Program} {T : TT} {ops : Array Oper} {B : List Nat} : ∀ (l : List Nat) (pend : List Pend) (env : Env) (h : H) (K : Env → H → Prop), wpD' P T ops B l pend env h K = wpD P T ops B l pend env h K
  | [], _, _, _, _ => rfl
  | i :: r, pend, env, h, K => by
    have ih : wpD' P T ops B r = wpD P T ops B r := by
      funext pend env h K
      exact wpD'_eq r pend env h K
    show (match ops[i]? with
      | none => False
      | some o => guardW ops o env fun env go => match go with
        | false => put env o.dst (.tup []) fun env => wpD' P T ops B r pend env h K
        | true => match cls T o.op with
          | .p => pO T o (restr env (o.looksAt ops)) fun v => put env o.dst v fun env => wpD' P T ops B r pend env h K
          | .r => rO T o (restr env (o.looksAt ops)) h fun v => put env o.dst v fun env' => wpD' P T ops B r (⟨i, o, restr env (o.looksAt ops), v⟩ :: pend) env' h K
          | .a => aO T o (restr env (o.looksAt ops)) h fun v h' => put env o.dst v fun env => wpD' P T ops B r pend env h' K
          | .c => cO P T o (restr env (o.looksAt ops)) h fun v h' => put env o.dst v fun env => still T (B.getD i 0) h' pend (wpD' P T ops B r pend env h' K)) = _
    rw [ih]
    rfl
noncomputable def wpReg' (P : Program) (T : TT) (f : Nat) : Array Oper → Env → H → (Env → H → Prop) → Prop :=
  Nat.rec (motive := fun _ => Array Oper → Env → H → (Env → H → Prop) → Prop) (fun _ _ _ _ => False)
    (fun _ ih ops env h K => ∃ L B, match L, B with
      | [], [a, b] => Nat.beq a b = false ∧ ih (addE ops a b) env h K ∧ ih (addE ops b a) env h K
      | L, B => dOk T ops L B = true ∧ wpD' P T ops B L [] env h K) f
theorem wpReg'_eq {P : Program} {T : TT} : ∀ (f : Nat), wpReg' P T f = wpReg P T f
  | 0 => rfl
  | f + 1 => by
    funext ops env h K
    have ih := wpReg'_eq (P := P) (T := T) f
    have hd : wpD' P T = wpD P T := by
      funext ops B l pend env h K
      exact wpD'_eq l pend env h K
    show (∃ L B, match L, B with
      | [], [a, b] => Nat.beq a b = false ∧ wpReg' P T f (addE ops a b) env h K ∧ wpReg' P T f (addE ops b a) env h K
      | L, B => dOk T ops L B = true ∧ wpD' P T ops B L [] env h K) = _
    rw [ih, hd]
    rfl
noncomputable def wpC' (P : Program) (T : TT) (c : Code) : (X → Env → H → Prop) → Env → H → Prop :=
  Code.rec (motive := fun _ => (X → Env → H → Prop) → Env → H → Prop)
    (fun Q env h => Q .norm env h)
    (fun _ ops draw Q env h => match draw with
      | false => wpN' P T ops ops.toList env h fun env h => Q .norm env h
      | true => wpReg' P T 6 ops env h fun env h => Q .norm env h)
    (fun _ _ ia ib Q env h => ia (thenX (ib Q) Q) env h)
    (fun c _ _ ix iy Q env h => match opv env c with
      | .bool g => br g (ix Q env h) (iy Q env h)
      | _ => False)
    (fun id _ ic Q env h => ic (inBlk id Q) env h)
    (fun _ ic Q env h => ∃ (I : Env → H → Prop) (μ : Env → H → Nat), (∃ env0, Forget env env0 ∧ I env0 h) ∧ ∀ env h, I env h → ic (thenX (fun env' h' => ∃ env'', Forget env' env'' ∧ I env'' h' ∧ μ env'' h' < μ env h) Q) env h)
    (fun _ _ _ _ _ _ Q env h => False)
    (fun id Q env h => Q (.exit id) env h)
    (fun _ _ Q env h => False)
    (fun _ Q env h => False)
    (fun _ Q env h => False)
    (fun Q env h => Q .ret env h)
    (fun _ Q env h => False) c
theorem wpC'_eq {P : Program} {T : TT} : ∀ c : Code, wpC' P T c = wpC P T c := by
  intro c
  induction c with
  | skip => rfl
  | region id ops draw =>
    funext Q env h
    cases draw with
    | false => exact wpN'_eq _ _ _ _
    | true =>
      show wpReg' P T 6 ops env h (fun env h => Q .norm env h) = _
      rw [wpReg'_eq]
      rfl
  | seq a b ia ib =>
    funext Q env h
    show wpC' P T a (thenX (wpC' P T b Q) Q) env h = _
    rw [ia, ib]
    rfl
  | cond c x y ix iy =>
    funext Q env h
    show (match opv env c with
      | .bool g => br g (wpC' P T x Q env h) (wpC' P T y Q env h)
      | _ => False) = _
    rw [ix, iy]
    rfl
  | block id c ic =>
    funext Q env h
    show wpC' P T c (inBlk id Q) env h = _
    rw [ic]
    rfl
  | loop c ic =>
    funext Q env h
    show (∃ (I : Env → H → Prop) (μ : Env → H → Nat), (∃ env0, Forget env env0 ∧ I env0 h) ∧ ∀ env h, I env h → wpC' P T c (thenX (fun env' h' => ∃ env'', Forget env' env'' ∧ I env'' h' ∧ μ env'' h' < μ env h) Q) env h) = _
    rw [ic]
    rfl
  | rangeFunc f ps a b ia ib => rfl
  | exit id => rfl
  | scope c ic => rfl
  | label l => rfl
  | goto l => rfl
  | ret => rfl
  | refuse w => rfl
theorem acalls_of' {P : Program} {T : TT} (hT : TOk P T) (hE : EqOk P T) (hm : P.follows .mixedOrders = true) {f : Nat} {fn : Func} {c : Code} {args : List V} {h : H} {Q : V → H → Prop} (hf : P.funcs[f]? = some fn) (hb : fn.body = some c) (hname : (fn.name == "runtime.NumGoroutine") = false)
    (hok : (codeOk fn.ntmps c && Nat.ble args.length fn.ntmps) = true) (hw : wpC' P T c (bodyX T fn.results.toList Q) (argsE 0 args) h) : ACalls P f args h Q := by
  rw [wpC'_eq] at hw
  exact acalls_of hT hE hm hf hb hname hok hw
end Go.Ab
