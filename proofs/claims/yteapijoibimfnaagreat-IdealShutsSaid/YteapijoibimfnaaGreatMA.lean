/- MA: several texts in one. -/
import Derived.Orders
import Derived.Below
import Derived.KernelRfl
import Derived.Laws.Sem
import Derived.Laws.AppendOwn
import Derived.Laws.CopyRow
import Derived.Laws.Cells
import Derived.Laws.Entries
import Derived.Laws.IdiomCopy
import Derived.DeepKeys3
import Derived.Laws.Strings
import Derived.MapKept
import Derived.Maps.RangeRun
import Derived.WideKeyPair
import Derived.WideKeyEntry
import Derived.Laws.BytesArg
set_option linter.unusedVariables false
set_option linter.unusedSimpArgs false
/-! A small logic over the model: Go code read on an abstract memory (objects by number, slices without capacity, no order of evaluation left open). Definitions. -/
namespace Go.Ab
open Go

/-! ### Values -/
inductive V where
  | int (k : IntKind) (n : Int)
  | bool (b : Bool)
  | str (s : List Int)
  | ptr (p : Option (Nat × Nat))
  | sl (p : Option (Nat × Nat)) (n : Nat)
  | mp (r : Option Nat)
  | fn (f : Nat)
  | clo (f : Nat) (caps : List V)
  | clz (f : Nat) (i : Nat)
  | agg (cs : List V)
  | tup (vs : List V)
  | undef

abbrev i64 (n : Int) : V := .int .i64 n
def ints (k : IntKind) (xs : List Int) : List V := xs.map (V.int k)

/-- An integer, whatever its kind, made to show itself. -/
def fv (v : V) (K : V → Prop) : Prop :=
  match v with
  | .int k n => K (.int k n)
  | .bool b => K (.bool b)
  | .str s => K (.str s)
  | .ptr p => K (.ptr p)
  | .sl p n => K (.sl p n)
  | .mp r => K (.mp r)
  | .fn f => K (.fn f)
  | .clo f c => K (.clo f c)
  | .clz f i => K (.clz f i)
  | .agg cs => K (.agg cs)
  | .tup vs => K (.tup vs)
  | .undef => K .undef
def br (b : Bool) (X Y : Prop) : Prop :=
  match b with
  | true => X
  | false => Y

def chk (b : Bool) (X : Prop) : Prop :=
  match b with
  | true => X
  | false => False
def kEq (a b : IntKind) : Bool :=
  match a, b with
  | .i8, .i8 | .i16, .i16 | .i32, .i32 | .i64, .i64 | .u8, .u8 | .u16, .u16 | .u32, .u32 | .u64, .u64 => true
  | _, _ => false

/-! ### Memory -/
inductive Obj where
  | row (own : Bool) (sz : Nat) (cs : List V)
  | map (own : Bool) (es : List (V × V))
  /-- a map of one's own, and each entry's number, and the number of the next one -/
  | mapb (es : List (V × V)) (bs : List Nat) (cl : Nat)
  /-- who goes through map i -/
  | itr (i since : Nat) (seen : List Nat) (last : Nat)
def Obj.own : Obj → Bool
  | .row o _ _ => o
  | .map o _ => o
  | .mapb _ _ _ => true
  | .itr _ _ _ _ => true
structure H where
  next : Nat
  obj : Nat → Option Obj
  lt : ∀ i ob, obj i = some ob → i < next
def H.push (h : H) (ob : Obj) : H where
  next := h.next + 1
  obj := fun i => if i = h.next then some ob else h.obj i
  lt := fun i ob' hh => by
    split at hh
    · omega
    · have := h.lt i ob' hh
      omega
def H.set (h : H) (i : Nat) (ob : Obj) : H where
  next := h.next
  obj := fun j => if j = i then (h.obj i).map (fun _ => ob) else h.obj j
  lt := fun j ob' hh => by
    split at hh
    · rename_i e
      subst e
      cases hi : h.obj j with
      | none => simp [hi] at hh
      | some o => exact h.lt j o hi
    · exact h.lt j ob' hh
def H.kill (h : H) (i : Nat) : H where
  next := h.next
  obj := fun j => if j = i then none else h.obj j
  lt := fun j ob' hh => by
    split at hh
    · cases hh
    · exact h.lt j ob' hh

def Cell (h : H) (i off : Nat) (v : V) : Prop := ∃ o sz cs, h.obj i = some (.row o sz cs) ∧ cs[off]? = some v
def Cells (h : H) (i off n : Nat) (vs : List V) : Prop := ∃ o sz cs, h.obj i = some (.row o sz cs) ∧ off + n ≤ cs.length ∧ (cs.drop off).take n = vs
/-- A slice that reads as these cells; own: it may be written and appended to. -/
def SlIs (h : H) (p : Option (Nat × Nat)) (n : Nat) (own : Bool) (sz : Nat) (cs : List V) : Prop :=
  cs.length = n * sz ∧ ((n = 0 ∧ (p = none ∨ own = false)) ∨ ∃ i o o' rest, p = some (i, o) ∧ h.obj i = some (.row o' sz rest) ∧ (own = true → o' = true) ∧ o + n * sz ≤ rest.length ∧ (rest.drop o).take (n * sz) = cs)
/-- What is not in S, and what is not one's own, is as it was. -/
structure Mod (S : Nat → Prop) (h h' : H) : Prop where
  next : h.next ≤ h'.next
  obj : ∀ i, i < h.next → (¬ S i ∨ ∃ ob, h.obj i = some ob ∧ ob.own = false) → h'.obj i = h.obj i

/-! ### What stands for what -/
structure Loc where
  b : Nat
  o : Nat
  lim : Nat
  sz : Nat
abbrev Rho := Nat → Option Loc
inductive VRel (ρ : Rho) : V → Value → Prop where
  | undef (u : Value) : VRel ρ .undef u
  | int (k : IntKind) (n : Int) : VRel ρ (.int k n) (.int k n)
  | bool (b : Bool) : VRel ρ (.bool b) (.bool b)
  | str (s : ByteArray) : VRel ρ (.str (s.data.toList.map fun b => (b.toNat : Int))) (.string s)
  | nilp : VRel ρ (.ptr none) (.pointer none)
  | ptr (i o : Nat) (l : Loc) (h : ρ i = some l) : VRel ρ (.ptr (some (i, o))) (.pointer (some ⟨l.b, l.o + o, none⟩))
  | nils : VRel ρ (.sl none 0) (.slice none 0 0)
  | sl (i o n cap : Nat) (a : Addr) (l : Loc) (h : ρ i = some l) (hn : n ≤ cap) (hm : cap ≤ maxLen) (ha : 0 < cap → a = ⟨l.b, l.o + o, none⟩) (hl : o + cap * l.sz ≤ l.lim) : VRel ρ (.sl (some (i, o)) n) (.slice (some a) n cap)
  | nilm : VRel ρ (.mp none) (.map none)
  | mp (i : Nat) (l : Loc) (h : ρ i = some l) : VRel ρ (.mp (some i)) (.map (some l.b))
  | fn (f : Nat) : VRel ρ (.fn f) (.func (.func f) #[] #[])
  | clo (f : Nat) (cs : List V) (us : List Value) (hl : cs.length = us.length) (hc : ∀ (j : Nat) (c : V) (u : Value), cs[j]? = some c → us[j]? = some u → VRel ρ c u) : VRel ρ (.clo f cs) (.func (.func f) #[] us.toArray)
  | clz (f i : Nat) (l : Loc) (h : ρ i = some l) (h0 : l.o = 0) : VRel ρ (.clz f i) (.func (.func f) #[] #[.pointer (some ⟨l.b, 0, none⟩)])
  | agg (cs : List V) (us : List Value) (h1 : ∀ u ∈ us, u.oneCell' = true) (hl : cs.length = us.length) (hc : ∀ (j : Nat) (c : V) (u : Value), cs[j]? = some c → us[j]? = some u → VRel ρ c u) : VRel ρ (.agg cs) (.agg us.toArray)
  | tup (cs : List V) (us : List Value) (hl : cs.length = us.length) (hc : ∀ (j : Nat) (c : V) (u : Value), cs[j]? = some c → us[j]? = some u → VRel ρ c u) : VRel ρ (.tup cs) (.tuple us.toArray)
def VsRel (ρ : Rho) (cs : List V) (us : List Value) : Prop := cs.length = us.length ∧ ∀ (j : Nat) (c : V) (u : Value), cs[j]? = some c → us[j]? = some u → VRel ρ c u
/-- no cell of n is frozen -/
def frOk (fr : Nat × Nat) (n : Nat) : Prop := fr = (0, 0) ∨ n ≤ fr.1
theorem frOk.no {f1 f2 n o : Nat} (h : frOk (f1, f2) n) (ho : o < n) : ¬ (f1 ≤ o ∧ o < f2) := fun ⟨a, b⟩ => by
  rcases h with k | k
  · injection k with k1 k2
    omega
  · simp only at k
    omega
def ObjRel (ρ : Rho) (w : World) (l : Loc) : Obj → Prop
  | .row own sz cs => l.sz = sz ∧ cs.length ≤ l.lim ∧ ∃ cells e fr, w.heap[l.b]? = some (.cells cells e fr) ∧ l.o + l.lim ≤ cells.size ∧ (own = true → frOk fr cells.size) ∧
      ∀ (j : Nat) (c : V), cs[j]? = some c → ∃ u, cells[l.o + j]? = some u ∧ u.oneCell' = true ∧ VRel ρ c u
  | .map _ es => ∃ ms clock, w.heap[l.b]? = some (.map ms clock) ∧ ms.size = es.length ∧ (∀ e ∈ ms, e.born < clock) ∧ (ms.toList.map (·.born)).Nodup ∧
      ∀ (j : Nat) (kv : V × V) (m : MapEntry), es[j]? = some kv → ms[j]? = some m → VRel ρ kv.1 m.key ∧ VRel ρ kv.2 m.val
  | .mapb es bs cl => ∃ ms, w.heap[l.b]? = some (.map ms cl) ∧ ms.size = es.length ∧ (∀ e ∈ ms, e.born < cl) ∧ ms.toList.map (·.born) = bs ∧ bs.Nodup ∧
      ∀ (j : Nat) (kv : V × V) (m : MapEntry), es[j]? = some kv → ms[j]? = some m → VRel ρ kv.1 m.key ∧ VRel ρ kv.2 m.val
  | .itr i since seen last => ∃ lm, ρ i = some lm ∧ l.o = 0 ∧ w.heap[l.b]? = some (.mapIter (some lm.b) since seen.toArray last)
structure Rel (ρ : Rho) (h : H) (w : World) : Prop where
  obj : ∀ i ob, h.obj i = some ob → ∃ l, ρ i = some l ∧ ObjRel ρ w l ob
  sep : ∀ i j oi oj li lj, h.obj i = some oi → h.obj j = some oj → oi.own = true → i ≠ j → ρ i = some li → ρ j = some lj → li.b ≠ lj.b
def Dom (ρ : Rho) (n : Nat) : Prop := ∀ i, n ≤ i → ρ i = none
/-- From (ρ, h, w) on to (ρ', h', w'): what is not one's own has not turned. -/
structure Since (ρ : Rho) (h : H) (w : World) (ρ' : Rho) (h' : H) (w' : World) : Prop where
  ext : ∀ i l, ρ i = some l → ρ' i = some l
  os : w'.os = w.os
  tape : w'.tape = w.tape
  output : w'.output = w.output
  size : w.heap.size ≤ w'.heap.size
  next : h.next ≤ h'.next
  frame : ∀ b, b < w.heap.size → (∀ i ob l, h.obj i = some ob → ob.own = true → ρ i = some l → l.b ≠ b) → w'.heap[b]? = w.heap[b]?
  own : ∀ i ob l, h'.obj i = some ob → ob.own = true → ρ' i = some l → (∃ j oj lj, h.obj j = some oj ∧ oj.own = true ∧ ρ j = some lj ∧ lj.b = l.b) ∨ w.heap.size ≤ l.b

def Callable (P : Program) (f : Nat) : Prop := ∃ fn, P.funcs[f]? = some fn ∧ fn.body.isNone = false ∧ (fn.name == "runtime.NumGoroutine") = false
/-- A call, on the abstract memory. -/
def ACalls (P : Program) (f : Nat) (args : List V) (h : H) (Q : V → H → Prop) : Prop :=
  Callable P f ∧ ∀ ρ w vs, Rel ρ h w → Dom ρ h.next → VsRel ρ args vs → Calls P f vs.toArray w fun e w' => ∃ r h' ρ' u, e = .returned u ∧ Q r h' ∧ VRel ρ' r u ∧ Rel ρ' h' w' ∧ Dom ρ' h'.next ∧ Since ρ h w ρ' h' w'

/-- known, and no list of results. -/
def isV : V → Bool
  | .undef => false
  | .tup _ => false
  | _ => true

/-! ### Types -/
inductive TD where
  | bool | int (k : IntKind) | str | ptr (e : Nat) | sl (e : Nat) | mp (k e : Nat) | st (fs : List (Nat × Nat)) | arr (n e : Nat) | other
structure TI where
  d : TD
  size : Nat
  bytes : Nat
  zero : V
abbrev TT := List (Nat × TI)
def TT.at_ : TT → Nat → TI
  | [], _ => ⟨.other, 0, 0, .undef⟩
  | (t, i) :: r, n => match Nat.beq t n with
    | true => i
    | false => TT.at_ r n
def vcells : V → List V
  | .agg cs => cs
  | v => [v]
def elemOf (T : TT) (t : Nat) : Nat :=
  match (T.at_ t).d with
  | .sl e => e
  | .arr _ e => e
  | _ => 0
/-- is it in the table? -/
def has (T : TT) (t : Nat) : Bool :=
  match (T.at_ t).d with
  | .other => false
  | _ => true
inductive AK where
  | agg | one | no
def aggK (T : TT) (t : Nat) : AK :=
  match (T.at_ t).d with
  | .st _ => .agg
  | .arr _ _ => .agg
  | .other => .no
  | _ => .one

/-! ### The temporaries -/
abbrev Env := List (Nat × V)
def get : Env → Nat → V
  | [], _ => .undef
  | (t, v) :: e, n => match Nat.beq t n with
    | true => v
    | false => get e n
def put (env : Env) (d : Option Nat) (v : V) (K : Env → Prop) : Prop :=
  match d with
  | some t => K ((t, v) :: env)
  | none => K env
/-- env' knows no more than env. -/
def Forget (env env' : Env) : Prop := ∀ t, get env' t = .undef ∨ get env' t = get env t
def ofCell : Value → V
  | .int k n => .int k n
  | .bool b => .bool b
  | .string s => .str (s.data.toList.map fun b => (b.toNat : Int))
  | .pointer none => .ptr none
  | .slice none 0 0 => .sl none 0
  | .map none => .mp none
  | _ => .undef
def ofConst : Value → V
  | .agg cs => (match cs.toList.all Value.oneCell' with
    | true => .agg (cs.toList.map ofCell)
    | false => .undef)
  | v => ofCell v
def opv (env : Env) : Operand → V
  | .tmp t => get env t
  | .const v => ofConst v
  | .global _ => .undef
  | .func f => .fn f

/-! ### Operations that look at no memory -/
def intBin (op : BinOp) (k k' : IntKind) (a b : Int) (K : V → Prop) : Prop :=
  match op with
  | .add => chk (kEq k k') (K (.int k (k.wrap (a + b))))
  | .sub => chk (kEq k k') (K (.int k (k.wrap (a - b))))
  | .mul => chk (kEq k k') (K (.int k (k.wrap (a * b))))
  | .quo => chk (kEq k k') (b ≠ 0 ∧ K (.int k (k.wrap (a.tdiv b))))
  | .rem => chk (kEq k k') (b ≠ 0 ∧ K (.int k (a.tmod b)))
  | .and => chk (kEq k k') (K (.int k (k.wrap (BitVec.ofInt k.bits a &&& BitVec.ofInt k.bits b).toNat)))
  | .or => chk (kEq k k') (K (.int k (k.wrap (BitVec.ofInt k.bits a ||| BitVec.ofInt k.bits b).toNat)))
  | .xor => chk (kEq k k') (K (.int k (k.wrap (BitVec.ofInt k.bits a ^^^ BitVec.ofInt k.bits b).toNat)))
  | .andNot => chk (kEq k k') (K (.int k (k.wrap (BitVec.ofInt k.bits a &&& ~~~BitVec.ofInt k.bits b).toNat)))
  | .shl => 0 ≤ b ∧ K (.int k (k.wrap (a * 2 ^ (min b.toNat k.bits))))
  | .shr => 0 ≤ b ∧ K (.int k (a.fdiv (2 ^ (min b.toNat k.bits))))
  | .eql => chk (kEq k k') (K (.bool (a == b)))
  | .neq => chk (kEq k k') (K (.bool (a != b)))
  | .lss => chk (kEq k k') (K (.bool (decide (a < b))))
  | .leq => chk (kEq k k') (K (.bool (decide (a ≤ b))))
  | .gtr => chk (kEq k k') (K (.bool (decide (a > b))))
  | .geq => chk (kEq k k') (K (.bool (decide (a ≥ b))))
def flat (T : TT) : List (Nat × Nat) → List V → Option (List Int)
  | [], [] => some []
  | (t, _) :: fs, x :: xs => (match (T.at_ t).d, x with
    | .int k, .int k' n => (match kEq k k' with
      | true => (flat T fs xs).map (n :: ·)
      | false => none)
    | .bool, .bool b => (flat T fs xs).map ((bif b then 1 else 0) :: ·)
    | _, _ => none)
  | _, _ => none
/-- all fields are integers or bools, one behind the other. -/
def flatTy (T : TT) : Nat → List (Nat × Nat) → Bool
  | _, [] => true
  | j, (t, o) :: r => Nat.beq o j && (match (T.at_ t).d with
    | .int _ => true
    | .bool => true
    | _ => false) && flatTy T (j + 1) r
def eqB (T : TT) (t : Nat) (x y : V) (K : Bool → Prop) : Prop :=
  match x, y with
  | .bool a, .bool b => (match (T.at_ t).d with
    | .bool => K (a == b)
    | _ => False)
  | .str a, .str b => K (a == b)
  | .ptr p, .ptr none => (match (T.at_ t).d with
    | .ptr _ => K p.isNone
    | _ => False)
  | .ptr none, .ptr p => (match (T.at_ t).d with
    | .ptr _ => K p.isNone
    | _ => False)
  | .sl p _, .sl none _ => (match (T.at_ t).d with
    | .sl _ => K p.isNone
    | _ => False)
  | .mp p, .mp none => (match (T.at_ t).d with
    | .mp _ _ => K p.isNone
    | _ => False)
  | .agg xs, .agg ys => (match (T.at_ t).d with
    | .st fs => chk (flatTy T 0 fs) (∃ a b, flat T fs xs = some a ∧ flat T fs ys = some b ∧ K (a == b))
    | _ => False)
  | _, _ => False
def binO (T : TT) (op : BinOp) (t : Nat) (x y : V) (K : V → Prop) : Prop :=
  match x, y with
  | .int k a, .int k' b => intBin op k k' a b K
  | x, y => match op with
    | .eql => eqB T t x y fun b => K (.bool b)
    | .neq => eqB T t x y fun b => K (.bool (!b))
    | _ => False
def unO (op : UnOp) (x : V) (K : V → Prop) : Prop :=
  match op, x with
  | .neg, .int k n => K (.int k (k.wrap (0 - n)))
  | .xor, .int k n => K (.int k (k.wrap (BitVec.ofInt k.bits (if k.signed then -1 else k.max) ^^^ BitVec.ofInt k.bits n).toNat))
  | .not, .bool b => K (.bool !b)
  | _, _ => False
def partV (T : TT) (t : Nat) (cs : List V) (off : Nat) (K : V → Prop) : Prop :=
  match aggK T t with
  | .agg => off + (T.at_ t).size ≤ cs.length ∧ K (.agg ((cs.drop off).take (T.at_ t).size))
  | .one => ∃ v, cs[off]? = some v ∧ fv v K
  | .no => False
/-- off, size of a part. -/
def places (T : TT) (t : Nat) (i : Nat) : Option (Nat × Nat) :=
  match (T.at_ t).d with
  | .st fs => (match fs[i]? with
    | some f => (match has T f.1 with
      | true => some (f.2, (T.at_ f.1).size)
      | false => none)
    | none => none)
  | .arr _ e => (match has T e with
    | true => some (i * (T.at_ e).size, (T.at_ e).size)
    | false => none)
  | .sl e => (match has T e with
    | true => some (i * (T.at_ e).size, (T.at_ e).size)
    | false => none)
  | _ => none
def splice {α : Type} : List α → Nat → List α → List α
  | cs, _, [] => cs
  | cs, o, v :: vs => splice (cs.set o v) (o + 1) vs
def fillV (T : TT) (env : Env) (t : Nat) (cs : List V) : List (Nat × Operand) → (List V → Prop) → Prop
  | [], K => K cs
  | (i, x) :: r, K => match places T t i with
    | some (off, size) => fv (opv env x) fun v => chk (Nat.ble 1 size) <| chk (isV v) <| chk (Nat.beq (vcells v).length size) (chk (Nat.ble (off + size) cs.length) (fillV T env t (splice cs off (vcells v)) r K))
    | none => False
def zerosV (n : Nat) (z : List V) : List V := (List.range (n * z.length)).map fun i => z.getD (i % z.length) .undef
def slp (p : Option (Nat × Nat)) (d : Nat) : Option (Nat × Nat) :=
  match p with
  | some (i, o) => some (i, o + d)
  | none => none
def boundO (env : Env) (x : Option Operand) (d : Nat) (K : Nat → Prop) : Prop :=
  match x with
  | none => K d
  | some x => match opv env x with
    | .int _ n => ∃ m : Nat, n = (m : Int) ∧ K m
    | _ => False
def pCall (T : TT) (c : Call) (env : Env) (K : V → Prop) : Prop :=
  match c.callee, c.args.toList, c.argTypes.toList with
  | .builtin .len, [x], [t] => (match (T.at_ t).d, opv env x with
    | .sl _, .sl _ n => K (i64 n)
    | .str, .str s => K (i64 s.length)
    | .arr n _, _ => K (i64 n)
    | _, _ => False)
  | .builtin .min, [x, y], _ => (match opv env x, opv env y with
    | .int k a, .int _ b => K (.int k (if b < a then b else a))
    | _, _ => False)
  | .builtin .max, [x, y], _ => (match opv env x, opv env y with
    | .int k a, .int _ b => K (.int k (if b > a then b else a))
    | _, _ => False)
  | _, _, _ => False
/-- what a map holds: integers for keys -/
def mpE (k : IntKind) (ms : List (Int × V)) : List (V × V) := ms.map fun p => (.int k p.1, p.2)
/-- a pair of integers for a key -/
def pk (k : IntKind) (n : Int × Int) : V := .agg [.int k n.1, .int k n.2]
def mpP (k : IntKind) (ms : List ((Int × Int) × V)) : List (V × V) := ms.map fun p => (pk k p.1, p.2)
def pget {α : Type} (ms : List ((Int × Int) × α)) (n : Int × Int) : Option α := (ms.find? fun p => p.1 == n).map (·.2)
def pput {α : Type} : List ((Int × Int) × α) → Int × Int → α → List ((Int × Int) × α)
  | [], n, v => [(n, v)]
  | p :: ms, n, v => if p.1 = n then (n, v) :: ms else p :: pput ms n v
def pwf (k : IntKind) (n : Int × Int) : Prop := (Lit.int k n.1).wf = true ∧ (Lit.int k n.2).wf = true
def mget (ms : List (Int × V)) (n : Int) : Option V := (ms.find? fun p => p.1 == n).map (·.2)
def mput : List (Int × V) → Int → V → List (Int × V)
  | [], n, v => [(n, v)]
  | p :: ms, n, v => if p.1 = n then (p.1, v) :: ms else p :: mput ms n v
def mdel : List (Int × V) → Int → List (Int × V)
  | [], _ => []
  | p :: ms, n => if p.1 = n then ms else p :: mdel ms n
/-- the entries' numbers, behind a delete -/
def bdel : List (Int × V) → List Nat → Int → List Nat
  | p :: ms, b :: bs, n => if p.1 = n then bs else b :: bdel ms bs n
  | _, bs, _ => bs
def lookV (ok : Bool) (v : V) (b : Bool) : V :=
  match ok with
  | true => .tup [v, .bool b]
  | false => v
def pO (T : TT) (o : Oper) (env : Env) (K : V → Prop) : Prop :=
  match o.op with
  | .move x => fv (opv env x) K
  | .assign x => fv (opv env x) K
  | .pick c a b => (match opv env c with
    | .bool g => br g (fv (opv env a) K) (fv (opv env b) K)
    | _ => False)
  | .nilCheck x => (match opv env x with
    | .ptr (some p) => K (.ptr (some p))
    | _ => False)
  | .binOp op t x y _ => binO T op t (opv env x) (opv env y) K
  | .unOp op _ x => unO op (opv env x) K
  | .convert src dst x => (match (T.at_ dst).d, opv env x with
    | .int k, .int _ n => chk (has T src) (K (.int k (k.wrap n)))
    | _, _ => False)
  | .fieldAddr s x f => (match (T.at_ s).d, opv env x with
    | .st fs, .ptr (some (i, off)) => (match fs[f]? with
      | some (t, d) => chk (has T t) (chk (Nat.ble 1 (T.at_ t).size) (K (.ptr (some (i, off + d)))))
      | none => False)
    | _, _ => False)
  | .field s x f => (match (T.at_ s).d, opv env x with
    | .st fs, .agg cs => (match fs[f]? with
      | some (t, d) => partV T t cs d K
      | none => False)
    | _, _ => False)
  | .indexAddr t x ix => (match (T.at_ t).d, opv env x, opv env ix with
    | .sl e, .sl p n, .int _ z => chk (has T e) <| ∃ i off j : Nat, p = some (i, off) ∧ z = (j : Int) ∧ j < n ∧ K (.ptr (some (i, off + j * (T.at_ e).size)))
    | .arr n e, .ptr (some (i, off)), .int _ z => chk (has T e) <| ∃ j : Nat, z = (j : Int) ∧ j < n ∧ K (.ptr (some (i, off + j * (T.at_ e).size)))
    | _, _, _ => False)
  | .index t x ix => (match (T.at_ t).d, opv env x, opv env ix with
    | .arr n e, .agg cs, .int _ z => chk (has T e) <| ∃ j : Nat, z = (j : Int) ∧ j < n ∧ partV T e cs (j * (T.at_ e).size) K
    | .str, .str s, .int _ z => ∃ (j : Nat) (c : Int), z = (j : Int) ∧ s[j]? = some c ∧ K (.int .u8 c)
    | _, _, _ => False)
  | .slice t x lo hi mx => (match (T.at_ t).d, opv env x, mx with
    | .str, .str s, none => boundO env lo 0 fun l => boundO env hi s.length fun m => l ≤ m ∧ m ≤ s.length ∧ K (.str ((s.drop l).take (m - l)))
    | _, _, _ => False)
  | .build t parts => (match (T.at_ t).d with
    | .st fs => chk (fs.all fun f => has T f.1) <| fillV T env t (vcells (T.at_ t).zero) parts.toList fun cs => K (.agg cs)
    | .arr _ e => chk (has T e) <| fillV T env t (vcells (T.at_ t).zero) parts.toList fun cs => K (.agg cs)
    | _ => False)
  | .extract x i => (match opv env x with
    | .tup vs => ∃ v, vs[i]? = some v ∧ fv v K
    | _ => False)
  | .call c => pCall T c env K
  | .makeFunc (.func f) first caps => (match first.toList with
    | [] => K (.clo f (caps.toList.map (opv env)))
    | _ => False)
  | _ => False

/-- the kind of a key's two integers, where a key is such a pair -/
def pairE (T : TT) (kt : Nat) : Option IntKind :=
  match (T.at_ kt).d with
  | .arr m e => (match (T.at_ e).d with
    | .int k => cond (Nat.beq m 2 && Nat.beq (T.at_ kt).size 2 && Nat.beq (T.at_ e).size 1) (some k) none
    | _ => none)
  | .st [(e, o), (e', o')] => (match (T.at_ e).d, (T.at_ e').d with
    | .int k, .int k' => cond (kEq k k' && Nat.beq o 0 && Nat.beq o' 1 && Nat.beq (T.at_ kt).size 2 && Nat.beq (T.at_ e).size 1 && Nat.beq (T.at_ e').size 1) (some k) none
    | _, _ => none)
  | _ => none
/-- the kind of a map's keys, where they are pairs -/
def mapPair (T : TT) (t : Nat) : Option IntKind :=
  match (T.at_ t).d with
  | .mp kt _ => pairE T kt
  | _ => none
/-- two integers of one kind -/
def pairL : List V → Option (IntKind × Int × Int)
  | [x, y] => (match x, y with
    | .int k a, .int k2 b => cond (kEq k k2) (some (k, a, b)) none
    | _, _ => none)
  | _ => none
/-! ### Operations that read memory -/
def rO (T : TT) (o : Oper) (env : Env) (h : H) (K : V → Prop) : Prop :=
  match o.op with
  | .load t x => (match opv env x, aggK T t with
    | .ptr (some (i, off)), .one => ∃ v, Cell h i off v ∧ fv v K
    | .ptr (some (i, off)), .agg => ∃ cs, Cells h i off (T.at_ t).size cs ∧ K (.agg cs)
    | _, _ => False)
  | .slice t x lo hi mx => (match (T.at_ t).d, opv env x, mx with
    | .sl e, .sl p n, none => chk (has T e) <| (∃ cs, SlIs h p n false (T.at_ e).size cs) ∧ boundO env lo 0 fun l => boundO env hi n fun m => l ≤ m ∧ m ≤ n ∧ K (.sl (slp p (l * (T.at_ e).size)) (m - l))
    | _, _, _ => False)
  | .convert src dst x => (match (T.at_ src).d, (T.at_ dst).d, opv env x with
    | .sl e, .str, .sl p n => (match (T.at_ e).d with
      | .int .u8 => ∃ xs, SlIs h p n false 1 (ints .u8 xs) ∧ (∀ x ∈ xs, 0 ≤ x ∧ x < 256) ∧ K (.str xs)
      | _ => False)
    | _, _, _ => False)
  | .lookup t x ix ok => (match (T.at_ t).d, opv env x, opv env ix with
    | .mp kt et, .mp none, .int k n => (match (T.at_ kt).d with
      | .int k' => chk (kEq k' k) <| chk (has T et) <| K (lookV ok (T.at_ et).zero false)
      | _ => False)
    | .mp kt et, .mp (some i), .int k n => (match (T.at_ kt).d with
      | .int k' => chk (kEq k' k) <| chk (has T et) <| ∃ own ms, h.obj i = some (.map own (mpE k ms)) ∧ K (lookV ok ((mget ms n).getD (T.at_ et).zero) (mget ms n).isSome)
      | _ => False)
    | .mp kt et, .mp (some i), .agg cs => (match pairE T kt, pairL cs with
      | some k', some (k, a, b) => chk (kEq k' k) <| chk (has T et) <| ∃ own ms, h.obj i = some (.map own (mpP k ms)) ∧ (ms.map (·.1)).Nodup ∧ (∀ p ∈ ms, pwf k p.1) ∧ pwf k (a, b) ∧ K (lookV ok ((pget ms (a, b)).getD (T.at_ et).zero) (pget ms (a, b)).isSome)
      | _, _ => False)
    | _, _, _ => False)
  | .call c => (match c.callee, c.args.toList, c.argTypes.toList with
    | .builtin .len, [x], [t] => (match (T.at_ t).d, opv env x with
      | .mp _ _, .mp none => K (i64 0)
      | .mp _ _, .mp (some i) => ∃ own es, h.obj i = some (.map own es) ∧ K (i64 es.length)
      | _, _ => False)
    | _, _, _ => False)
  | _ => False

/-! ### Operations that make or turn memory -/
def isFresh (h : H) (p : Option (Nat × Nat)) (p' : Option (Nat × Nat)) : Prop := ∀ i o, p' = some (i, o) → p' = p ∨ h.next ≤ i
def inSl (p : Option (Nat × Nat)) (i : Nat) : Prop := ∃ o, p = some (i, o)
def aO (T : TT) (o : Oper) (env : Env) (h : H) (K : V → H → Prop) : Prop :=
  match o.op with
  | .alloc e => chk (has T e) <| K (.ptr (some (h.next, 0))) (h.push (.row true (T.at_ e).size (vcells (T.at_ e).zero)))
  | .box e x => chk (has T e) <| fv (opv env x) fun v => chk (isV v) <| chk (Nat.beq (vcells v).length (T.at_ e).size) (K (.ptr (some (h.next, 0))) (h.push (.row true (T.at_ e).size (vcells v))))
  | .buildSlice t len parts => (match (T.at_ t).d with
    | .sl e => chk (has T e) <| chk (Nat.ble len 16777216) <| chk (Nat.ble (len * (T.at_ e).size) 16777216) <| fillV T env t (zerosV len (vcells (T.at_ e).zero)) parts.toList fun cs =>
        K (.sl (some (h.next, 0)) len) (h.push (.row true (T.at_ e).size cs))
    | _ => False)
  | .makeSlice t n c => (match (T.at_ t).d, opv env n, opv env c with
    | .sl e, .int _ n, .int _ c => chk (has T e) <| ∃ m : Nat, n = (m : Int) ∧ c = (m : Int) ∧ m ≤ 70368744177664 ∧ m * (T.at_ e).bytes ≤ 70368744177664 ∧
        K (.sl (some (h.next, 0)) m) (h.push (.row true (T.at_ e).size (zerosV m (vcells (T.at_ e).zero))))
    | _, _, _ => False)
  | .makeMap t none => (match (T.at_ t).d with
    | .mp _ _ => K (.mp (some h.next)) (h.push (.map true []))
    | _ => False)
  | _ => False
def keyOf (T : TT) (t : Nat) (v : V) : Option Int :=
  match (T.at_ t).d with
  | .mp k _ => (match (T.at_ k).d, v with
    | .int _, .int _ n => some n
    | _, _ => none)
  | _ => none
def cCall (P : Program) (T : TT) (c : Call) (env : Env) (h : H) (K : V → H → Prop) : Prop :=
  match c.callee, c.args.toList, c.argTypes.toList with
  | .builtin .append, [s, x], [t, t'] => (match (T.at_ t).d, (T.at_ t').d, opv env s, opv env x with
    | .sl e, .sl e', .sl p n, .sl q m => chk (has T e) <| chk (Nat.beq e e') <| ∃ xs ys, SlIs h p n true (T.at_ e).size xs ∧ SlIs h q m false (T.at_ e).size ys ∧ (n + m) * (T.at_ e).bytes ≤ 70368744177664 ∧ n + m ≤ 70368744177664 ∧
        ∀ p' h', SlIs h' p' (n + m) true (T.at_ e).size (xs ++ ys) → Mod (inSl p) h h' → isFresh h p p' → K (.sl p' (n + m)) h'
    | _, _, _, _ => False)
  | .value x, args, _ => (match opv env x with
    | .fn f => ACalls P f (args.map (opv env)) h K
    | .clo f caps => ACalls P f (args.map (opv env) ++ caps) h K
    | _ => False)
  | .builtin .delete, [x, kx], [t, _] => (match (T.at_ t).d, opv env x, opv env kx with
    | .mp kt _, .mp (some i), .int k n => (match (T.at_ kt).d with
      | .int k' => chk (kEq k' k) <| (∃ ms, h.obj i = some (.map true (mpE k ms)) ∧ K (.tup []) (h.set i (.map true (mpE k (mdel ms n))))) ∨ (∃ ms bs cl, h.obj i = some (.mapb (mpE k ms) bs cl) ∧ K (.tup []) (h.set i (.mapb (mpE k (mdel ms n)) (bdel ms bs n) cl)))
      | _ => False)
    | _, _, _ => False)
  | .builtin .copy, [s, x], [t, _] => (match (T.at_ t).d, opv env s, opv env x with
    | .sl e, .sl (some (i, off)) n, .sl q m => chk (has T e) <| ∃ sz cs ys, SlIs h q m false (T.at_ e).size ys ∧ h.obj i = some (.row true sz cs) ∧ 0 < n ∧ off + n * (T.at_ e).size ≤ cs.length ∧
        K (.int .i64 ((min m n : Nat) : Int)) (h.set i (.row true sz (splice cs off (ys.take (min m n * (T.at_ e).size)))))
    | _, _, _ => False)
  | _, _, _ => False
def cO (P : Program) (T : TT) (o : Oper) (env : Env) (h : H) (K : V → H → Prop) : Prop :=
  match o.op with
  | .store t a x => (match opv env a with
    | .ptr (some (i, off)) => chk (has T t) <| fv (opv env x) fun v => chk (isV v) <| ∃ sz cs, h.obj i = some (.row true sz cs) ∧ chk (Nat.beq (vcells v).length (T.at_ t).size) (off + (T.at_ t).size ≤ cs.length ∧
        K .undef (h.set i (.row true sz (splice cs off (vcells v)))))
    | _ => False)
  | .call c => cCall P T c env h K
  | .mapUpdate t x kx vx => (match (T.at_ t).d, opv env x, opv env kx with
    | .mp kt _, .mp (some i), .int k n => (match (T.at_ kt).d with
      | .int k' => chk (kEq k' k) <| fv (opv env vx) fun v => ∃ ms, h.obj i = some (.map true (mpE k ms)) ∧ K .undef (h.set i (.map true (mpE k (mput ms n v))))
      | _ => False)
    | .mp kt _, .mp (some i), .agg cs => (match pairE T kt, pairL cs with
      | some k', some (k, a, b) => chk (kEq k' k) <| fv (opv env vx) fun v => ∃ ms, h.obj i = some (.map true (mpP k ms)) ∧ (ms.map (·.1)).Nodup ∧ (∀ p ∈ ms, pwf k p.1) ∧ pwf k (a, b) ∧ K .undef (h.set i (.map true (mpP k (pput ms (a, b) v))))
      | _, _ => False)
    | _, _, _ => False)
  | .mapEntry t x kx => (match (T.at_ t).d, opv env x, opv env kx with
    | .mp kt et, .mp (some i), .int k n => (match (T.at_ kt).d with
      | .int k' => chk (kEq k' k) <| chk (has T et) <| ∃ ms, h.obj i = some (.map true (mpE k ms)) ∧ ∀ (ms' : List (Int × V)) (bs : List Nat) (cl p b : Nat), bs.length = ms'.length → bs.Nodup → (∀ x ∈ bs, x < cl) → (ms'[p]?).map (·.1) = some n → bs[p]? = some b → (∀ v, ms'.set p (n, v) = mput ms n v) →
          K (.tup [.undef, .int .i64 (b : Int)]) (h.set i (.mapb (mpE k ms') bs cl))
      | _ => False)
    | .mp kt et, .mp (some i), .agg cs => (match pairE T kt, pairL cs with
      | some k', some (k, a, a') => chk (kEq k' k) <| chk (has T et) <| ∃ ms, h.obj i = some (.map true (mpP k ms)) ∧ (ms.map (·.1)).Nodup ∧ (∀ p ∈ ms, pwf k p.1) ∧ pwf k (a, a') ∧ ∀ (ms' : List ((Int × Int) × V)) (bs : List Nat) (cl p b : Nat), bs.length = ms'.length → bs.Nodup → (∀ x ∈ bs, x < cl) → (ms'[p]?).map (·.1) = some (a, a') → bs[p]? = some b → (∀ v, ms'.set p ((a, a'), v) = pput ms (a, a') v) →
          K (.tup [(pget ms (a, a')).getD (T.at_ et).zero, .int .i64 (b : Int)]) (h.set i (.mapb (mpP k ms') bs cl))
      | _, _ => False)
    | _, _, _ => False)
  | .entryStore t x sx vx => (match opv env x, opv env sx, mapPair T t with
    | .mp (some i), .int _ s, none => fv (opv env vx) fun v => ∃ (k : IntKind) (ms : List (Int × V)) (bs : List Nat) (cl p b : Nat) (n : Int), h.obj i = some (.mapb (mpE k ms) bs cl) ∧ s = (b : Int) ∧ bs[p]? = some b ∧ (ms[p]?).map (·.1) = some n ∧ K .undef (h.set i (.map true (mpE k (ms.set p (n, v)))))
    | .mp (some i), .int _ s, some k => fv (opv env vx) fun v => ∃ (ms : List ((Int × Int) × V)) (bs : List Nat) (cl p b : Nat) (n : Int × Int), h.obj i = some (.mapb (mpP k ms) bs cl) ∧ s = (b : Int) ∧ bs[p]? = some b ∧ (ms[p]?).map (·.1) = some n ∧ K .undef (h.set i (.map true (mpP k (ms.set p (n, v)))))
    | _, _, _ => False)
  | .convert src dst x => (match (T.at_ src).d, (T.at_ dst).d, opv env x with
    | .sl e, .sl _, .sl (some (i, off)) n => (match (T.at_ e).d with
      | .int .u8 => chk (has T e) <| chk (Nat.beq src dst) <| chk (Nat.ble 1 n) (∃ sz cs, h.obj i = some (.row true sz cs) ∧ K (.sl (some (i, off)) n) h)
      | _ => False)
    | _, _, _ => False)
  | .range t x => (match (T.at_ t).d, opv env x with
    | .mp kt _, .mp (some i) => (match (T.at_ kt).d with
      | .int k => ∃ ms, h.obj i = some (.map true (mpE k ms)) ∧ ∀ (bs : List Nat) (cl : Nat), bs.length = ms.length → bs.Nodup → (∀ b ∈ bs, b < cl) → K (.ptr (some (h.next, 0))) ((h.set i (.mapb (mpE k ms) bs cl)).push (.itr i cl [] cl))
      | _ => (match pairE T kt with
        | some k => ∃ ms, h.obj i = some (.map true (mpP k ms)) ∧ ∀ (bs : List Nat) (cl : Nat), bs.length = ms.length → bs.Nodup → (∀ b ∈ bs, b < cl) → K (.ptr (some (h.next, 0))) ((h.set i (.mapb (mpP k ms) bs cl)).push (.itr i cl [] cl))
        | none => False))
    | _, _ => False)
  | .next x false => (match opv env x with
    | .ptr (some (j, 0)) => (∃ (i cl : Nat) (seen : List Nat) (k : IntKind) (ms : List (Int × V)) (bs : List Nat), h.obj j = some (.itr i cl seen cl) ∧ h.obj i = some (.mapb (mpE k ms) bs cl) ∧
        (∀ (p : Nat) (n : Int) (v : V) (b : Nat), ms[p]? = some (n, v) → bs[p]? = some b → b ∉ seen → K (.tup [.bool true, .int k n, v]) (h.set j (.itr i cl (seen ++ [b]) cl))) ∧ ((∀ b ∈ bs, b ∈ seen) → K (.tup [.bool false]) h)) ∨
      (∃ (i cl : Nat) (seen : List Nat) (k : IntKind) (ms : List ((Int × Int) × V)) (bs : List Nat), h.obj j = some (.itr i cl seen cl) ∧ h.obj i = some (.mapb (mpP k ms) bs cl) ∧
        (∀ (p : Nat) (n : Int × Int) (v : V) (b : Nat), ms[p]? = some (n, v) → bs[p]? = some b → b ∉ seen → K (.tup [.bool true, pk k n, v]) (h.set j (.itr i cl (seen ++ [b]) cl))) ∧ ((∀ b ∈ bs, b ∈ seen) → K (.tup [.bool false]) h))
    | _ => False)
  | .entry x => (match opv env x with
    | .ptr (some (j, 0)) => (∃ (i cl : Nat) (seen : List Nat) (k : IntKind) (ms : List (Int × V)) (bs : List Nat) (p : Nat) (n : Int) (v : V) (b : Nat), h.obj j = some (.itr i cl (seen ++ [b]) cl) ∧ h.obj i = some (.mapb (mpE k ms) bs cl) ∧ bs[p]? = some b ∧ ms[p]? = some (n, v) ∧ K (.tup [.int k n, v]) h) ∨
      (∃ (i cl : Nat) (seen : List Nat) (k : IntKind) (ms : List ((Int × Int) × V)) (bs : List Nat) (p : Nat) (n : Int × Int) (v : V) (b : Nat), h.obj j = some (.itr i cl (seen ++ [b]) cl) ∧ h.obj i = some (.mapb (mpP k ms) bs cl) ∧ bs[p]? = some b ∧ ms[p]? = some (n, v) ∧ K (.tup [pk k n, v]) h)
    | _ => False)
  | _ => False

inductive Cls where
  | p | r | a | c
def cls (T : TT) : Op → Cls
  | .move _ | .assign _ | .pick .. | .nilCheck _ | .binOp .. | .unOp .. | .fieldAddr .. | .field .. | .indexAddr .. | .index .. | .build .. | .extract .. | .makeFunc .. => .p
  | .slice t _ _ _ _ => (match (T.at_ t).d with
    | .sl _ => .r
    | _ => .p)
  | .convert src dst _ => (match (T.at_ src).d, (T.at_ dst).d with
    | .sl _, .str => .r
    | .sl _, .sl _ => .c
    | _, _ => .p)
  | .call c => (match c.callee, c.argTypes.toList with
    | .builtin .len, [t] => (match (T.at_ t).d with
      | .mp _ _ => .r
      | _ => .p)
    | .builtin .min, _ => .p
    | .builtin .max, _ => .p
    | _, _ => .c)
  | .load .. | .lookup .. => .r
  | .alloc _ | .box .. | .buildSlice .. | .makeSlice .. | .makeMap .. => .a
  | _ => .c

/-! ### Regions -/
def guardW (ops : Array Oper) (o : Oper) (env : Env) (K : Env → Bool → Prop) : Prop :=
  match o.guard with
  | none => K env true
  | some (j, want) => match (ops[j]?).bind (·.dst) with
    | none => False
    | some t => match get env t with
      | .bool g => br g (K ((t, .bool true) :: env) want) (K ((t, .bool false) :: env) (!want))
      | .tup [] => K env false
      | _ => False
def opO (P : Program) (T : TT) (o : Oper) (env : Env) (h : H) (K : V → H → Prop) : Prop :=
  match cls T o.op with
  | .p => pO T o env fun v => K v h
  | .r => rO T o env h fun v => K v h
  | .a => aO T o env h K
  | .c => cO P T o env h K
def wpN (P : Program) (T : TT) (ops : Array Oper) : List Oper → Env → H → (Env → H → Prop) → Prop
  | [], env, h, K => K env h
  | o :: r, env, h, K => guardW ops o env fun env go => match go with
    | true => opO P T o env h fun v h' => put env o.dst v fun env => wpN P T ops r env h' K
    | false => put env o.dst (.tup []) fun env => wpN P T ops r env h K
structure Pend where
  j : Nat
  o : Oper
  env : Env
  v : V
/-- What has been read, and may be read later still, reads as it did. -/
def still (T : TT) (bef : Nat) (h' : H) : List Pend → Prop → Prop
  | [], X => X
  | ⟨j, o, env, v⟩ :: r, X => match Nat.testBit bef j with
    | true => still T bef h' r X
    | false => rO T o env h' (fun v' => v' = v) ∧ still T bef h' r X
/-- The temporaries that an operation looks at, and no others. -/
def restr (env : Env) : List Nat → Env
  | [] => []
  | t :: r => (t, get env t) :: restr env r
def wpD (P : Program) (T : TT) (ops : Array Oper) (B : List Nat) : List Nat → List Pend → Env → H → (Env → H → Prop) → Prop
  | [], _, env, h, K => K env h
  | i :: L, pend, env, h, K => match ops[i]? with
    | none => False
    | some o => guardW ops o env fun env go => match go with
      | false => put env o.dst (.tup []) fun env => wpD P T ops B L pend env h K
      | true => match cls T o.op with
        | .p => pO T o (restr env (o.looksAt ops)) fun v => put env o.dst v fun env => wpD P T ops B L pend env h K
        | .r => rO T o (restr env (o.looksAt ops)) h fun v => put env o.dst v fun env' => wpD P T ops B L (⟨i, o, restr env (o.looksAt ops), v⟩ :: pend) env' h K
        | .a => aO T o (restr env (o.looksAt ops)) h fun v h' => put env o.dst v fun env => wpD P T ops B L pend env h' K
        | .c => cO P T o (restr env (o.looksAt ops)) h fun v h' => put env o.dst v fun env => still T (B.getD i 0) h' pend (wpD P T ops B L pend env h' K)
def isChain (T : TT) (ops : Array Oper) (i : Nat) : Bool :=
  match ops[i]? with
  | some o => (match cls T o.op with
    | .a => true
    | .c => true
    | _ => false)
  | none => false
/-- may the two not be done in either order, by what they name? -/
def conf (ops : Array Oper) (x y : Oper) : Bool :=
  (match x.dst with
   | some d => (y.looksAt ops).contains d || y.dst == some d
   | none => false) ||
  (match y.dst with
   | some d => (x.looksAt ops).contains d
   | none => false)
def dStep (T : TT) (ops : Array Oper) (B : List Nat) (pre : List Nat) (i : Nat) (o : Oper) : Bool :=
  !pre.contains i && (o.after.toList.all fun e => !Region.binds .any e || pre.contains e.on) &&
  ((List.range ops.size).all fun j => !(B.getD i 0).testBit j || (pre.contains j && o.after.toList.any fun e => Region.binds .any e && (e.on == j || (B.getD e.on 0).testBit j))) &&
  (pre.all fun c => !isChain T ops c || (B.getD i 0).testBit c) &&
  (pre.all fun j => match ops[j]? with
    | some oj => !conf ops o oj || (B.getD i 0).testBit j
    | none => false)
def dChk (T : TT) (ops : Array Oper) (B : List Nat) : List Nat → List Nat → Bool
  | _, [] => true
  | pre, i :: r => (match ops[i]? with
    | some o => dStep T ops B pre i o
    | none => false) && dChk T ops B (pre ++ [i]) r
def dOk (T : TT) (ops : Array Oper) (L B : List Nat) : Bool :=
  dChk T ops B [] L && (List.range ops.size).all (fun i => L.contains i && Nat.ble (B.getD i 0 + 1) (2 ^ ops.size))

/-- o, and it waits for operation a. -/
def waitFor (o : Oper) (a : Nat) : Oper := { o with after := o.after.push ⟨a, .data⟩ }
def addL : List Oper → Nat → Nat → List Oper
  | [], _, _ => []
  | o :: r, a, 0 => waitFor o a :: r
  | o :: r, a, b + 1 => o :: addL r a b
/-- the region, its operation b waiting for a too -/
def addE (ops : Array Oper) (a b : Nat) : Array Oper := (addL ops.toList a b).toArray

/-- A drawn region: by an order L and a table B; or, of two operations that nothing orders, with either first. -/
def wpReg (P : Program) (T : TT) : Nat → Array Oper → Env → H → (Env → H → Prop) → Prop
  | 0, _, _, _, _ => False
  | f + 1, ops, env, h, K => ∃ L B, match L, B with
    | [], [a, b] => Nat.beq a b = false ∧ wpReg P T f (addE ops a b) env h K ∧ wpReg P T f (addE ops b a) env h K
    | L, B => dOk T ops L B = true ∧ wpD P T ops B L [] env h K

/-! ### Code -/
inductive X where
  | norm
  | exit (id : Nat)
  | ret
def thenX (next : Env → H → Prop) (Q : X → Env → H → Prop) : X → Env → H → Prop
  | .norm, env, h => next env h
  | x, env, h => Q x env h
def inBlk (id : Nat) (Q : X → Env → H → Prop) : X → Env → H → Prop
  | .exit j, env, h => match Nat.beq j id with
    | true => Q .norm env h
    | false => Q (.exit j) env h
  | x, env, h => Q x env h
def wpC (P : Program) (T : TT) : Code → (X → Env → H → Prop) → Env → H → Prop
  | .skip, Q, env, h => Q .norm env h
  | .region _ ops draw, Q, env, h => match draw with
    | false => wpN P T ops ops.toList env h fun env h => Q .norm env h
    | true => wpReg P T 6 ops env h fun env h => Q .norm env h
  | .seq a b, Q, env, h => wpC P T a (thenX (wpC P T b Q) Q) env h
  | .cond c x y, Q, env, h => match opv env c with
    | .bool g => br g (wpC P T x Q env h) (wpC P T y Q env h)
    | _ => False
  | .block id c, Q, env, h => wpC P T c (inBlk id Q) env h
  | .loop c, Q, env, h => ∃ (I : Env → H → Prop) (μ : Env → H → Nat), (∃ env0, Forget env env0 ∧ I env0 h) ∧ ∀ env h, I env h → wpC P T c (thenX (fun env' h' => ∃ env'', Forget env' env'' ∧ I env'' h' ∧ μ env'' h' < μ env h) Q) env h
  | .exit id, Q, env, h => Q (.exit id) env h
  | .ret, Q, env, h => Q .ret env h
  | _, _, _, _ => False
def resO (T : TT) (env : Env) (h : H) : List ResultVar → (List V → Prop) → Prop
  | [], K => K []
  | .tmp t :: r, K => fv (get env t) fun v => resO T env h r fun vs => K (v :: vs)
  | .cell a t :: r, K => (match get env a, aggK T t with
    | .ptr (some (i, off)), .one => ∃ v, Cell h i off v ∧ fv v fun v => resO T env h r fun vs => K (v :: vs)
    | .ptr (some (i, off)), .agg => ∃ cs, Cells h i off (T.at_ t).size cs ∧ resO T env h r fun vs => K (.agg cs :: vs)
    | _, _ => False)
def bodyX (T : TT) (rs : List ResultVar) (Q : V → H → Prop) : X → Env → H → Prop
  | .exit _, _, _ => False
  | _, env, h => resO T env h rs fun vs => match vs with
    | [v] => Q v h
    | vs => Q (.tup vs) h
def opsOk (N : Nat) (ops : Array Oper) : Bool := ops.toList.all fun o => match o.dst with
  | some d => Nat.blt d N
  | none => true
/-- all temporaries that are written lie in the frame. -/
def codeOk (N : Nat) : Code → Bool
  | .region _ ops _ => opsOk N ops
  | .seq a b => codeOk N a && codeOk N b
  | .cond _ a b => codeOk N a && codeOk N b
  | .block _ c => codeOk N c
  | .loop c => codeOk N c
  | _ => true
def argsE : Nat → List V → Env
  | _, [] => []
  | i, v :: vs => (i, v) :: argsE (i + 1) vs
end Go.Ab
/-! The relations' movers: what stands for what, from one memory to the next. -/
namespace Go.Ab
open Go

theorem VRel.mono {ρ ρ' : Rho} (he : ∀ i l, ρ i = some l → ρ' i = some l) {v : V} {u : Value} (h : VRel ρ v u) : VRel ρ' v u := by
  induction h with
  | undef u => exact .undef u
  | int k n => exact .int k n
  | bool b => exact .bool b
  | str s => exact .str s
  | nilp => exact .nilp
  | ptr i o l h => exact .ptr i o l (he _ _ h)
  | nils => exact .nils
  | sl i o n cap a l h hn hm ha hl => exact .sl i o n cap a l (he _ _ h) hn hm ha hl
  | nilm => exact .nilm
  | mp i l h => exact .mp i l (he _ _ h)
  | fn f => exact .fn f
  | clo f cs us hl hc ih => exact .clo f cs us hl ih
  | clz f i l h h0 => exact .clz f i l (he _ _ h) h0
  | agg cs us h1 hl hc ih => exact .agg cs us h1 hl ih
  | tup cs us hl hc ih => exact .tup cs us hl ih

theorem VsRel.mono {ρ ρ' : Rho} (he : ∀ i l, ρ i = some l → ρ' i = some l) {cs : List V} {us : List Value} (h : VsRel ρ cs us) : VsRel ρ' cs us :=
  ⟨h.1, fun j c u hc hu => (h.2 j c u hc hu).mono he⟩
theorem VsRel.nil (ρ : Rho) : VsRel ρ [] [] := ⟨rfl, fun j c u h => by simp at h⟩
theorem VsRel.cons {ρ : Rho} {c : V} {u : Value} {cs : List V} {us : List Value} (h : VRel ρ c u) (hs : VsRel ρ cs us) : VsRel ρ (c :: cs) (u :: us) := by
  refine ⟨by simp [hs.1], fun j c' u' hc hu => ?_⟩
  cases j with
  | zero =>
    simp at hc hu
    subst hc hu
    exact h
  | succ j => exact hs.2 j c' u' (by simpa using hc) (by simpa using hu)
theorem VsRel.uncons {ρ : Rho} {c : V} {cs : List V} {us : List Value} (h : VsRel ρ (c :: cs) us) : ∃ u us', us = u :: us' ∧ VRel ρ c u ∧ VsRel ρ cs us' := by
  cases us with
  | nil => simp [VsRel] at h
  | cons u us => exact ⟨u, us, rfl, h.2 0 c u rfl rfl, by simpa using h.1, fun j c' u' hc hu => h.2 (j + 1) c' u' (by simpa using hc) (by simpa using hu)⟩
theorem VsRel.append {ρ : Rho} {cs ds : List V} {us ws : List Value} (h : VsRel ρ cs us) (k : VsRel ρ ds ws) : VsRel ρ (cs ++ ds) (us ++ ws) := by
  induction cs generalizing us with
  | nil =>
    have : us = [] := List.eq_nil_of_length_eq_zero (by simpa using h.1.symm)
    subst this
    simpa using k
  | cons c cs ih =>
    obtain ⟨u, us', rfl, h1, h2⟩ := h.uncons
    exact VsRel.cons h1 (ih h2)
theorem VsRel.drop {ρ : Rho} {cs : List V} {us : List Value} (h : VsRel ρ cs us) (n : Nat) : VsRel ρ (cs.drop n) (us.drop n) :=
  ⟨by simp [h.1], fun j c u hc hu => h.2 (n + j) c u (by simpa using hc) (by simpa using hu)⟩
theorem VsRel.take {ρ : Rho} {cs : List V} {us : List Value} (h : VsRel ρ cs us) (n : Nat) : VsRel ρ (cs.take n) (us.take n) := by
  refine ⟨by simp [h.1], fun j c u hc hu => ?_⟩
  rw [List.getElem?_take] at hc hu
  split at hc
  · rename_i hj
    rw [if_pos hj] at hu
    exact h.2 j c u hc hu
  · cases hc
theorem VsRel.set {ρ : Rho} {cs : List V} {us : List Value} (h : VsRel ρ cs us) (i : Nat) {c : V} {u : Value} (hc : VRel ρ c u) : VsRel ρ (cs.set i c) (us.set i u) := by
  refine ⟨by simp [h.1], fun j c' u' h1 h2 => ?_⟩
  rw [List.getElem?_set] at h1 h2
  split at h1
  · rename_i e
    subst e
    rw [if_pos rfl] at h2
    rw [h.1] at h1
    split at h1
    · rename_i hi
      rw [if_pos hi] at h2
      injection h1 with h1
      injection h2 with h2
      subst h1 h2
      exact hc
    · cases h1
  · rename_i e
    rw [if_neg e] at h2
    exact h.2 j c' u' h1 h2
theorem VsRel.get {ρ : Rho} {cs : List V} {us : List Value} (h : VsRel ρ cs us) {j : Nat} {c : V} (hc : cs[j]? = some c) : ∃ u, us[j]? = some u ∧ VRel ρ c u := by
  have hj : j < us.length := by
    have := (List.getElem?_eq_some_iff.1 hc).1
    rw [← h.1]
    exact this
  exact ⟨us[j], List.getElem?_eq_getElem hj, h.2 j c _ hc (List.getElem?_eq_getElem hj)⟩
theorem VsRel.of_get {ρ : Rho} {cs : List V} {us : List Value} (hl : cs.length = us.length) (h : ∀ (j : Nat) (c : V), cs[j]? = some c → ∃ u, us[j]? = some u ∧ VRel ρ c u) : VsRel ρ cs us :=
  ⟨hl, fun j c u hc hu => by
    obtain ⟨u', h1, h2⟩ := h j c hc
    rw [hu] at h1
    injection h1 with h1
    subst h1
    exact h2⟩
/-- The cells of a value. -/
theorem VRel.cells {ρ : Rho} {v : V} {u : Value} (h : VRel ρ v u) (hv : isV v = true) : VsRel ρ (vcells v) u.cells.toList ∧ ∀ x ∈ u.cells.toList, x.oneCell' = true := by
  have one : ∀ (c : V) (x : Value), VRel ρ c x → vcells c = [c] → x.cells = #[x] → x.oneCell' = true → VsRel ρ (vcells c) x.cells.toList ∧ ∀ y ∈ x.cells.toList, y.oneCell' = true := by
    intro c x h1 h2 h3 h4
    rw [h2, h3]
    exact ⟨VsRel.cons h1 (VsRel.nil ρ), fun y hy => by simp at hy; subst hy; exact h4⟩
  cases h with
  | undef u => simp [isV] at hv
  | int k n => exact one _ _ (.int k n) rfl rfl rfl
  | bool b => exact one _ _ (.bool b) rfl rfl rfl
  | str s => exact one _ _ (.str s) rfl rfl rfl
  | nilp => exact one _ _ .nilp rfl rfl rfl
  | ptr i o l h => exact one _ _ (.ptr i o l h) rfl rfl rfl
  | nils => exact one _ _ .nils rfl rfl rfl
  | sl i o n cap a l h hn hm ha hl => exact one _ _ (.sl i o n cap a l h hn hm ha hl) rfl rfl rfl
  | nilm => exact one _ _ .nilm rfl rfl rfl
  | mp i l h => exact one _ _ (.mp i l h) rfl rfl rfl
  | fn f => exact one _ _ (.fn f) rfl rfl rfl
  | clo f cs us hl hc => exact one _ _ (.clo f cs us hl hc) rfl rfl rfl
  | clz f i l h h0 => exact one _ _ (.clz f i l h h0) rfl rfl rfl
  | agg cs us h1 hl hc => exact ⟨⟨hl, hc⟩, by simpa [Value.cells] using h1⟩
  | tup cs us hl hc => simp [isV] at hv

theorem ObjRel.mono {ρ ρ' : Rho} (he : ∀ i l, ρ i = some l → ρ' i = some l) {w w' : World} {l : Loc} {ob : Obj} (h : ObjRel ρ w l ob) (hb : w'.heap[l.b]? = w.heap[l.b]?) : ObjRel ρ' w' l ob := by
  cases ob with
  | row own sz cs =>
    obtain ⟨h1, h2, cells, e, fr, h3, h4, h5, h6⟩ := h
    refine ⟨h1, h2, cells, e, fr, by rw [hb, h3], h4, h5, fun j c hc => ?_⟩
    obtain ⟨u, a, b, c⟩ := h6 j c hc
    exact ⟨u, a, b, c.mono he⟩
  | map own es =>
    obtain ⟨ms, clock, h1, h2, h3, h4, h5⟩ := h
    refine ⟨ms, clock, by rw [hb, h1], h2, h3, h4, fun j kv m hk hm => ?_⟩
    exact ⟨(h5 j kv m hk hm).1.mono he, (h5 j kv m hk hm).2.mono he⟩
  | mapb es bs cl =>
    obtain ⟨ms, h1, h2, h3, h4, h5, h6⟩ := h
    refine ⟨ms, by rw [hb, h1], h2, h3, h4, h5, fun j kv m hk hm => ?_⟩
    exact ⟨(h6 j kv m hk hm).1.mono he, (h6 j kv m hk hm).2.mono he⟩
  | itr i since seen last =>
    obtain ⟨lm, h1, h2, h3⟩ := h
    exact ⟨lm, he _ _ h1, h2, by rw [hb, h3]⟩
theorem ObjRel.lt {ρ : Rho} {w : World} {l : Loc} {ob : Obj} (h : ObjRel ρ w l ob) : l.b < w.heap.size := by
  cases ob with
  | row own sz cs =>
    obtain ⟨_, _, cells, e, fr, h3, _⟩ := h
    exact (Array.getElem?_eq_some_iff.1 h3).1
  | map own es =>
    obtain ⟨ms, clock, h1, _⟩ := h
    exact (Array.getElem?_eq_some_iff.1 h1).1
  | mapb es bs cl =>
    obtain ⟨ms, h1, _⟩ := h
    exact (Array.getElem?_eq_some_iff.1 h1).1
  | itr i since seen last =>
    obtain ⟨lm, _, _, h1⟩ := h
    exact (Array.getElem?_eq_some_iff.1 h1).1

theorem Since.refl (ρ : Rho) (h : H) (w : World) : Since ρ h w ρ h w :=
  ⟨fun _ _ e => e, rfl, rfl, rfl, Nat.le_refl _, Nat.le_refl _, fun _ _ _ => rfl, fun i ob l h1 h2 h3 => .inl ⟨i, ob, l, h1, h2, h3, rfl⟩⟩
theorem Since.trans {ρ ρ1 ρ2 : Rho} {h h1 h2 : H} {w w1 w2 : World} (a : Since ρ h w ρ1 h1 w1) (b : Since ρ1 h1 w1 ρ2 h2 w2) : Since ρ h w ρ2 h2 w2 := by
  refine ⟨fun i l e => b.ext i l (a.ext i l e), b.os.trans a.os, b.tape.trans a.tape, b.output.trans a.output, Nat.le_trans a.size b.size, Nat.le_trans a.next b.next, fun k hk hn => ?_, fun i ob l e1 e2 e3 => ?_⟩
  · rw [b.frame k (Nat.lt_of_lt_of_le hk a.size) (fun i ob l e1 e2 e3 e4 => ?_)]
    · exact a.frame k hk hn
    · rcases a.own i ob l e1 e2 e3 with ⟨j, oj, lj, f1, f2, f3, f4⟩ | hge
      · exact hn j oj lj f1 f2 f3 (f4.trans e4)
      · omega
  · rcases b.own i ob l e1 e2 e3 with ⟨j, oj, lj, f1, f2, f3, f4⟩ | hge
    · rcases a.own j oj lj f1 f2 f3 with ⟨k, ok, lk, g1, g2, g3, g4⟩ | hge
      · exact .inl ⟨k, ok, lk, g1, g2, g3, g4.trans f4⟩
      · exact .inr (by omega)
    · exact .inr (Nat.le_trans a.size hge)
/-- Nothing but the draws' count has turned. -/
theorem Since.drew (ρ : Rho) (h : H) (w : World) : Since ρ h w ρ h w.drew :=
  ⟨fun _ _ e => e, rfl, rfl, rfl, Nat.le_refl _, Nat.le_refl _, fun _ _ _ => rfl, fun i ob l h1 h2 h3 => .inl ⟨i, ob, l, h1, h2, h3, rfl⟩⟩
theorem Rel.drew {ρ : Rho} {h : H} {w : World} (r : Rel ρ h w) : Rel ρ h w.drew :=
  ⟨fun i ob e => by
    obtain ⟨l, h1, h2⟩ := r.obj i ob e
    exact ⟨l, h1, h2.mono (fun _ _ e => e) rfl⟩, r.sep⟩

/-! ### A new block -/
def Rho.add (ρ : Rho) (n : Nat) (l : Loc) : Rho := fun i => if i = n then some l else ρ i
theorem Rho.add_ext {ρ : Rho} {n : Nat} (hd : Dom ρ n) (l : Loc) : ∀ i x, ρ i = some x → ρ.add n l i = some x := by
  intro i x h
  unfold Rho.add
  rw [if_neg]
  · exact h
  · rintro rfl
    rw [hd i (Nat.le_refl _)] at h
    cases h
theorem Rho.add_self (ρ : Rho) (n : Nat) (l : Loc) : ρ.add n l n = some l := by simp [Rho.add]
theorem Dom.add {ρ : Rho} {n : Nat} (hd : Dom ρ n) (l : Loc) : Dom (ρ.add n l) (n + 1) := by
  intro i hi
  unfold Rho.add
  rw [if_neg (by omega)]
  exact hd i (by omega)
theorem Dom.mono {ρ : Rho} {n m : Nat} (hd : Dom ρ n) (h : n ≤ m) : Dom ρ m := fun i hi => hd i (by omega)
/-- A new object at a block that nobody has: one more. -/
theorem Rel.push {ρ : Rho} {h : H} {w w' : World} {l : Loc} {ob : Obj} (r : Rel ρ h w) (hd : Dom ρ h.next) (hl : w.heap.size ≤ l.b)
    (hold : ∀ b, b < w.heap.size → w'.heap[b]? = w.heap[b]?) (hob : ObjRel (ρ.add h.next l) w' l ob) : Rel (ρ.add h.next l) (h.push ob) w' := by
  have he := Rho.add_ext hd l
  constructor
  · intro i ob' hi
    simp only [H.push] at hi
    split at hi
    · rename_i e
      subst e
      injection hi with hi
      subst hi
      exact ⟨l, Rho.add_self _ _ _, hob⟩
    · obtain ⟨li, h1, h2⟩ := r.obj i ob' hi
      exact ⟨li, he _ _ h1, h2.mono he (hold _ h2.lt)⟩
  · intro i j oi oj li lj hi hj ho hij e1 e2
    simp only [H.push] at hi hj
    split at hi
    · rename_i e
      subst e
      rw [Rho.add_self] at e1
      injection e1 with e1
      subst e1
      rw [if_neg (fun e => hij e.symm)] at hj
      obtain ⟨lj', h1, h2⟩ := r.obj j oj hj
      rw [he _ _ h1] at e2
      injection e2 with e2
      subst e2
      have := h2.lt
      omega
    · obtain ⟨li', h1, h2⟩ := r.obj i oi hi
      rw [he _ _ h1] at e1
      injection e1 with e1
      subst e1
      split at hj
      · rename_i e
        subst e
        rw [Rho.add_self] at e2
        injection e2 with e2
        subst e2
        have := h2.lt
        omega
      · obtain ⟨lj', h3, h4⟩ := r.obj j oj hj
        rw [he _ _ h3] at e2
        injection e2 with e2
        subst e2
        exact r.sep i j oi oj _ _ hi hj ho hij h1 h3
theorem Since.push {ρ : Rho} {h : H} {w w' : World} {l : Loc} {ob : Obj} (r : Rel ρ h w) (hd : Dom ρ h.next) (hl : w.heap.size ≤ l.b) (hos : w'.os = w.os) (htape : w'.tape = w.tape) (hout : w'.output = w.output)
    (hsize : w.heap.size ≤ w'.heap.size) (hold : ∀ b, b < w.heap.size → w'.heap[b]? = w.heap[b]?) : Since ρ h w (ρ.add h.next l) (h.push ob) w' := by
  refine ⟨Rho.add_ext hd l, hos, htape, hout, hsize, Nat.le_succ _, fun b hb _ => hold b hb, fun i ob' l' h1 h2 h3 => ?_⟩
  simp only [H.push] at h1
  split at h1
  · rename_i e
    subst e
    rw [Rho.add_self] at h3
    injection h3 with h3
    subst h3
    exact .inr hl
  · obtain ⟨li, a, b⟩ := r.obj i ob' h1
    rw [Rho.add_ext hd l _ _ a] at h3
    injection h3 with h3
    subst h3
    exact .inl ⟨i, ob', li, h1, h2, a, rfl⟩
/-- A new row of cells. -/
theorem objRel_new {ρ : Rho} {w : World} {cells : List Value} {e sz lim : Nat} {cs : List V} (hv : VsRel ρ cs cells) (h1 : ∀ u ∈ cells, u.oneCell' = true) (rest : List Value) (hlim : lim = cells.length + rest.length) :
    ObjRel ρ { w with heap := w.heap.push (.cells (cells ++ rest).toArray e) } ⟨w.heap.size, 0, lim, sz⟩ (.row true sz cs) := by
  refine ⟨rfl, ?_, (cells ++ rest).toArray, e, (0, 0), by simp, ?_, fun _ => .inl rfl, fun j c hc => ?_⟩
  · simp only
    have := hv.1
    omega
  · simp
    omega
  · obtain ⟨u, hu, hr⟩ := hv.get hc
    have hj := (List.getElem?_eq_some_iff.1 hu).1
    refine ⟨u, ?_, h1 u (List.mem_of_getElem? hu), hr⟩
    simp only [Nat.zero_add, List.getElem?_toArray]
    rw [List.getElem?_append_left hj]
    exact hu
end Go.Ab
/-! Stores, appends: what they do to the relation. -/
namespace Go.Ab
open Go

theorem H.ext' {h k : H} (h1 : h.next = k.next) (h2 : h.obj = k.obj) : h = k := by
  cases h
  cases k
  simp at h1 h2
  subst h1 h2
  rfl
theorem H.obj_set_same {h : H} {i : Nat} {ob ob' : Obj} (hi : h.obj i = some ob) : (h.set i ob').obj i = some ob' := by simp [H.set, hi]
theorem H.obj_set_ne (h : H) {i j : Nat} (ob : Obj) (hj : j ≠ i) : (h.set i ob).obj j = h.obj j := by simp [H.set, hj]
theorem H.obj_push_new (h : H) (ob : Obj) : (h.push ob).obj h.next = some ob := by simp [H.push]
theorem H.obj_push_old {h : H} {i : Nat} (ob : Obj) (hi : i ≠ h.next) : (h.push ob).obj i = h.obj i := by simp [H.push, hi]
theorem H.obj_push {h : H} {i : Nat} {ob' : Obj} (ob : Obj) (hi : h.obj i = some ob') : (h.push ob).obj i = some ob' := by
  rw [H.obj_push_old _ (Nat.ne_of_lt (h.lt i ob' hi)), hi]
theorem H.obj_kill_same (h : H) (i : Nat) : (h.kill i).obj i = none := by simp [H.kill]
theorem H.obj_kill_ne (h : H) {i j : Nat} (hj : j ≠ i) : (h.kill i).obj j = h.obj j := by simp [H.kill, hj]
theorem H.set_set (h : H) (i : Nat) (a b : Obj) : (h.set i a).set i b = h.set i b := by
  refine H.ext' rfl (funext fun j => ?_)
  by_cases hj : j = i
  · subst hj
    cases hh : h.obj j <;> simp [H.set, hh]
  · simp [H.set, hj]
theorem H.set_self {h : H} {i : Nat} {ob : Obj} (hi : h.obj i = some ob) : h.set i ob = h := by
  refine H.ext' rfl (funext fun j => ?_)
  by_cases hj : j = i
  · subst hj
    simp [H.set, hi]
  · simp [H.set, hj]

section
variable {ρ : Rho} {h : H} {w w' : World} {i : Nat} {l : Loc} {ob ob' : Obj}
theorem Rel.upd (r : Rel ρ h w) (hi : h.obj i = some ob) (ho : ob.own = true) (hl : ρ i = some l) (hother : ∀ b, b ≠ l.b → w'.heap[b]? = w.heap[b]?) (hob : ObjRel ρ w' l ob') (ho' : ob'.own = true) : Rel ρ (h.set i ob') w' := by
  constructor
  · intro j oj hj
    by_cases e : j = i
    · subst e
      rw [H.obj_set_same hi] at hj
      injection hj with hj
      subst hj
      exact ⟨l, hl, hob⟩
    · rw [H.obj_set_ne _ _ e] at hj
      obtain ⟨lj, h1, h2⟩ := r.obj j oj hj
      refine ⟨lj, h1, h2.mono (fun _ _ e => e) (hother _ ?_)⟩
      exact fun e2 => r.sep i j ob oj l lj hi hj ho (fun e3 => e e3.symm) hl h1 e2.symm
  · intro j k oj ok lj lk hj hk hoj hjk e1 e2
    by_cases ej : j = i
    · subst ej
      rw [hl] at e1
      injection e1 with e1
      subst e1
      rw [H.obj_set_ne _ _ (fun e => hjk e.symm)] at hk
      exact r.sep j k ob ok l lk hi hk ho hjk hl e2
    · rw [H.obj_set_ne _ _ ej] at hj
      by_cases ek : k = i
      · subst ek
        rw [hl] at e2
        injection e2 with e2
        subst e2
        exact r.sep j k oj ob lj l hj hi hoj hjk e1 hl
      · rw [H.obj_set_ne _ _ ek] at hk
        exact r.sep j k oj ok lj lk hj hk hoj hjk e1 e2
theorem Since.upd (r : Rel ρ h w) (hi : h.obj i = some ob) (ho : ob.own = true) (hl : ρ i = some l) (hother : ∀ b, b ≠ l.b → w'.heap[b]? = w.heap[b]?) (ho' : ob'.own = true)
    (hos : w'.os = w.os) (htape : w'.tape = w.tape) (hout : w'.output = w.output) (hsize : w.heap.size ≤ w'.heap.size) : Since ρ h w ρ (h.set i ob') w' := by
  refine ⟨fun _ _ e => e, hos, htape, hout, hsize, Nat.le_refl _, fun b hb hn => hother b ?_, fun j oj lj h1 h2 h3 => ?_⟩
  · rintro rfl
    exact hn i ob l hi ho hl rfl
  · by_cases e : j = i
    · subst e
      exact .inl ⟨j, ob, lj, hi, ho, h3, rfl⟩
    · rw [H.obj_set_ne _ _ e] at h1
      exact .inl ⟨j, oj, lj, h1, h2, h3, rfl⟩
theorem Rel.kill (r : Rel ρ h w) (i : Nat) : Rel ρ (h.kill i) w := by
  constructor
  · intro j oj hj
    by_cases e : j = i
    · subst e
      simp [H.obj_kill_same] at hj
    · rw [H.obj_kill_ne _ e] at hj
      exact r.obj j oj hj
  · intro j k oj ok lj lk hj hk
    by_cases e : j = i
    · subst e
      simp [H.obj_kill_same] at hj
    by_cases e' : k = i
    · subst e'
      simp [H.obj_kill_same] at hk
    rw [H.obj_kill_ne _ e] at hj
    rw [H.obj_kill_ne _ e'] at hk
    exact r.sep j k oj ok lj lk hj hk
theorem Since.kill (ρ : Rho) (h : H) (w : World) (i : Nat) : Since ρ h w ρ (h.kill i) w := by
  refine ⟨fun _ _ e => e, rfl, rfl, rfl, Nat.le_refl _, Nat.le_refl _, fun _ _ _ => rfl, fun j ob l h1 h2 h3 => ?_⟩
  by_cases e : j = i
  · subst e
    simp [H.obj_kill_same] at h1
  · rw [H.obj_kill_ne _ e] at h1
    exact .inl ⟨j, ob, l, h1, h2, h3, rfl⟩
/-- A block goes over from one object to a new one. -/
theorem Rel.move {l' : Loc} (r : Rel ρ h w) (hd : Dom ρ h.next) (hi : h.obj i = some ob) (ho : ob.own = true) (hl : ρ i = some l) (hb : l'.b = l.b) (hother : ∀ b, b ≠ l.b → w'.heap[b]? = w.heap[b]?)
    (hob : ObjRel (ρ.add h.next l') w' l' ob') : Rel (ρ.add h.next l') ((h.kill i).push ob') w' := by
  have he := Rho.add_ext hd l'
  have hin : i ≠ h.next := Nat.ne_of_lt (h.lt i ob hi)
  have key : ∀ j oj, ((h.kill i).push ob').obj j = some oj → (j = h.next ∧ oj = ob') ∨ (j ≠ h.next ∧ j ≠ i ∧ h.obj j = some oj) := by
    intro j oj hj
    by_cases e : j = h.next
    · subst e
      have : ((h.kill i).push ob').obj h.next = some ob' := H.obj_push_new (h.kill i) ob'
      rw [this] at hj
      injection hj with hj
      exact .inl ⟨rfl, hj.symm⟩
    · have : ((h.kill i).push ob').obj j = (h.kill i).obj j := H.obj_push_old (h := h.kill i) ob' e
      rw [this] at hj
      by_cases e' : j = i
      · subst e'
        simp [H.obj_kill_same] at hj
      · rw [H.obj_kill_ne _ e'] at hj
        exact .inr ⟨e, e', hj⟩
  have far : ∀ j oj lj, j ≠ i → h.obj j = some oj → ρ j = some lj → lj.b ≠ l.b := fun j oj lj e hj e1 e2 => r.sep i j ob oj l lj hi hj ho (fun e3 => e e3.symm) hl e1 e2.symm
  constructor
  · intro j oj hj
    rcases key j oj hj with ⟨rfl, rfl⟩ | ⟨e1, e2, e3⟩
    · exact ⟨l', Rho.add_self _ _ _, hob⟩
    · obtain ⟨lj, h1, h2⟩ := r.obj j oj e3
      exact ⟨lj, he _ _ h1, h2.mono he (hother _ (far j oj lj e2 e3 h1))⟩
  · intro j k oj ok lj lk hj hk hoj hjk e1 e2
    rcases key j oj hj with ⟨rfl, rfl⟩ | ⟨a1, a2, a3⟩
    · rw [Rho.add_self] at e1
      injection e1 with e1
      subst e1
      rcases key k ok hk with ⟨rfl, rfl⟩ | ⟨b1, b2, b3⟩
      · exact absurd rfl hjk
      · obtain ⟨lk', h1, _⟩ := r.obj k ok b3
        rw [he _ _ h1] at e2
        injection e2 with e2
        subst e2
        rw [hb]
        exact fun e => far k ok lk' b2 b3 h1 e.symm
    · obtain ⟨lj', h1, _⟩ := r.obj j oj a3
      rw [he _ _ h1] at e1
      injection e1 with e1
      subst e1
      rcases key k ok hk with ⟨rfl, rfl⟩ | ⟨b1, b2, b3⟩
      · rw [Rho.add_self] at e2
        injection e2 with e2
        subst e2
        rw [hb]
        exact far j oj lj' a2 a3 h1
      · obtain ⟨lk', h3, _⟩ := r.obj k ok b3
        rw [he _ _ h3] at e2
        injection e2 with e2
        subst e2
        exact r.sep j k oj ok _ _ a3 b3 hoj hjk h1 h3
theorem Since.move {l' : Loc} (r : Rel ρ h w) (hd : Dom ρ h.next) (hi : h.obj i = some ob) (ho : ob.own = true) (hl : ρ i = some l) (hb : l'.b = l.b) (hother : ∀ b, b ≠ l.b → w'.heap[b]? = w.heap[b]?)
    (hos : w'.os = w.os) (htape : w'.tape = w.tape) (hout : w'.output = w.output) (hsize : w.heap.size ≤ w'.heap.size) : Since ρ h w (ρ.add h.next l') ((h.kill i).push ob') w' := by
  refine ⟨Rho.add_ext hd l', hos, htape, hout, hsize, Nat.le_succ _, fun b hb' hn => hother b ?_, fun j oj lj h1 h2 h3 => ?_⟩
  · rintro rfl
    exact hn i ob l hi ho hl rfl
  · by_cases e : j = h.next
    · subst e
      rw [Rho.add_self] at h3
      injection h3 with h3
      subst h3
      exact .inl ⟨i, ob, l, hi, ho, hl, hb.symm⟩
    · have : ((h.kill i).push ob').obj j = (h.kill i).obj j := H.obj_push_old (h := h.kill i) ob' e
      rw [this] at h1
      by_cases e' : j = i
      · subst e'
        simp [H.obj_kill_same] at h1
      · rw [H.obj_kill_ne _ e'] at h1
        obtain ⟨lj', a, b⟩ := r.obj j oj h1
        rw [Rho.add_ext hd l' _ _ a] at h3
        injection h3 with h3
        subst h3
        exact .inl ⟨j, oj, lj', h1, h2, a, rfl⟩
end

theorem add_plain (b o n : Nat) : (⟨b, o, none⟩ : Addr).add n = ⟨b, o + n, none⟩ := by unfold Addr.add; split <;> simp_all

/-! ### Reading cells -/
theorem Rel.cell {ρ : Rho} {h : H} {w : World} {i off : Nat} {v : V} {l : Loc} (r : Rel ρ h w) (hc : Cell h i off v) (hl : ρ i = some l) : ∃ u, w.cell? ⟨l.b, l.o + off, none⟩ = some u ∧ u.oneCell' = true ∧ VRel ρ v u := by
  obtain ⟨o, sz, cs, hi, hv⟩ := hc
  obtain ⟨l', h1, _, _, cells, e, fr, h2, _, _, h3⟩ := r.obj i _ hi
  rw [hl] at h1
  injection h1 with h1
  subst h1
  obtain ⟨u, h4, h5, h6⟩ := h3 off v hv
  exact ⟨u, by simp [World.cell?, h2, h4], h5, h6⟩
theorem Rel.cells {ρ : Rho} {h : H} {w : World} {i off n : Nat} {vs : List V} {l : Loc} (r : Rel ρ h w) (hc : Cells h i off n vs) (hl : ρ i = some l) :
    ∃ us : List Value, VsRel ρ vs us ∧ us.length = n ∧ (∀ u ∈ us, u.oneCell' = true) ∧ ∀ j u, us[j]? = some u → w.cell? ⟨l.b, l.o + off + j, none⟩ = some u := by
  obtain ⟨o, sz, cs, hi, hn, rfl⟩ := hc
  have hcell : ∀ j, j < n → ∃ v u, cs[off + j]? = some v ∧ w.cell? ⟨l.b, l.o + off + j, none⟩ = some u ∧ u.oneCell' = true ∧ VRel ρ v u := by
    intro j hj
    have hlt : off + j < cs.length := by omega
    obtain ⟨u, h1, h2, h3⟩ := r.cell (off := off + j) ⟨o, sz, cs, hi, List.getElem?_eq_getElem hlt⟩ hl
    exact ⟨_, u, List.getElem?_eq_getElem hlt, by rw [Nat.add_assoc]; exact h1, h2, h3⟩
  refine ⟨(List.range n).map fun j => (w.cell? ⟨l.b, l.o + off + j, none⟩).getD default, ?_, by simp, ?_, ?_⟩
  · refine VsRel.of_get (by simp; omega) fun j c hj => ?_
    rw [List.getElem?_take] at hj
    split at hj
    · rename_i hlt
      obtain ⟨v, u, h1, h2, h3, h4⟩ := hcell j hlt
      rw [List.getElem?_drop, h1] at hj
      injection hj with hj
      subst hj
      exact ⟨u, by simp [hlt, h2], h4⟩
    · cases hj
  · intro u hu
    simp only [List.mem_map, List.mem_range] at hu
    obtain ⟨j, hj, rfl⟩ := hu
    obtain ⟨v, u, h1, h2, h3, h4⟩ := hcell j hj
    rw [h2]
    exact h3
  · intro j u hu
    have hlt : j < n := by
      have := (List.getElem?_eq_some_iff.1 hu).1
      simpa using this
    obtain ⟨v, u', h1, h2, h3, h4⟩ := hcell j hlt
    simp [hlt, h2] at hu
    subst hu
    exact h2
theorem run_loadCells_plain {P : Program} {w : World} {b o : Nat} {us : List Value} (h : ∀ j u, us[j]? = some u → w.cell? ⟨b, o + j, none⟩ = some u) : (loadCells ⟨b, o, none⟩ us.length).run P w = .ok us.toArray w :=
  run_loadCells_list w _ us (fun j v hj => by rw [add_plain]; exact h j v hj)

/-! ### Storing cells -/
theorem store1 {P : Program} {ρ : Rho} {h : H} {w : World} {i off sz : Nat} {cs : List V} {l : Loc} {c : V} {u : Value} (r : Rel ρ h w) (hi : h.obj i = some (.row true sz cs)) (hl : ρ i = some l) (ho : off < cs.length)
    (hc : VRel ρ c u) (h1 : u.oneCell' = true) : ∃ w', (store ⟨l.b, l.o + off, none⟩ u).run P w = .ok () w' ∧ Rel ρ (h.set i (.row true sz (cs.set off c))) w' ∧ Since ρ h w ρ (h.set i (.row true sz (cs.set off c))) w' := by
  obtain ⟨l', e1, g1, g2, cells, e, fr, g3, g4, g5, g6⟩ := r.obj i _ hi
  rw [hl] at e1
  injection e1 with e1
  subst e1
  have hfr : frOk fr cells.size := g5 rfl
  obtain ⟨f1, f2⟩ := fr
  have hlt : l.o + off < cells.size := by omega
  have hb := (Array.getElem?_eq_some_iff.1 g3).1
  refine ⟨w.setCell ⟨l.b, l.o + off, none⟩ u, ?_, ?_, ?_⟩
  · rw [run_store P w _ u .plain h1]
    have hnf : ¬ (f1 ≤ l.o + off ∧ l.o + off < f2) := hfr.no hlt
    simp [World.cell?, World.frozen?, g3, hlt]
    exact fun a => Nat.le_of_not_lt (fun b => hnf ⟨a, b⟩)
  · refine r.upd hi rfl hl (fun b hne => ?_) ?_ rfl
    · simp [World.setCell, Array.getElem?_modify, hne.symm]
    · refine ⟨g1, by simpa using g2, cells.setIfInBounds (l.o + off) u, e, (f1, f2), ?_, by simpa using g4, fun _ => by simpa using hfr, fun j c' hj => ?_⟩
      · simp [World.setCell, Array.getElem?_modify, g3]
      · rw [List.getElem?_set] at hj
        split at hj
        · rename_i e'
          subst e'
          injection hj with hj
          subst hj
          exact ⟨u, by simp [hlt], h1, hc⟩
        · rename_i e'
          obtain ⟨u', a1, a2, a3⟩ := g6 j c' hj
          refine ⟨u', ?_, a2, a3⟩
          rw [Array.getElem?_setIfInBounds_ne (by omega)]
          exact a1
  · exact Since.upd r hi rfl hl (fun b hne => by simp [World.setCell, Array.getElem?_modify, hne.symm]) rfl rfl rfl rfl (by simp [World.setCell])

theorem stores {P : Program} {ρ : Rho} {i off sz : Nat} {l : Loc} (hl : ρ i = some l) : ∀ (us : List Value) (vs : List V) (k : Nat) (cs : List V) (h : H) (w : World), Rel ρ h w → h.obj i = some (.row true sz cs) → VsRel ρ vs us → (∀ u ∈ us, u.oneCell' = true) →
    off + k + vs.length ≤ cs.length → ∃ w', (storeCells ⟨l.b, l.o + off, none⟩ us k).run P w = .ok () w' ∧ Rel ρ (h.set i (.row true sz (splice cs (off + k) vs))) w' ∧ Since ρ h w ρ (h.set i (.row true sz (splice cs (off + k) vs))) w'
  | [], vs, k, cs, h, w, r, hi, hv, h1, hn => by
    have : vs = [] := List.eq_nil_of_length_eq_zero hv.1
    subst this
    refine ⟨w, rfl, ?_, ?_⟩
    · simp only [splice]
      rw [H.set_self hi]
      exact r
    · simp only [splice]
      rw [H.set_self hi]
      exact Since.refl _ _ _
  | u :: us, vs, k, cs, h, w, r, hi, hv, h1, hn => by
    cases vs with
    | nil => simp [VsRel] at hv
    | cons v vs =>
      obtain ⟨u', us', e, hvu, hvs⟩ := hv.uncons
      injection e with e1 e2
      subst e1 e2
      simp only [List.length_cons] at hn
      obtain ⟨w1, s1, s2, s3⟩ := store1 (P := P) r hi hl (off := off + k) (by omega) hvu (h1 u (by simp))
      obtain ⟨w2, t1, t2, t3⟩ := stores (off := off) hl us vs (k + 1) (cs.set (off + k) v) (h.set i (.row true sz (cs.set (off + k) v))) w1 s2 (H.obj_set_same hi) hvs (fun x hx => h1 x (by simp [hx])) (by simp; omega)
      refine ⟨w2, ?_, ?_, ?_⟩
      · rw [← Nat.add_assoc] at s1
        simp only [storeCells, add_plain, Sem.run_bind, s1, Result.andThen_ok]
        exact t1
      · rw [H.set_set] at t2
        simp only [splice]
        exact t2
      · rw [H.set_set] at t3
        simp only [splice]
        exact s3.trans t3
end Go.Ab
/-! Operations that look at no memory, or only read: what the abstract answer says of the run. -/
namespace Go.Ab
open Go

/-! ### The table of types -/
def DM : TypeDesc → TD → Prop
  | .bool, .bool => True
  | .int k, .int k' => k = k'
  | .string, .str => True
  | .pointer e, .ptr e' => e = e'
  | .slice e, .sl e' => e = e'
  | .map k e, .mp k' e' => k = k' ∧ e = e'
  | .struct fs, .st l => fs.toList.map (fun f => (f.type, f.offset)) = l
  | .array n e, .arr n' e' => n = n' ∧ e = e'
  | _, _ => False
structure TyOk (P : Program) (t : Nat) (ti : TI) : Prop where
  tys : ∃ m, P.types.size = m + 1
  und : ∃ d, P.underlying t = some d ∧ DM d ti.d
  info : ∃ i z, P.info? t = some i ∧ i.size = ti.size ∧ i.bytes = ti.bytes ∧ i.zero = some z ∧ (∀ ρ, VRel ρ ti.zero z) ∧ isV ti.zero = true ∧ (vcells ti.zero).length = ti.size
  kst : ∀ kt et, ti.d = .mp kt et → ∀ fs, P.underlying kt = some (.struct fs) → P.keyTypeAt 3 kt = true ∧ P.tiled 3 kt = true
def TOk (P : Program) (T : TT) : Prop := ∀ t, has T t = true → TyOk P t (T.at_ t)

section
variable {P : Program} {T : TT} (hT : TOk P T)
include hT
theorem TOk.of_int {t : Nat} {k : IntKind} (h : (T.at_ t).d = .int k) : P.underlying t = some (.int k) := by
  obtain ⟨d, h1, h2⟩ := (hT t (by simp [has, h])).und
  rw [h] at h2
  cases d <;> simp [DM] at h2
  rw [h1, h2]
theorem TOk.of_bool {t : Nat} (h : (T.at_ t).d = .bool) : P.underlying t = some .bool := by
  obtain ⟨d, h1, h2⟩ := (hT t (by simp [has, h])).und
  rw [h] at h2
  cases d <;> simp [DM] at h2
  exact h1
theorem TOk.of_str {t : Nat} (h : (T.at_ t).d = .str) : P.underlying t = some .string := by
  obtain ⟨d, h1, h2⟩ := (hT t (by simp [has, h])).und
  rw [h] at h2
  cases d <;> simp [DM] at h2
  exact h1
theorem TOk.of_ptr {t e : Nat} (h : (T.at_ t).d = .ptr e) : P.underlying t = some (.pointer e) := by
  obtain ⟨d, h1, h2⟩ := (hT t (by simp [has, h])).und
  rw [h] at h2
  cases d <;> simp [DM] at h2
  rw [h1, h2]
theorem TOk.of_sl {t e : Nat} (h : (T.at_ t).d = .sl e) : P.underlying t = some (.slice e) := by
  obtain ⟨d, h1, h2⟩ := (hT t (by simp [has, h])).und
  rw [h] at h2
  cases d <;> simp [DM] at h2
  rw [h1, h2]
theorem TOk.of_mp {t k e : Nat} (h : (T.at_ t).d = .mp k e) : P.underlying t = some (.map k e) := by
  obtain ⟨d, h1, h2⟩ := (hT t (by simp [has, h])).und
  rw [h] at h2
  cases d <;> simp [DM] at h2
  rw [h1, h2.1, h2.2]
theorem TOk.of_st {t : Nat} {l : List (Nat × Nat)} (h : (T.at_ t).d = .st l) : ∃ fs, P.underlying t = some (.struct fs) ∧ fs.toList.map (fun f => (f.type, f.offset)) = l := by
  obtain ⟨d, h1, h2⟩ := (hT t (by simp [has, h])).und
  rw [h] at h2
  cases d <;> simp [DM] at h2
  exact ⟨_, h1, h2⟩
theorem TOk.of_arr {t n e : Nat} (h : (T.at_ t).d = .arr n e) : P.underlying t = some (.array n e) := by
  obtain ⟨d, h1, h2⟩ := (hT t (by simp [has, h])).und
  rw [h] at h2
  cases d <;> simp [DM] at h2
  rw [h1, h2.1, h2.2]
theorem TOk.size {t : Nat} (h : has T t = true) (w : World) : (sizeOf t).run P w = .ok (T.at_ t).size w := by
  obtain ⟨i, z, h1, h2, _⟩ := (hT t h).info
  simp [sizeOf, typeInfo, h1, h2]
theorem TOk.isAgg {t : Nat} (w : World) : (aggK T t = .agg → (isAgg t).run P w = .ok true w) ∧ (aggK T t = .one → (isAgg t).run P w = .ok false w) := by
  have hh : has T t = true → ∃ d, P.underlying t = some d ∧ DM d (T.at_ t).d := fun h => (hT t h).und
  unfold has at hh
  unfold aggK
  cases hd : (T.at_ t).d with
  | other => simp
  | _ =>
    rw [hd] at hh
    obtain ⟨d, h1, h2⟩ := hh rfl
    constructor <;> intro hk <;> simp at hk <;> cases d <;> simp [DM] at h2 <;> simp [Go.isAgg, run_underlying h1]
end

/-! ### The temporaries -/
structure ERel (ρ : Rho) (N : Nat) (env : Env) (a : Act) : Prop where
  size : a.tmps.size = N
  rel : ∀ t, VRel ρ (get env t) (a.tmps.getD t Go.undef)
theorem ERel.mono {ρ ρ' : Rho} (he : ∀ i l, ρ i = some l → ρ' i = some l) {N : Nat} {env : Env} {a : Act} (h : ERel ρ N env a) : ERel ρ' N env a := ⟨h.size, fun t => (h.rel t).mono he⟩
theorem ERel.forget {ρ : Rho} {N : Nat} {env env' : Env} {a : Act} (h : ERel ρ N env a) (hf : Forget env env') : ERel ρ N env' a := by
  refine ⟨h.size, fun t => ?_⟩
  rcases hf t with e | e
  · rw [e]
    exact .undef _
  · rw [e]
    exact h.rel t
theorem get_cons (t : Nat) (v : V) (env : Env) (n : Nat) : get ((t, v) :: env) n = if t = n then v else get env n := by
  simp only [get]
  cases h : Nat.beq t n with
  | true => simp [Nat.eq_of_beq_eq_true h]
  | false => simp [Nat.ne_of_beq_eq_false h]
theorem ERel.put {ρ : Rho} {N : Nat} {env : Env} {a : Act} (h : ERel ρ N env a) {d : Option Nat} {v : V} {u : Value} (hv : VRel ρ v u) (hd : ∀ t, d = some t → t < N) {K : Env → Prop} (hK : put env d v K) : ∃ env', ERel ρ N env' (a.put d u) ∧ K env' := by
  cases d with
  | none => exact ⟨env, h, hK⟩
  | some t =>
    have ht := hd t rfl
    refine ⟨(t, v) :: env, ⟨by simp [Act.put, h.size], fun n => ?_⟩, hK⟩
    rw [get_cons]
    simp only [Act.put]
    split
    · rename_i e
      subst e
      rw [← h.size] at ht
      simpa [Array.getD_eq_getD_getElem?, ht] using hv
    · rename_i e
      have := h.rel n
      simp only [Array.getD_eq_getD_getElem?] at this ⊢
      rw [Array.getElem?_setIfInBounds_ne e]
      exact this
theorem ofCell_rel (ρ : Rho) (v : Value) : VRel ρ (ofCell v) v := by
  unfold ofCell
  split <;> first | exact .undef _ | constructor
theorem opv_rel {ρ : Rho} {N : Nat} {env : Env} {a : Act} (h : ERel ρ N env a) (x : Operand) : VRel ρ (opv env x) (a.eval x) := by
  cases x with
  | tmp t => exact h.rel t
  | global g => exact .undef _
  | func f => exact .fn f
  | const v =>
    simp only [opv, Act.eval]
    unfold ofConst
    split
    · rename_i cs
      split
      case h_2 => exact .undef _
      rename_i hall
      rw [List.all_eq_true] at hall
      have hv : VsRel ρ (cs.toList.map ofCell) cs.toList := ⟨by simp, fun j c u hc hu => by
        simp only [List.getElem?_map, hu, Option.map_some] at hc
        injection hc with hc
        subst hc
        exact ofCell_rel ρ u⟩
      exact .agg _ cs.toList hall hv.1 hv.2
    · exact ofCell_rel ρ v

/-! ### What a value must be -/
section
variable {ρ : Rho}
theorem VRel.int_inv {k : IntKind} {n : Int} {u : Value} (h : VRel ρ (.int k n) u) : u = .int k n := by cases h; rfl
theorem VRel.bool_inv {b : Bool} {u : Value} (h : VRel ρ (.bool b) u) : u = .bool b := by cases h; rfl
theorem VRel.fn_inv {f : Nat} {u : Value} (h : VRel ρ (.fn f) u) : u = .func (.func f) #[] #[] := by cases h; rfl
theorem VRel.str_inv {s : List Int} {u : Value} (h : VRel ρ (.str s) u) : ∃ b, u = .string b ∧ s = b.data.toList.map fun b => (b.toNat : Int) := by cases h; exact ⟨_, rfl, rfl⟩
theorem VRel.nilp_inv {u : Value} (h : VRel ρ (.ptr none) u) : u = .pointer none := by cases h; rfl
theorem VRel.ptr_inv {i o : Nat} {u : Value} (h : VRel ρ (.ptr (some (i, o))) u) : ∃ l, ρ i = some l ∧ u = .pointer (some ⟨l.b, l.o + o, none⟩) := by cases h with | ptr i o l h => exact ⟨l, h, rfl⟩
theorem VRel.agg_inv {cs : List V} {u : Value} (h : VRel ρ (.agg cs) u) : ∃ us : List Value, u = .agg us.toArray ∧ VsRel ρ cs us ∧ ∀ x ∈ us, x.oneCell' = true := by cases h with | agg cs us h1 hl hc => exact ⟨us, rfl, ⟨hl, hc⟩, h1⟩
theorem VRel.tup_inv {cs : List V} {u : Value} (h : VRel ρ (.tup cs) u) : ∃ us : List Value, u = .tuple us.toArray ∧ VsRel ρ cs us := by cases h with | tup cs us hl hc => exact ⟨us, rfl, ⟨hl, hc⟩⟩
theorem VRel.sl_inv {p : Option (Nat × Nat)} {n : Nat} {u : Value} (h : VRel ρ (.sl p n) u) : (p = none ∧ n = 0 ∧ u = .slice none 0 0) ∨
    ∃ i o cap a l, p = some (i, o) ∧ u = .slice (some a) n cap ∧ ρ i = some l ∧ n ≤ cap ∧ cap ≤ maxLen ∧ (0 < cap → a = ⟨l.b, l.o + o, none⟩) ∧ o + cap * l.sz ≤ l.lim := by
  cases h with
  | nils => exact .inl ⟨rfl, rfl, rfl⟩
  | sl i o n cap a l h hn hm ha hl => exact .inr ⟨i, o, cap, a, l, rfl, rfl, h, hn, hm, ha, hl⟩
theorem VRel.mp_inv {p : Option Nat} {u : Value} (h : VRel ρ (.mp p) u) : (p = none ∧ u = .map none) ∨ ∃ i l, p = some i ∧ u = .map (some l.b) ∧ ρ i = some l := by
  cases h with
  | nilm => exact .inl ⟨rfl, rfl⟩
  | mp i l h => exact .inr ⟨i, l, rfl, rfl, h⟩
theorem VRel.ptr_opt {p : Option (Nat × Nat)} {u : Value} (h : VRel ρ (.ptr p) u) : ∃ a, u = .pointer a ∧ a.isNone = p.isNone := by
  cases h with
  | nilp => exact ⟨none, rfl, rfl⟩
  | ptr i o l h => exact ⟨_, rfl, rfl⟩
end
theorem fv_iff {v : V} {K : V → Prop} : fv v K ↔ K v := by cases v <;> rfl
theorem chk_iff {b : Bool} {X : Prop} : chk b X ↔ b = true ∧ X := by cases b <;> simp [chk]
theorem br_iff {b : Bool} {X Y : Prop} : br b X Y ↔ (b = true → X) ∧ (b = false → Y) := by cases b <;> simp [br]
theorem kEq_eq {a b : IntKind} (h : kEq a b = true) : a = b := by cases a <;> cases b <;> simp [kEq] at h <;> rfl
end Go.Ab
/-! Operations that look at no memory: soundness. -/
namespace Go.Ab
open Go

/-- The operation gives v, in whatever world. -/
def PSem (P : Program) (o : Oper) (env : Env) (v : V) : Prop := ∀ ρ N (a : Act) (w : World), ERel ρ N env a → ∃ u, (execOp a.eval o).run P w = .ok (.value u) w ∧ VRel ρ v u

theorem intBin_sound {P : Program} {op : BinOp} {k k' : IntKind} {a b : Int} {K : V → Prop} (h : intBin op k k' a b K) (t : TypeId) : ∃ v, K v ∧ ∀ ρ (w : World), ∃ u, (binOp op t (.int k a) (.int k' b)).run P w = .ok u w ∧ VRel ρ v u := by
  cases op <;> simp only [intBin, chk_iff] at h
  case add => obtain ⟨hk, h⟩ := h; cases kEq_eq hk; exact ⟨_, h, fun ρ w => ⟨_, by simp [binOp, Op.intArith], .int _ _⟩⟩
  case sub => obtain ⟨hk, h⟩ := h; cases kEq_eq hk; exact ⟨_, h, fun ρ w => ⟨_, by simp [binOp, Op.intArith], .int _ _⟩⟩
  case mul => obtain ⟨hk, h⟩ := h; cases kEq_eq hk; exact ⟨_, h, fun ρ w => ⟨_, by simp [binOp, Op.intArith], .int _ _⟩⟩
  case quo => obtain ⟨hk, hb, h⟩ := h; cases kEq_eq hk; exact ⟨_, h, fun ρ w => ⟨_, by simp [binOp, Op.intDiv, hb], .int _ _⟩⟩
  case rem => obtain ⟨hk, hb, h⟩ := h; cases kEq_eq hk; exact ⟨_, h, fun ρ w => ⟨_, by simp [binOp, Op.intDiv, hb], .int _ _⟩⟩
  case and => obtain ⟨hk, h⟩ := h; cases kEq_eq hk; exact ⟨_, h, fun ρ w => ⟨_, by simp [binOp, Op.intBits], .int _ _⟩⟩
  case or => obtain ⟨hk, h⟩ := h; cases kEq_eq hk; exact ⟨_, h, fun ρ w => ⟨_, by simp [binOp, Op.intBits], .int _ _⟩⟩
  case xor => obtain ⟨hk, h⟩ := h; cases kEq_eq hk; exact ⟨_, h, fun ρ w => ⟨_, by simp [binOp, Op.intBits], .int _ _⟩⟩
  case andNot => obtain ⟨hk, h⟩ := h; cases kEq_eq hk; exact ⟨_, h, fun ρ w => ⟨_, by simp [binOp, Op.intBits], .int _ _⟩⟩
  case shl => obtain ⟨hb, h⟩ := h; exact ⟨_, h, fun ρ w => ⟨_, by simp [binOp, Op.shift, show ¬ b < 0 by omega], .int _ _⟩⟩
  case shr => obtain ⟨hb, h⟩ := h; exact ⟨_, h, fun ρ w => ⟨_, by simp [binOp, Op.shift, show ¬ b < 0 by omega], .int _ _⟩⟩
  case eql => obtain ⟨hk, h⟩ := h; cases kEq_eq hk; exact ⟨_, h, fun ρ w => ⟨_, by simp [binOp, Op.intCmp], .bool _⟩⟩
  case neq => obtain ⟨hk, h⟩ := h; cases kEq_eq hk; exact ⟨_, h, fun ρ w => ⟨_, by simp [binOp, Op.intCmp], .bool _⟩⟩
  case lss => obtain ⟨hk, h⟩ := h; cases kEq_eq hk; exact ⟨_, h, fun ρ w => ⟨_, by simp [binOp, Op.intCmp], .bool _⟩⟩
  case leq => obtain ⟨hk, h⟩ := h; cases kEq_eq hk; exact ⟨_, h, fun ρ w => ⟨_, by simp [binOp, Op.intCmp], .bool _⟩⟩
  case gtr => obtain ⟨hk, h⟩ := h; cases kEq_eq hk; exact ⟨_, h, fun ρ w => ⟨_, by simp [binOp, Op.intCmp], .bool _⟩⟩
  case geq => obtain ⟨hk, h⟩ := h; cases kEq_eq hk; exact ⟨_, h, fun ρ w => ⟨_, by simp [binOp, Op.intCmp], .bool _⟩⟩

def sInts (b : ByteArray) : List Int := b.data.toList.map fun b => (b.toNat : Int)
theorem map_toNat_inj : ∀ (a b : List UInt8), (a.map fun b => (b.toNat : Int)) = (b.map fun b => (b.toNat : Int)) → a = b
  | [], [], _ => rfl
  | [], _ :: _, h => by simp at h
  | _ :: _, [], h => by simp at h
  | x :: a, y :: b, h => by
    simp only [List.map_cons, List.cons.injEq] at h
    have h1 : x = y := UInt8.toNat_inj.1 (by omega)
    rw [h1, map_toNat_inj a b h.2]
theorem bytes_eq (a b : ByteArray) : (a.toList == b.toList) = (sInts a == sInts b) := by
  rw [ByteArray.toList_eq, ByteArray.toList_eq, Bool.eq_iff_iff, beq_iff_eq, beq_iff_eq]
  exact ⟨fun h => by unfold sInts; rw [h], fun h => map_toNat_inj _ _ h⟩
/-- What the comparison of two structs of integers and bools needs of a type. -/
def EqOk (P : Program) (T : TT) : Prop := ∀ t fs, (T.at_ t).d = .st fs → flatTy T 0 fs = true → ∀ ρ xs ys a b, flat T fs xs = some a → flat T fs ys = some b →
  ∀ (x y : Operand) u1 u2 (w : World), VRel ρ (.agg xs) u1 → VRel ρ (.agg ys) u2 → (eqGuard .eql t x y u1 u2).run P w = .ok () w ∧ (eqGuard .neq t x y u1 u2).run P w = .ok () w ∧ (Op.equal t u1 u2).run P w = .ok (a == b) w ∧ ∃ c1 c2, u1 = .agg c1 ∧ u2 = .agg c2

theorem eqGuard_other {P : Program} {op : BinOp} {t : TypeId} {x y : Operand} {a b : Value} {w : World} (h2 : ∀ c, a ≠ .agg c) (h3 : a ≠ .nilIface) : (eqGuard op t x y a b).run P w = .ok () w := by
  cases a <;> first
    | exact absurd rfl h3
    | exact absurd rfl (h2 _)
    | (cases op <;> rfl)
section
variable {P : Program} {t e k : TypeId} {w : World}
theorem In_equal_bool (ht : P.underlying t = some .bool) (d : Nat) (a b : Bool) : (Op.equalIn (d + 1) t (.bool a) (.bool b)).run P w = .ok (a == b) w := by
  simp only [Op.equalIn, Sem.run_bind, run_underlying ht, Result.andThen_ok, Sem.run_pure]
theorem equal_bool (ht : P.underlying t = some .bool) (a b : Bool) : (Op.equal t (.bool a) (.bool b)).run P w = .ok (a == b) w := In_equal_bool ht 9999 a b
theorem In_equal_ptr_nil (ht : P.underlying t = some (.pointer e)) (d : Nat) (a : Option Addr) : (Op.equalIn (d + 1) t (.pointer a) (.pointer none)).run P w = .ok a.isNone w := by
  cases a <;> simp only [Op.equalIn, Sem.run_bind, run_underlying ht, Result.andThen_ok, Sem.run_pure] <;> rfl
theorem equal_ptr_nil (ht : P.underlying t = some (.pointer e)) (a : Option Addr) : (Op.equal t (.pointer a) (.pointer none)).run P w = .ok a.isNone w := In_equal_ptr_nil ht 9999 a
theorem In_equal_nil_ptr (ht : P.underlying t = some (.pointer e)) (d : Nat) (a : Option Addr) : (Op.equalIn (d + 1) t (.pointer none) (.pointer a)).run P w = .ok a.isNone w := by
  cases a <;> simp only [Op.equalIn, Sem.run_bind, run_underlying ht, Result.andThen_ok, Sem.run_pure]
theorem equal_nil_ptr (ht : P.underlying t = some (.pointer e)) (a : Option Addr) : (Op.equal t (.pointer none) (.pointer a)).run P w = .ok a.isNone w := In_equal_nil_ptr ht 9999 a
theorem In_equal_sl_nil (ht : P.underlying t = some (.slice e)) (d : Nat) (a : Option Addr) (n c n' c' : Nat) : (Op.equalIn (d + 1) t (.slice a n c) (.slice none n' c')).run P w = .ok a.isNone w := by
  cases a <;> simp only [Op.equalIn, Sem.run_bind, run_underlying ht, Result.andThen_ok, Sem.run_pure] <;> rfl
theorem equal_sl_nil (ht : P.underlying t = some (.slice e)) (a : Option Addr) (n c n' c' : Nat) : (Op.equal t (.slice a n c) (.slice none n' c')).run P w = .ok a.isNone w := In_equal_sl_nil ht 9999 a n c n' c'
theorem In_equal_mp_nil (ht : P.underlying t = some (.map k e)) (d : Nat) (a : Option Nat) : (Op.equalIn (d + 1) t (.map a) (.map none)).run P w = .ok a.isNone w := by
  cases a <;> simp only [Op.equalIn, Sem.run_bind, run_underlying ht, Result.andThen_ok, Sem.run_pure] <;> rfl
theorem equal_mp_nil (ht : P.underlying t = some (.map k e)) (a : Option Nat) : (Op.equal t (.map a) (.map none)).run P w = .ok a.isNone w := In_equal_mp_nil ht 9999 a
end
theorem eqB_sound {P : Program} {T : TT} (hT : TOk P T) (hE : EqOk P T) {t : Nat} {x y : V} {K : Bool → Prop} (h : eqB T t x y K) (ho : ∀ k n k' m, ¬ (x = .int k n ∧ y = .int k' m)) :
    ∃ b, K b ∧ ∀ ρ (xo yo : Operand) u1 u2 (w : World), VRel ρ x u1 → VRel ρ y u2 →
      (do eqGuard .eql t xo yo u1 u2; binOp .eql t u1 u2 : Sem Value).run P w = .ok (.bool b) w ∧ (do eqGuard .neq t xo yo u1 u2; binOp .neq t u1 u2 : Sem Value).run P w = .ok (.bool (!b)) w := by
  unfold eqB at h
  split at h
  · -- bools
    split at h
    · rename_i a b ht
      refine ⟨_, h, fun ρ xo yo u1 u2 w r1 r2 => ?_⟩
      rw [r1.bool_inv, r2.bool_inv]
      simp [eqGuard_other, binOp, equal_bool (hT.of_bool ht)]
    · exact h.elim
  · -- strings
    refine ⟨_, h, fun ρ xo yo u1 u2 w r1 r2 => ?_⟩
    obtain ⟨s1, rfl, rfl⟩ := r1.str_inv
    obtain ⟨s2, rfl, rfl⟩ := r2.str_inv
    have := bytes_eq s1 s2
    unfold sInts at this
    rw [← this]
    simp [eqGuard_other, binOp, Op.stringOp]
  · -- a pointer and nil
    split at h
    · rename_i p e ht
      refine ⟨_, h, fun ρ xo yo u1 u2 w r1 r2 => ?_⟩
      rw [r2.nilp_inv]
      obtain ⟨a, rfl, ha⟩ := r1.ptr_opt
      rw [← ha]
      simp [eqGuard_other, binOp, equal_ptr_nil (hT.of_ptr ht), equal_nil_ptr (hT.of_ptr ht)]
    · exact h.elim
  · split at h
    · rename_i p e _ _ ht
      refine ⟨_, h, fun ρ xo yo u1 u2 w r1 r2 => ?_⟩
      rw [r1.nilp_inv]
      obtain ⟨a, rfl, ha⟩ := r2.ptr_opt
      rw [← ha]
      simp [eqGuard_other, binOp, equal_ptr_nil (hT.of_ptr ht), equal_nil_ptr (hT.of_ptr ht)]
    · exact h.elim
  · -- a slice and nil
    split at h
    · rename_i p _ _ e ht
      refine ⟨_, h, fun ρ xo yo u1 u2 w r1 r2 => ?_⟩
      have h2 : ∃ n c, u2 = .slice none n c := by
        rcases r2.sl_inv with ⟨_, _, rfl⟩ | ⟨_, _, _, _, _, h, _⟩
        · exact ⟨_, _, rfl⟩
        · cases h
      obtain ⟨n2, c2, rfl⟩ := h2
      rcases r1.sl_inv with ⟨rfl, _, rfl⟩ | ⟨i, o, cap, a, l, rfl, rfl, _⟩ <;> simp [eqGuard_other, binOp, equal_sl_nil (hT.of_sl ht)]
    · exact h.elim
  · -- a map and nil
    split at h
    · rename_i p k e ht
      refine ⟨_, h, fun ρ xo yo u1 u2 w r1 r2 => ?_⟩
      have h2 : u2 = .map none := by
        rcases r2.mp_inv with ⟨_, rfl⟩ | ⟨_, _, h, _⟩
        · rfl
        · cases h
      subst h2
      rcases r1.mp_inv with ⟨rfl, rfl⟩ | ⟨i, l, rfl, rfl, _⟩ <;> simp [eqGuard_other, binOp, equal_mp_nil (hT.of_mp ht)]
    · exact h.elim
  · -- structs
    rename_i xs ys
    split at h
    · rename_i fs ht
      rw [chk_iff] at h
      obtain ⟨hf, a, b, ha, hb, h⟩ := h
      refine ⟨_, h, fun ρ xo yo u1 u2 w r1 r2 => ?_⟩
      obtain ⟨g1, g2, g3, c1, c2, rfl, rfl⟩ := hE t fs ht hf ρ xs ys a b ha hb xo yo u1 u2 w r1 r2
      constructor
      · simp [g1, binOp, g3]
      · simp [g2, binOp, g3]
    · exact h.elim
  · exact h.elim
end Go.Ab
/-! Operations that look at no memory, and those that read it: soundness, whole. -/
namespace Go.Ab
open Go

theorem splice_length {α : Type} : ∀ (vs cs : List α) (o : Nat), (splice cs o vs).length = cs.length
  | [], cs, o => rfl
  | v :: vs, cs, o => by simp [splice, splice_length vs]
theorem VsRel.splice {ρ : Rho} : ∀ (vs : List V) (ws : List Value) (cs : List V) (us : List Value) (o : Nat), VsRel ρ cs us → VsRel ρ vs ws → VsRel ρ (splice cs o vs) (splice us o ws)
  | [], ws, cs, us, o, h, k => by
    have : ws = [] := List.eq_nil_of_length_eq_zero k.1.symm
    subst this
    exact h
  | v :: vs, ws, cs, us, o, h, k => by
    obtain ⟨u, us', rfl, k1, k2⟩ := k.uncons
    exact VsRel.splice vs us' _ _ _ (h.set o k1) k2
theorem splice_all {p : Value → Bool} : ∀ (vs cs : List Value) (o : Nat), (∀ u ∈ cs, p u = true) → (∀ u ∈ vs, p u = true) → ∀ u ∈ splice cs o vs, p u = true
  | [], cs, o, h, k, u, hu => h u hu
  | v :: vs, cs, o, h, k, u, hu => by
    refine splice_all vs (cs.set o v) (o + 1) (fun x hx => ?_) (fun x hx => k x (by simp [hx])) u hu
    rcases List.mem_or_eq_of_mem_set hx with hx | rfl
    · exact h x hx
    · exact k _ (by simp)
theorem foldl_splice (off : Nat) : ∀ (us : List Value) (k : Nat) (arr : Array Value), ((us.zipIdx k).foldl (fun cs p => cs.setIfInBounds (off + p.2) p.1) arr).toList = splice arr.toList (off + k) us
  | [], k, arr => rfl
  | u :: us, k, arr => by
    simp only [List.zipIdx_cons, List.foldl_cons, splice]
    rw [foldl_splice off us (k + 1)]
    simp [Nat.add_assoc]

section
variable {P : Program} {T : TT}
theorem run_part (hT : TOk P T) {t off : Nat} {cs : List V} {us : List Value} {K : V → Prop} (h : partV T t cs off K) : ∃ v, K v ∧ ∀ ρ (us : List Value) (w : World), VsRel ρ cs us → (∀ u ∈ us, u.oneCell' = true) → ∃ u, (part t us.toArray off).run P w = .ok u w ∧ VRel ρ v u := by
  unfold partV at h
  split at h
  · rename_i hk
    obtain ⟨hl, h⟩ := h
    refine ⟨_, h, fun ρ us w hv h1 => ⟨.agg (us.toArray.extract off (off + (T.at_ t).size)), by
      have hh : has T t = true := by
        unfold aggK at hk
        unfold has
        split at hk <;> simp_all
      simp only [part, Sem.run_bind, (hT.isAgg w).1 hk, Result.andThen_ok, if_true, hT.size hh, Sem.run_pure], ?_⟩⟩
    have he : us.toArray.extract off (off + (T.at_ t).size) = ((us.drop off).take (T.at_ t).size).toArray := by
      apply Array.ext'
      simp [Array.toList_extract, List.extract]
    rw [he]
    have := (hv.drop off).take (T.at_ t).size
    exact .agg _ _ (fun u hu => h1 u (List.mem_of_mem_drop (List.mem_of_mem_take hu))) this.1 this.2
  · rename_i hk
    obtain ⟨v, hc, h⟩ := h
    refine ⟨v, fv_iff.1 h, fun ρ us w hv h1 => ?_⟩
    obtain ⟨u, hu, hr⟩ := hv.get hc
    exact ⟨u, by simp [part, (hT.isAgg w).2 hk, hu], hr⟩
  · exact h.elim

theorem fill_sound {env : Env} {t : Nat} {place : Nat → Option (Nat × Nat)} : ∀ (parts : List (Nat × Operand)) (cs : List V) (K : List V → Prop), (∀ i off size, places T t i = some (off, size) → 1 ≤ size → place i = some (off, size)) → fillV T env t cs parts K →
    ∃ ds, K ds ∧ ∀ ρ N (a : Act) (us : List Value), ERel ρ N env a → VsRel ρ cs us → (∀ u ∈ us, u.oneCell' = true) → ∃ us' : List Value, Instr.fill place us.toArray (parts.map fun p => (p.1, a.eval p.2)) = some us'.toArray ∧ VsRel ρ ds us' ∧ (∀ u ∈ us', u.oneCell' = true) ∧ us'.length = us.length
  | [], cs, K, hp, h => ⟨cs, h, fun ρ N a us ha hv h1 => ⟨us, rfl, hv, h1, rfl⟩⟩
  | (i, x) :: r, cs, K, hp, h => by
    unfold fillV at h
    split at h
    · rename_i off size hpl
      simp only [fv_iff, chk_iff] at h
      obtain ⟨hsz, hv1, hlen, hfit, h⟩ := h
      have hsz' := Nat.le_of_ble_eq_true hsz
      have hlen' := Nat.eq_of_beq_eq_true hlen
      have hfit' := Nat.le_of_ble_eq_true hfit
      obtain ⟨ds, hK, hrun⟩ := fill_sound r _ K hp h
      refine ⟨ds, hK, fun ρ N a us ha hv h1 => ?_⟩
      obtain ⟨hc, hc1⟩ := (opv_rel ha x).cells hv1
      have hcl : (a.eval x).cells.size = size := by
        rw [← Array.length_toList, ← hc.1, hlen']
      obtain ⟨us', e1, e2, e3, e4⟩ := hrun ρ N a (splice us off (a.eval x).cells.toList) ha (VsRel.splice _ _ _ _ off hv hc) (splice_all _ _ _ h1 hc1)
      refine ⟨us', ?_, e2, e3, by rw [e4, splice_length]⟩
      simp only [List.map_cons, Instr.fill]
      rw [hp i off size hpl hsz']
      have hle : ¬ (off + size > us.length) := by
        have := hv.1
        omega
      have hf := foldl_splice off (a.eval x).cells.toList 0 us.toArray
      have hg : ((a.eval x).cells.zipIdx.foldl (fun cs p => cs.setIfInBounds (off + p.2) p.1) us.toArray) = (splice us off (a.eval x).cells.toList).toArray := by
        apply Array.ext'
        rw [← Array.foldl_toList, Array.toList_zipIdx, hf]
        simp
      simp only [hcl, List.size_toArray]
      rw [if_neg (by simp [hle])]
      rw [← e1]
      exact congrArg (fun z => Instr.fill place z (r.map fun p => (p.1, a.eval p.2))) hg
    · exact h.elim

theorem unO_sound {op : UnOp} {x : V} {K : V → Prop} (h : unO op x K) : ∃ v, K v ∧ ∀ ρ u (w : World), VRel ρ x u → ∃ u', (Op.unary op u).run P w = .ok u' w ∧ VRel ρ v u' := by
  unfold unO at h
  split at h
  · exact ⟨_, h, fun ρ u w r => ⟨_, by rw [r.int_inv]; simp [Op.unary, Op.intArith], .int _ _⟩⟩
  · exact ⟨_, h, fun ρ u w r => ⟨_, by rw [r.int_inv]; simp only [Op.unary, Op.intBits]; rfl, .int _ _⟩⟩
  · exact ⟨_, h, fun ρ u w r => ⟨_, by rw [r.bool_inv]; simp [Op.unary], .bool _⟩⟩
  · exact h.elim
end
end Go.Ab
/-! Operations that look at no memory: whole. -/
namespace Go.Ab
open Go

theorem run_sliceBound {P : Program} {w : World} {k : IntKind} {m y : Nat} {code : BoundsCode} (h : m ≤ y) : (Instr.sliceBound (.int k (m : Int)) y code).run P w = .ok m w := by
  simp only [Instr.sliceBound, asIntOf, Sem.run_bind, Sem.run_pure, Result.andThen_ok]
  rw [if_pos ⟨by omega, by omega⟩]
  simp
theorem boundO_sound {env : Env} {x : Option Operand} {d : Nat} {K : Nat → Prop} (h : boundO env x d K) : ∃ m, K m ∧ (x = none → m = d) ∧ ∀ x', x = some x' → ∃ k, opv env x' = .int k (m : Int) := by
  unfold boundO at h
  split at h
  · exact ⟨d, h, fun _ => rfl, fun x' e => by cases e⟩
  · rename_i x'
    split at h
    · rename_i k n hn
      obtain ⟨m, rfl, hK⟩ := h
      exact ⟨m, hK, (fun e => by cases e), (fun x'' e => by cases e; exact ⟨k, hn⟩)⟩
    · exact h.elim
theorem run_sliceBounds {P : Program} {w : World} {ρ : Rho} {N : Nat} {env : Env} {a : Act} (ha : ERel ρ N env a) {b : Bool} {lo hi : Option Operand} {l m n cap : Nat} (hl : (lo = none → l = 0) ∧ ∀ x', lo = some x' → ∃ k, opv env x' = .int k (l : Int))
    (hm : (hi = none → m = n) ∧ ∀ x', hi = some x' → ∃ k, opv env x' = .int k (m : Int)) (h1 : l ≤ m) (h2 : m ≤ n) (h3 : n ≤ cap) : (Instr.sliceBounds b n cap (lo.map a.eval) (hi.map a.eval) none).run P w = .ok (l, m, cap) w := by
  have hhi : ∀ code, (match hi.map a.eval with
      | some v => Instr.sliceBound v cap code
      | none => pure n : Sem Nat).run P w = .ok m w := by
    intro code
    cases hi with
    | none => simp [hm.1 rfl]
    | some x =>
      obtain ⟨k, hk⟩ := hm.2 x rfl
      have := opv_rel ha x
      rw [hk] at this
      rw [Option.map_some, this.int_inv]
      exact run_sliceBound (by omega)
  cases hi with
  | none =>
    have e := hm.1 rfl
    subst e
    cases lo with
    | none =>
      have e := hl.1 rfl
      subst e
      simp [Instr.sliceBounds]
    | some x =>
      obtain ⟨k, hk⟩ := hl.2 x rfl
      have := opv_rel ha x
      rw [hk] at this
      have e := this.int_inv
      simp [Instr.sliceBounds, e, run_sliceBound h1]
  | some y =>
    obtain ⟨k, hk⟩ := hm.2 y rfl
    have r1 := opv_rel ha y
    rw [hk] at r1
    have e1 := r1.int_inv
    have hb : ∀ code, (Instr.sliceBound (.int k (m : Int)) cap code).run P w = .ok m w := fun code => run_sliceBound (by omega)
    cases lo with
    | none =>
      have e := hl.1 rfl
      subst e
      simp [Instr.sliceBounds, e1, hb]
    | some x =>
      obtain ⟨k', hk'⟩ := hl.2 x rfl
      have := opv_rel ha x
      rw [hk'] at this
      have e := this.int_inv
      simp [Instr.sliceBounds, e, e1, hb, run_sliceBound h1]

section
variable {P : Program} {T : TT}
theorem run_fieldAt (hT : TOk P T) {s f t d : Nat} {fs : List (Nat × Nat)} (hs : (T.at_ s).d = .st fs) (hf : fs[f]? = some (t, d)) (hh : has T t = true) (hsz : 1 ≤ (T.at_ t).size) (b o : Nat) (w : World) : (Instr.fieldAt s (.pointer (some ⟨b, o, none⟩)) f).run P w = .ok (.pointer (some ⟨b, o + d, none⟩)) w := by
  obtain ⟨fs', h1, h2⟩ := hT.of_st hs
  have hf' : ∃ fl, fs'[f]? = some fl ∧ fl.type = t ∧ fl.offset = d := by
    rw [← h2, List.getElem?_map] at hf
    obtain ⟨fl, e1, e2⟩ := Option.map_eq_some_iff.1 hf
    simp at e2
    exact ⟨fl, by simpa using e1, e2.1, e2.2⟩
  obtain ⟨fl, e1, rfl, rfl⟩ := hf'
  simp only [Instr.fieldAt, Sem.run_bind, run_underlying h1, Result.andThen_ok, e1, Instr.sureAddr, Sem.run_pure, fieldPlace, hT.size hh]
  rw [if_neg (by omega)]
  simp [add_plain]
theorem run_index_str {t : Nat} {b : ByteArray} {j : Nat} {y : UInt8} {k : IntKind} {w : World} (hs : P.underlying t = some .string) (hy : b[j]? = some y) : (Instr.index t (.string b) (.int k (j : Int))).run P w = .ok (.int .u8 y.toNat) w := by
  have e : (if 0 ≤ (j : Int) then b[(j : Int).toNat]? else none) = some y := by
    rw [if_pos (Int.natCast_nonneg j), Int.toNat_natCast]
    exact hy
  unfold Instr.index
  rw [Sem.run_bind]
  show Result.andThen (Sem.run P (asIntOf (.int k (j : Int))) w) _ = _
  rw [show Sem.run P (asIntOf (.int k (j : Int))) w = .ok (k, (j : Int)) w from rfl, Result.andThen_ok, Sem.run_bind, run_underlying hs, Result.andThen_ok]
  show Sem.run P (match (if 0 ≤ (j : Int) then b[(j : Int).toNat]? else none) with
    | some b => (pure (Value.int .u8 b.toNat) : Sem Value)
    | none => boundsPanic k (j : Int) b.size .index) w = _
  rw [e]
  rfl
theorem run_sliceAt_str {t : Nat} {b : ByteArray} {l m : Nat} {lo hi : Option Value} {w : World} (hs : P.underlying t = some .string) (hb : (Instr.sliceBounds false b.size b.size lo hi none).run P w = .ok (l, m, b.size) w) : (Instr.sliceAt t (.string b) lo hi none).run P w = .ok (.string (b.extract l m)) w := by
  unfold Instr.sliceAt
  rw [Sem.run_bind, run_underlying hs, Result.andThen_ok]
  show Sem.run P (Instr.slice t (.string b) lo hi none) w = _
  unfold Instr.slice
  rw [Sem.run_bind, run_underlying hs, Result.andThen_ok]
  show Sem.run P (do
    let (l, h, _) ← Instr.sliceBounds false b.size b.size lo hi none
    pure (Value.string (b.extract l h)) : Sem Value) w = _
  rw [Sem.run_bind, hb]
  rfl
theorem Rel.arr_cells {ρ : Rho} {us : List Value} (h : ∀ u ∈ us, u.oneCell' = true) : ∀ u ∈ us, u.oneCell' = true := h
theorem has_of {t : Nat} {d : TD} (h : (T.at_ t).d = d) (hd : d ≠ .other) : has T t = true := by
  unfold has
  rw [h]
  cases d <;> simp at hd ⊢

theorem pCall_sound (hT : TOk P T) {c : Call} {dst : Option Tmp} {type : TypeId} {pos : String} {after : Array Edge} {guard : Option (Nat × Bool)} {env : Env} {K : V → Prop} (h : pCall T c env K) : ∃ v, K v ∧ PSem P ⟨dst, .call c, type, pos, after, guard⟩ env v := by
  obtain ⟨callee, ⟨args⟩, ⟨argTypes⟩⟩ := c
  simp only [pCall] at h
  split at h
  · rename_i x t
    have run : ∀ (a : Act) (w : World) (u : Value), (Builtin.len_ #[t] type #[a.eval x]).run P w = .ok u w → (execOp a.eval ⟨dst, .call ⟨.builtin .len, #[x], #[t]⟩, type, pos, after, guard⟩).run P w = .ok (.value u) w := by
      intro a w u hu
      simp [execOp, resolve, invoke, builtin, hu]
    split at h
    · rename_i e p n ht hx
      refine ⟨_, h, fun ρ N a w ha => ?_⟩
      have r := opv_rel ha x
      rw [hx] at r
      refine ⟨.int .i64 n, run a w _ ?_, .int _ _⟩
      rcases r.sl_inv with ⟨rfl, rfl, e⟩ | ⟨i, o, cap, ad, l, rfl, e, _⟩ <;> simp [Builtin.len_, e, run_underlying (hT.of_sl ht), goInt]
    · rename_i s ht hx
      refine ⟨_, h, fun ρ N a w ha => ?_⟩
      have r := opv_rel ha x
      rw [hx] at r
      obtain ⟨b, e, rfl⟩ := r.str_inv
      have hbs : (b.data.toList.map fun b => (b.toNat : Int)).length = b.size := by
        rw [List.length_map, Array.length_toList]
        rfl
      refine ⟨.int .i64 b.size, run a w _ ?_, by rw [hbs]; exact .int _ _⟩
      simp [Builtin.len_, e, run_underlying (hT.of_str ht), goInt]
    · rename_i n e ht
      refine ⟨_, h, fun ρ N a w ha => ?_⟩
      refine ⟨.int .i64 n, run a w _ ?_, .int _ _⟩
      simp [Builtin.len_, run_underlying (hT.of_arr ht), goInt]
    · exact h.elim
  · rename_i x y
    split at h
    · rename_i k m k' n hx hy
      refine ⟨_, h, fun ρ N a w ha => ?_⟩
      have r1 := opv_rel ha x
      have r2 := opv_rel ha y
      rw [hx] at r1
      rw [hy] at r2
      exact ⟨_, by simp [execOp, resolve, invoke, builtin, Builtin.min_, r1.int_inv, r2.int_inv, Builtin.min2], .int _ _⟩
    · exact h.elim
  · rename_i x y
    split at h
    · rename_i k m k' n hx hy
      refine ⟨_, h, fun ρ N a w ha => ?_⟩
      have r1 := opv_rel ha x
      have r2 := opv_rel ha y
      rw [hx] at r1
      rw [hy] at r2
      exact ⟨_, by simp [execOp, resolve, invoke, builtin, Builtin.max_, r1.int_inv, r2.int_inv, Builtin.max2], .int _ _⟩
    · exact h.elim
  · exact h.elim

theorem pO_sound (hT : TOk P T) (hE : EqOk P T) {o : Oper} {env : Env} {K : V → Prop} (h : pO T o env K) : ∃ v, K v ∧ PSem P o env v := by
  obtain ⟨dst, op, type, pos, after, guard⟩ := o
  cases op with
  | move x => exact ⟨_, fv_iff.1 h, fun ρ N a w ha => ⟨_, rfl, opv_rel ha x⟩⟩
  | assign x => exact ⟨_, fv_iff.1 h, fun ρ N a w ha => ⟨_, rfl, opv_rel ha x⟩⟩
  | pick c x y =>
    simp only [pO] at h
    split at h
    · rename_i g hg
      rw [br_iff] at h
      have hc : ∀ ρ N (a : Act), ERel ρ N env a → a.eval c = .bool g := fun ρ N a ha => by
        have := opv_rel ha c
        rw [hg] at this
        exact this.bool_inv
      cases g with
      | true => exact ⟨_, fv_iff.1 (h.1 rfl), fun ρ N a w ha => ⟨a.eval x, by simp [execOp, hc ρ N a ha, asBool], opv_rel ha x⟩⟩
      | false => exact ⟨_, fv_iff.1 (h.2 rfl), fun ρ N a w ha => ⟨a.eval y, by simp [execOp, hc ρ N a ha, asBool], opv_rel ha y⟩⟩
    · exact h.elim
  | makeFunc fn fs caps =>
    obtain ⟨fs⟩ := fs
    obtain ⟨caps⟩ := caps
    cases fn with
    | func f =>
      cases fs with
      | cons _ _ => exact h.elim
      | nil =>
        refine ⟨_, h, fun ρ N a w ha => ?_⟩
        have key : ∀ l : List Operand, VsRel ρ (l.map (opv env)) (l.map a.eval) := fun l => by
          induction l with
          | nil => exact VsRel.nil ρ
          | cons x l ih => exact VsRel.cons (opv_rel ha x) ih
        have hk := key caps
        refine ⟨.func (.func f) #[] (caps.map a.eval).toArray, ?_, .clo f _ _ hk.1 hk.2⟩
        simp [execOp, Instr.makeFunc]
    | _ => exact h.elim
  | nilCheck x =>
    simp only [pO] at h
    split at h
    · rename_i p hp
      refine ⟨_, h, fun ρ N a w ha => ?_⟩
      have r := opv_rel ha x
      rw [hp] at r
      obtain ⟨l, hl, e⟩ := r.ptr_inv
      exact ⟨_, by simp [execOp, e], .ptr _ _ l hl⟩
    · exact h.elim
  | binOp op t x y yt =>
    simp only [pO] at h
    unfold binO at h
    split at h
    · rename_i k a k' b hx hy
      obtain ⟨v, hK, hr⟩ := intBin_sound (P := P) h t
      refine ⟨v, hK, fun ρ N ac w ha => ?_⟩
      have r1 := opv_rel ha x
      have r2 := opv_rel ha y
      rw [hx] at r1
      rw [hy] at r2
      obtain ⟨u, e1, e2⟩ := hr ρ w
      exact ⟨u, by simp [execOp, r1.int_inv, r2.int_inv, eqGuard_other, e1], e2⟩
    · rename_i hno
      split at h
      · obtain ⟨b, hK, hr⟩ := eqB_sound hT hE h (fun k n k' m e => hno k n k' m e.1 e.2)
        refine ⟨_, hK, fun ρ N a w ha => ?_⟩
        have := (hr ρ x y _ _ w (opv_rel ha x) (opv_rel ha y)).1
        exact ⟨_, by simp only [execOp, Sem.run_bind, this, Result.andThen_ok, Sem.run_pure], .bool _⟩
      · obtain ⟨b, hK, hr⟩ := eqB_sound hT hE h (fun k n k' m e => hno k n k' m e.1 e.2)
        refine ⟨_, hK, fun ρ N a w ha => ?_⟩
        have := (hr ρ x y _ _ w (opv_rel ha x) (opv_rel ha y)).2
        exact ⟨_, by simp only [execOp, Sem.run_bind, this, Result.andThen_ok, Sem.run_pure], .bool _⟩
      · exact h.elim
  | unOp op t x =>
    obtain ⟨v, hK, hr⟩ := unO_sound (P := P) h
    refine ⟨v, hK, fun ρ N a w ha => ?_⟩
    obtain ⟨u, e1, e2⟩ := hr ρ _ w (opv_rel ha x)
    exact ⟨u, by simp [execOp, e1], e2⟩
  | convert src dst x =>
    simp only [pO] at h
    split at h
    · rename_i k k' n hd hx
      refine ⟨_, (chk_iff.1 h).2, fun ρ N a w ha => ?_⟩
      have r := opv_rel ha x
      rw [hx] at r
      obtain ⟨ds, hds, _⟩ := (hT src (chk_iff.1 h).1).und
      exact ⟨_, by simp [execOp, r.int_inv, convert, run_underlying hds, run_underlying (hT.of_int hd), Conv.intToInt], .int _ _⟩
    · exact h.elim
  | fieldAddr s x f =>
    simp only [pO] at h
    split at h
    · rename_i fs i off hs hx
      split at h
      · rename_i t d hf
        rw [chk_iff, chk_iff] at h
        refine ⟨_, h.2.2, fun ρ N a w ha => ?_⟩
        have r := opv_rel ha x
        rw [hx] at r
        obtain ⟨l, hl, e⟩ := r.ptr_inv
        exact ⟨.pointer (some ⟨l.b, l.o + (off + d), none⟩), by simp [execOp, e, run_fieldAt hT hs hf h.1 (Nat.le_of_ble_eq_true h.2.1), Nat.add_assoc], .ptr _ _ l hl⟩
      · exact h.elim
    · exact h.elim
  | field s x f =>
    simp only [pO] at h
    split at h
    · rename_i fs cs hs hx
      split at h
      · rename_i t d hf
        obtain ⟨fs', h1, h2⟩ := hT.of_st hs
        obtain ⟨v, hK, hr⟩ := run_part hT (us := []) h
        refine ⟨v, hK, fun ρ N a w ha => ?_⟩
        have r := opv_rel ha x
        rw [hx] at r
        obtain ⟨us, e, hv, h1'⟩ := r.agg_inv
        obtain ⟨u, e1, e2⟩ := hr ρ us w hv h1'
        have hf' : ∃ fl, fs'[f]? = some fl ∧ fl.type = t ∧ fl.offset = d := by
          rw [← h2, List.getElem?_map] at hf
          obtain ⟨fl, e1, e2⟩ := Option.map_eq_some_iff.1 hf
          simp at e2
          exact ⟨fl, by simpa using e1, e2.1, e2.2⟩
        obtain ⟨fl, g1, rfl, rfl⟩ := hf'
        exact ⟨u, by simp [execOp, e, Instr.field, run_underlying h1, g1, asAgg, e1], e2⟩
      · exact h.elim
    · exact h.elim
  | indexAddr t x ix =>
    simp only [pO] at h
    split at h
    · rename_i e p n k z ht hx hz
      rw [chk_iff] at h
      obtain ⟨hh, i, off, j, rfl, rfl, hj, h⟩ := h
      refine ⟨_, h, fun ρ N a w ha => ?_⟩
      have r := opv_rel ha x
      have r2 := opv_rel ha ix
      rw [hx] at r
      rw [hz] at r2
      rcases r.sl_inv with ⟨e1, _⟩ | ⟨i', o', cap, ad, l, e1, e2, hl, hn, hm, had, hlim⟩
      · cases e1
      · injection e1 with e1
        injection e1 with e1 e1'
        subst e1 e1'
        have := had (by omega)
        subst this
        exact ⟨.pointer (some ⟨l.b, l.o + (off + j * (T.at_ e).size), none⟩), by simp [execOp, e2, r2.int_inv, Instr.indexAt, asIntOf, run_underlying (hT.of_sl ht), hj, hT.size hh, add_plain, Nat.add_assoc], .ptr _ _ l hl⟩
    · rename_i n e i off k z ht hx hz
      rw [chk_iff] at h
      obtain ⟨hh, j, rfl, hj, h⟩ := h
      refine ⟨_, h, fun ρ N a w ha => ?_⟩
      have r := opv_rel ha x
      have r2 := opv_rel ha ix
      rw [hx] at r
      rw [hz] at r2
      obtain ⟨l, hl, e2⟩ := r.ptr_inv
      exact ⟨.pointer (some ⟨l.b, l.o + (off + j * (T.at_ e).size), none⟩), by simp [execOp, e2, r2.int_inv, Instr.indexAt, asIntOf, run_underlying (hT.of_arr ht), hj, hT.size hh, add_plain, Instr.sureAddr, Nat.add_assoc], .ptr _ _ l hl⟩
    · exact h.elim
  | index t x ix =>
    simp only [pO] at h
    split at h
    · rename_i n e cs k z ht hx hz
      rw [chk_iff] at h
      obtain ⟨hh, j, rfl, hj, h⟩ := h
      obtain ⟨v, hK, hr⟩ := run_part hT (us := []) h
      refine ⟨v, hK, fun ρ N a w ha => ?_⟩
      have r := opv_rel ha x
      have r2 := opv_rel ha ix
      rw [hx] at r
      rw [hz] at r2
      obtain ⟨us, e', hv, h1'⟩ := r.agg_inv
      obtain ⟨u, e1, e2⟩ := hr ρ us w hv h1'
      exact ⟨u, by simp [execOp, e', r2.int_inv, Instr.index, asIntOf, run_underlying (hT.of_arr ht), hj, hT.size hh, e1], e2⟩
    · rename_i s k z ht hx hz
      obtain ⟨j, c, rfl, hc, h⟩ := h
      refine ⟨_, h, fun ρ N a w ha => ?_⟩
      have r := opv_rel ha x
      have r2 := opv_rel ha ix
      rw [hx] at r
      rw [hz] at r2
      obtain ⟨b, e', rfl⟩ := r.str_inv
      rw [List.getElem?_map] at hc
      obtain ⟨y, hy, rfl⟩ := Option.map_eq_some_iff.1 hc
      have hy' : b[j]? = some y := by
        have hlt := (List.getElem?_eq_some_iff.1 hy).1
        have hlt' : j < b.size := by
          rw [Array.length_toList] at hlt
          exact hlt
        rw [getElem?_pos b j hlt']
        have := (List.getElem?_eq_some_iff.1 hy).2
        simp only [Array.getElem_toList] at this
        rw [← this]
        rfl
      exact ⟨.int .u8 y.toNat, by
        show (do pure (Next.value (← Instr.index t (a.eval x) (a.eval ix))) : Sem Next).run P w = _
        rw [e', r2.int_inv, Sem.run_bind, run_index_str (hT.of_str ht) hy']
        rfl, .int _ _⟩
    · exact h.elim
  | slice t x lo hi mx =>
    simp only [pO] at h
    split at h
    · rename_i s ht hx
      obtain ⟨l, h, hl1, hl2⟩ := boundO_sound h
      obtain ⟨m, ⟨h1, h2, h⟩, hm1, hm2⟩ := boundO_sound h
      refine ⟨_, h, fun ρ N a w ha => ?_⟩
      have r := opv_rel ha x
      rw [hx] at r
      obtain ⟨b, e', rfl⟩ := r.str_inv
      have hbs : (b.data.toList.map fun b => (b.toNat : Int)).length = b.size := by
        rw [List.length_map, Array.length_toList]
        rfl
      rw [hbs] at h2 hm1
      have hb := run_sliceBounds (P := P) (w := w) ha (b := false) (lo := lo) (hi := hi) ⟨hl1, hl2⟩ ⟨hm1, hm2⟩ h1 h2 (Nat.le_refl b.size)
      refine ⟨.string (b.extract l m), by
        show (do pure (Next.value (← Instr.sliceAt t (a.eval x) (lo.map a.eval) (hi.map a.eval) none)) : Sem Next).run P w = _
        rw [e', Sem.run_bind, run_sliceAt_str (hT.of_str ht) hb]
        rfl, ?_⟩
      have : ((b.data.toList.map fun b => (b.toNat : Int)).drop l).take (m - l) = (b.extract l m).data.toList.map fun b => (b.toNat : Int) := by
        rw [ByteArray.data_extract, Array.toList_extract, List.extract, List.map_take, List.map_drop]
      rw [this]
      exact .str _
    · exact h.elim
  | build t parts =>
    simp only [pO] at h
    have key : has T t = true → (fillV T env t (vcells (T.at_ t).zero) parts.toList fun cs => K (.agg cs)) → ∃ z : Value, (∀ w, (zeroValue t).run P w = .ok z w) ∧ ∀ (place : Nat → Option (Nat × Nat)), (∀ i off size, places T t i = some (off, size) → 1 ≤ size → place i = some (off, size)) → ∃ v, K v ∧ ∀ ρ N (a : Act) (w : World), ERel ρ N env a → ∃ us : List Value, Instr.fill place z.cells (parts.toList.map fun p => (p.1, a.eval p.2)) = some us.toArray ∧ VRel ρ v (.agg us.toArray) := by
      intro hh h
      obtain ⟨i, z, g1, g2, g3, g4, g5, g6, g7⟩ := (hT t hh).info
      refine ⟨z, fun w => by simp [zeroValue, typeInfo, g1, g4], ?_⟩
      intro place hp
      obtain ⟨ds, hK, hr⟩ := fill_sound (place := place) _ _ _ hp h
      refine ⟨_, hK, fun ρ N a w ha => ?_⟩
      obtain ⟨hv, h1⟩ := (g5 ρ).cells g6
      obtain ⟨us', e1, e2, e3, e4⟩ := hr ρ N a z.cells.toList ha hv h1
      exact ⟨us', by simpa using e1, .agg _ _ e3 e2.1 e2.2⟩
    split at h
    · rename_i l hd
      rw [chk_iff] at h
      obtain ⟨hall, h⟩ := h
      obtain ⟨fs, h1, h2⟩ := hT.of_st hd
      obtain ⟨z, hz, key⟩ := key (has_of hd (by simp)) h
      have hmap : ∀ w, (fs.mapM fun f => do pure (f.offset, ← sizeOf f.type) : Sem (Array (Nat × Nat))).run P w = .ok (fs.map fun f => (f.offset, (T.at_ f.type).size)) w := by
        intro w
        rw [Array.mapM_eq_mapM_toList, Sem.run_map]
        have hl : ∀ (l : List Field), (∀ f ∈ l, has T f.type = true) → (l.mapM fun f => do pure (f.offset, ← sizeOf f.type) : Sem (List (Nat × Nat))).run P w = .ok (l.map fun f => (f.offset, (T.at_ f.type).size)) w := by
          intro l
          induction l with
          | nil => intro _; simp
          | cons f l ih =>
            intro hf
            have e1 := hT.size (hf f (by simp)) w
            have e2 := ih (fun x hx => hf x (by simp [hx]))
            rw [List.mapM_cons, Sem.run_bind, Sem.run_bind, e1]
            simp only [Result.andThen_ok, Sem.run_pure, Sem.run_bind]
            rw [e2]
            rfl
        rw [hl _ (fun f hf => by
          rw [List.all_eq_true] at hall
          exact hall (f.type, f.offset) (by rw [← h2]; exact List.mem_map.2 ⟨f, hf, rfl⟩))]
        simp only [Result.andThen_ok]
        congr 1
        apply Array.ext'
        simp
      obtain ⟨v, hK, hr⟩ := key ((fs.map fun f => (f.offset, (T.at_ f.type).size))[·]?) (fun i off size hp _ => by
        simp only [places, hd] at hp
        rw [← h2, List.getElem?_map] at hp
        simp only [Array.getElem?_map]
        rw [← Array.getElem?_toList]
        cases hf : fs.toList[i]? with
        | none => simp [hf] at hp
        | some f =>
          simp only [hf, Option.map_some] at hp ⊢
          split at hp
          · exact hp
          · cases hp)
      refine ⟨v, hK, fun ρ N a w ha => ?_⟩
      obtain ⟨us, e1, e2⟩ := hr ρ N a w ha
      refine ⟨_, ?_, e2⟩
      simp only [execOp, Instr.build, Sem.run_bind, hz, Result.andThen_ok, run_underlying h1]
      rw [hmap]
      have e1' : Instr.fill ((fs.map fun f => (f.offset, (T.at_ f.type).size))[·]?) z.cells (parts.map fun p => (p.1, a.eval p.2)).toList = some us.toArray := by simpa using e1
      simp only [Result.andThen_ok]
      rw [e1']
      rfl
    · rename_i n e hd
      rw [chk_iff] at h
      obtain ⟨hhe, h⟩ := h
      have hu := hT.of_arr hd
      obtain ⟨z, hz, key⟩ := key (has_of hd (by simp)) h
      obtain ⟨v, hK, hr⟩ := key (fun i => some (i * (T.at_ e).size, (T.at_ e).size)) (fun i off size hp _ => by
        simp only [places, hd] at hp
        split at hp
        · exact hp
        · cases hp)
      refine ⟨v, hK, fun ρ N a w ha => ?_⟩
      obtain ⟨us, e1, e2⟩ := hr ρ N a w ha
      refine ⟨_, ?_, e2⟩
      simp only [execOp, Instr.build, Sem.run_bind, hz, Result.andThen_ok, run_underlying hu, hT.size hhe]
      have e1' : Instr.fill (fun i => some (i * (T.at_ e).size, (T.at_ e).size)) z.cells (parts.map fun p => (p.1, a.eval p.2)).toList = some us.toArray := by simpa using e1
      rw [e1']
      rfl
    · exact h.elim
  | extract x i =>
    simp only [pO] at h
    split at h
    · rename_i vs hx
      obtain ⟨v, hv, h⟩ := h
      refine ⟨v, fv_iff.1 h, fun ρ N a w ha => ?_⟩
      have r := opv_rel ha x
      rw [hx] at r
      obtain ⟨us, e, hus⟩ := r.tup_inv
      obtain ⟨u, e1, e2⟩ := hus.get hv
      exact ⟨u, by simp [execOp, e, Instr.extract, e1], e2⟩
    · exact h.elim
  | call c => exact pCall_sound hT h
  | _ => exact h.elim
end
end Go.Ab
/-! Maps with integers for keys: what the model's map operations do. -/
namespace Go.Ab
open Go Go.MapKept
def MRel (ρ : Rho) (k : IntKind) : List (Int × V) → List MapEntry → Prop
  | [], [] => True
  | p :: ms, e :: es => e.key = .int k p.1 ∧ VRel ρ p.2 e.val ∧ MRel ρ k ms es
  | _, _ => False
section
variable {ρ : Rho} {k : IntKind}
theorem MRel.of_obj : ∀ {ms : List (Int × V)} {es : List MapEntry}, es.length = (mpE k ms).length → (∀ (j : Nat) (kv : V × V) (m : MapEntry), (mpE k ms)[j]? = some kv → es[j]? = some m → VRel ρ kv.1 m.key ∧ VRel ρ kv.2 m.val) → MRel ρ k ms es
  | [], [], _, _ => trivial
  | [], _ :: _, h, _ => by simp [mpE] at h
  | _ :: _, [], h, _ => by simp [mpE] at h
  | p :: ms, e :: es, h, hr => by
    obtain ⟨h1, h2⟩ := hr 0 (.int k p.1, p.2) e rfl rfl
    exact ⟨h1.int_inv, h2, MRel.of_obj (by simpa [mpE] using h) fun j kv m a b => hr (j + 1) kv m (by simpa [mpE] using a) (by simpa using b)⟩
theorem MRel.to_obj : ∀ {ms : List (Int × V)} {es : List MapEntry}, MRel ρ k ms es → es.length = (mpE k ms).length ∧ ∀ (j : Nat) (kv : V × V) (m : MapEntry), (mpE k ms)[j]? = some kv → es[j]? = some m → VRel ρ kv.1 m.key ∧ VRel ρ kv.2 m.val
  | [], [], _ => ⟨rfl, fun j kv m a _ => by simp [mpE] at a⟩
  | [], _ :: _, h => h.elim
  | _ :: _, [], h => h.elim
  | p :: ms, e :: es, h => by
    obtain ⟨h1, h2, h3⟩ := h
    obtain ⟨h4, h5⟩ := h3.to_obj
    refine ⟨by simpa [mpE] using h4, fun j kv m a b => ?_⟩
    cases j with
    | zero =>
      have a : (V.int k p.1, p.2) = kv := by simpa [mpE] using a
      have b : e = m := by simpa using b
      subst a b
      exact ⟨by rw [h1]; exact .int _ _, h2⟩
    | succ j => exact h5 j kv m (by simpa [mpE] using a) (by simpa using b)
theorem MRel.len : ∀ {ms : List (Int × V)} {es : List MapEntry}, MRel ρ k ms es → es.length = ms.length
  | [], [], _ => rfl
  | [], _ :: _, h => h.elim
  | _ :: _, [], h => h.elim
  | p :: ms, e :: es, h => by simpa using h.2.2.len
/-- what is there under a key, and what stays when it turns, or goes -/
theorem MRel.find {n : Int} : ∀ {ms : List (Int × V)} {es : List MapEntry} (i : Nat), MRel ρ k ms es →
    (mget ms n = none ∧ Instr.findNow (.int k) (.int k n) es i = some none ∧ (∀ v, mput ms n v = ms ++ [(n, v)]) ∧ mdel ms n = ms) ∨
    ∃ j v e, mget ms n = some v ∧ es[j]? = some e ∧ e.key = .int k n ∧ VRel ρ v e.val ∧ Instr.findNow (.int k) (.int k n) es i = some (some (i + j, e.val)) ∧ (∀ v' u', VRel ρ v' u' → MRel ρ k (mput ms n v') (es.set j { e with val := u' })) ∧ MRel ρ k (mdel ms n) (es.eraseIdx j)
  | [], [], i, _ => .inl ⟨rfl, rfl, fun _ => rfl, rfl⟩
  | [], _ :: _, _, h => h.elim
  | _ :: _, [], _, h => h.elim
  | p :: ms, e :: es, i, h => by
    obtain ⟨h1, h2, h3⟩ := h
    by_cases hp : p.1 = n
    · refine .inr ⟨0, p.2, e, by simp [mget, hp], rfl, by rw [h1, hp], h2, ?_, fun v' u' hv => ?_, ?_⟩
      · rw [Instr.findNow, h1]
        simp [Instr.sameNow, hp]
      · rw [mput, if_pos hp]
        exact ⟨h1, hv, h3⟩
      · rw [mdel, if_pos hp]
        exact h3
    · have hs : Instr.sameNow (.int k) (.int k n) e.key = some false := by
        rw [h1]
        simp [Instr.sameNow]
        exact fun q => hp q.symm
      have hg : mget (p :: ms) n = mget ms n := by simp [mget, hp]
      rcases h3.find (n := n) (i + 1) with ⟨a1, a2, a3, a4⟩ | ⟨j, v, e0, a1, a2, a3, a4, a5, a6, a7⟩
      · refine .inl ⟨by rw [hg, a1], ?_, fun v => ?_, ?_⟩
        · rw [Instr.findNow, hs]
          exact a2
        · rw [mput, if_neg hp, a3]
          rfl
        · rw [mdel, if_neg hp, a4]
      · refine .inr ⟨j + 1, v, e0, by rw [hg, a1], by simpa using a2, a3, a4, ?_, fun v' u' hv => ?_, ?_⟩
        · rw [Instr.findNow, hs]
          simp only
          rw [a5, show i + 1 + j = i + (j + 1) by omega]
        · rw [mput, if_neg hp]
          exact ⟨h1, h2, a6 v' u' hv⟩
        · rw [mdel, if_neg hp]
          exact ⟨h1, h2, a7⟩
end
theorem Rel.map {ρ : Rho} {h : H} {w : World} {i : Nat} {own : Bool} {k : IntKind} {ms : List (Int × V)} {l : Loc} (r : Rel ρ h w) (hi : h.obj i = some (.map own (mpE k ms))) (hl : ρ i = some l) :
    ∃ es clock, w.heap[l.b]? = some (.map es clock) ∧ MRel ρ k ms es.toList ∧ (∀ e ∈ es, e.born < clock) ∧ (es.toList.map (·.born)).Nodup := by
  obtain ⟨l', e1, es, clock, g1, g2, g3, g4, g5⟩ := r.obj i _ hi
  rw [hl] at e1
  injection e1 with e1
  subst e1
  exact ⟨es, clock, g1, MRel.of_obj (by simpa using g2) (fun j kv m a b => g5 j kv m a (by simpa using b)), g3, g4⟩
theorem set_map {ρ : Rho} {h : H} {w : World} {i : Nat} {k : IntKind} {ms ms' : List (Int × V)} {l : Loc} {es es' : Array MapEntry} {clock clock' : Nat} (r : Rel ρ h w) (hi : h.obj i = some (.map true (mpE k ms))) (hl : ρ i = some l) (hb : w.heap[l.b]? = some (.map es clock))
    (hm : MRel ρ k ms' es'.toList) (h1 : ∀ e ∈ es', e.born < clock') (h2 : (es'.toList.map (·.born)).Nodup) :
    Rel ρ (h.set i (.map true (mpE k ms'))) { w with heap := w.heap.setIfInBounds l.b (.map es' clock') } ∧ Since ρ h w ρ (h.set i (.map true (mpE k ms'))) { w with heap := w.heap.setIfInBounds l.b (.map es' clock') } := by
  have hlt := (Array.getElem?_eq_some_iff.1 hb).1
  have hother : ∀ b, b ≠ l.b → (w.heap.setIfInBounds l.b (.map es' clock'))[b]? = w.heap[b]? := fun b hne => by
    rw [Array.getElem?_setIfInBounds_ne (fun e => hne e.symm)]
  refine ⟨r.upd hi rfl hl hother ?_ rfl, Since.upd r hi rfl hl hother rfl rfl rfl rfl (by simp)⟩
  obtain ⟨a1, a2⟩ := hm.to_obj
  exact ⟨es', clock', by simp [hlt], by simpa using a1, h1, h2, fun j kv m a b => a2 j kv m a (by simpa using b)⟩
theorem nodup_set_born {es : List MapEntry} {j : Nat} {e : MapEntry} (he : es[j]? = some e) (u : Value) : (es.set j { e with val := u }).map (·.born) = es.map (·.born) := by
  rw [List.map_set]
  apply List.ext_getElem?
  intro i
  rw [List.getElem?_set]
  by_cases hij : j = i
  · subst hij
    simp [he]
    exact (List.getElem?_eq_some_iff.1 he).1
  · rw [if_neg hij]
theorem modify_set {es : Array MapEntry} {j : Nat} {e : MapEntry} (he : es.toList[j]? = some e) (f : MapEntry → MapEntry) : (es.modify j f).toList = es.toList.set j (f e) := by
  apply List.ext_getElem?
  intro i
  have he' : es[j]? = some e := by simpa using he
  rw [Array.getElem?_toList, Array.getElem?_modify, List.getElem?_set]
  by_cases hij : j = i
  · subst hij
    have := (Array.getElem?_eq_some_iff.1 he').1
    have e2 := (Array.getElem?_eq_some_iff.1 he').2
    simp [this, e2]
  · simp [hij]
theorem erase_toList {es : Array MapEntry} {j : Nat} (hj : j < es.size) : (es.eraseIdxIfInBounds j).toList = es.toList.eraseIdx j := by
  unfold Array.eraseIdxIfInBounds
  rw [dif_pos hj]
  simp
section
variable {P : Program} {t kt et : TypeId} {k : IntKind}
theorem run_mapUpdate {ρ : Rho} {h : H} {w : World} {i : Nat} {ms : List (Int × V)} {l : Loc} (ht : P.underlying t = some (.map kt et)) (hk : P.underlying kt = some (.int k)) (r : Rel ρ h w) (hi : h.obj i = some (.map true (mpE k ms))) (hl : ρ i = some l) (n : Int) {v : V} {u : Value} (hv : VRel ρ v u) :
    ∃ w', (Instr.mapUpdate t (.map (some l.b)) (.int k n) u).run P w = .ok () w' ∧ Rel ρ (h.set i (.map true (mpE k (mput ms n v)))) w' ∧ Since ρ h w ρ (h.set i (.map true (mpE k (mput ms n v)))) w' := by
  obtain ⟨es, clock, hb, hm, h1, h2⟩ := r.map hi hl
  have hkey : IsKey (.int k) (.int k n) := rfl
  rcases hm.find (n := n) 0 with ⟨a1, a2, a3, a4⟩ | ⟨j, v0, e, a1, a2, a3, a4, a5, a6, a7⟩
  · have hm' : MRel ρ k (mput ms n v) (es.push ⟨.int k n, u, clock⟩).toList := by
      rw [a3, Array.toList_push]
      clear a1 a2 a3 a4 h1 h2 hb hi
      revert hm
      generalize es.toList = l1
      intro hm
      induction ms generalizing l1 with
      | nil =>
        cases l1 with
        | nil => exact ⟨rfl, hv, trivial⟩
        | cons _ _ => exact hm.elim
      | cons p ms ih =>
        cases l1 with
        | nil => exact hm.elim
        | cons e l1 => exact ⟨hm.1, hm.2.1, ih l1 hm.2.2⟩
    obtain ⟨r1, s1⟩ := set_map (clock' := clock + 1) r hi hl hb hm' (fun e he => by
      rcases Array.mem_push.1 he with he | rfl
      · have := h1 e he
        omega
      · exact Nat.lt_succ_self _) (by
      rw [Array.toList_push, List.map_append, List.nodup_append]
      refine ⟨h2, by simp, fun x hx y hy e => ?_⟩
      obtain ⟨m, hm1, rfl⟩ := List.mem_map.1 hx
      have hy : y = clock := by simpa using hy
      have := h1 m (Array.mem_toList_iff.1 hm1)
      omega)
    refine ⟨_, ?_, r1, s1⟩
    simp [Instr.mapUpdate, run_underlying ht, MapKept.run_getObj_map hb, run_checkKey hk hkey, run_findKey hk a2, MapKept.run_setObj_map _ hb, Result.andThen]
  · rw [Nat.zero_add] at a5
    have hej : es[j]? = some e := by simpa using a2
    have hmod := modify_set (es := es) a2 (fun e => { e with key := .int k n, val := u })
    have hf : ({ e with key := .int k n, val := u } : MapEntry) = { e with val := u } := by rw [← a3]
    rw [hf] at hmod
    have hm' : MRel ρ k (mput ms n v) (es.modify j fun e => { e with key := .int k n, val := u }).toList := by
      rw [hmod]
      exact a6 v u hv
    obtain ⟨r1, s1⟩ := set_map (clock' := clock) r hi hl hb hm' (fun x hx => by
      have hx : x ∈ (es.modify j fun e => { e with key := .int k n, val := u }).toList := Array.mem_toList_iff.2 hx
      rw [hmod] at hx
      rcases List.mem_or_eq_of_mem_set hx with hx | rfl
      · exact h1 x (Array.mem_toList_iff.1 hx)
      · exact h1 e (Array.mem_of_getElem? hej)) (by
      rw [hmod, nodup_set_born a2]
      exact h2)
    refine ⟨_, ?_, r1, s1⟩
    simp [Instr.mapUpdate, run_underlying ht, MapKept.run_getObj_map hb, run_checkKey hk hkey, run_findKey hk a5, hej, a3, run_keyThatStays hkey, MapKept.run_setObj_map _ hb, Result.andThen]
theorem run_delete {ρ : Rho} {h : H} {w : World} {i : Nat} {ms : List (Int × V)} {l : Loc} {ty kt' : TypeId} (ht : P.underlying t = some (.map kt et)) (hk : P.underlying kt = some (.int k)) (r : Rel ρ h w) (hi : h.obj i = some (.map true (mpE k ms))) (hl : ρ i = some l) (n : Int) :
    ∃ w', (Builtin.delete_ #[t, kt'] ty #[.map (some l.b), .int k n]).run P w = .ok (.tuple #[]) w' ∧ Rel ρ (h.set i (.map true (mpE k (mdel ms n)))) w' ∧ Since ρ h w ρ (h.set i (.map true (mpE k (mdel ms n)))) w' := by
  obtain ⟨es, clock, hb, hm, h1, h2⟩ := r.map hi hl
  have hkey : IsKey (.int k) (.int k n) := rfl
  rcases hm.find (n := n) 0 with ⟨a1, a2, a3, a4⟩ | ⟨j, v0, e, a1, a2, a3, a4, a5, a6, a7⟩
  · obtain ⟨r1, s1⟩ := set_map (ms' := mdel ms n) (clock' := clock) r hi hl hb (by rw [a4]; exact hm) h1 h2
    refine ⟨_, ?_, r1, s1⟩
    simp [Builtin.delete_, run_underlying ht, MapKept.run_getObj_map hb, run_checkKey hk hkey, run_findKey hk a2, MapKept.run_setObj_map _ hb, Result.andThen]
  · rw [Nat.zero_add] at a5
    have hej : es[j]? = some e := by simpa using a2
    have hjs := (Array.getElem?_eq_some_iff.1 hej).1
    have he := erase_toList hjs
    obtain ⟨r1, s1⟩ := set_map (es' := es.eraseIdxIfInBounds j) (clock' := clock) r hi hl hb (by rw [he]; exact a7) (fun x hx => by
      have hx : x ∈ (es.eraseIdxIfInBounds j).toList := Array.mem_toList_iff.2 hx
      rw [he] at hx
      exact h1 x (Array.mem_toList_iff.1 ((List.eraseIdx_sublist _ _).subset hx))) (by
      rw [he]
      exact h2.sublist ((List.eraseIdx_sublist _ _).map _))
    refine ⟨_, ?_, r1, s1⟩
    simp [Builtin.delete_, run_underlying ht, MapKept.run_getObj_map hb, run_checkKey hk hkey, run_findKey hk a5, MapKept.run_setObj_map _ hb, Result.andThen]
theorem run_lookup {ρ : Rho} {h : H} {w : World} {i : Nat} {own : Bool} {ms : List (Int × V)} {l : Loc} (ht : P.underlying t = some (.map kt et)) (hk : P.underlying kt = some (.int k)) (r : Rel ρ h w) (hi : h.obj i = some (.map own (mpE k ms))) (hl : ρ i = some l) (n : Int) {z : V} {uz : Value} (hz : VRel ρ z uz) (hzr : (zeroValue et).run P w = .ok uz w) (ok : Bool) :
    ∃ u, (Instr.lookup t (.map (some l.b)) (.int k n) ok).run P w = .ok (if ok then .tuple #[u, .bool (mget ms n).isSome] else u) w ∧ VRel ρ ((mget ms n).getD z) u := by
  obtain ⟨es, clock, hb, hm, h1, h2⟩ := r.map hi hl
  have hkey : IsKey (.int k) (.int k n) := rfl
  rcases hm.find (n := n) 0 with ⟨a1, a2, a3, a4⟩ | ⟨j, v0, e, a1, a2, a3, a4, a5, a6, a7⟩
  · refine ⟨uz, ?_, by rw [a1]; exact hz⟩
    simp [Instr.lookup, run_underlying ht, MapKept.run_getObj_map hb, run_checkKey hk hkey, run_findKey hk a2, hzr, a1, Result.andThen]
  · refine ⟨e.val, ?_, by rw [a1]; exact a4⟩
    simp [Instr.lookup, run_underlying ht, MapKept.run_getObj_map hb, run_checkKey hk hkey, run_findKey hk a5, a1, Result.andThen]
theorem run_lookup_nil {w : World} (ht : P.underlying t = some (.map kt et)) (hk : P.underlying kt = some (.int k)) (n : Int) {uz : Value} (hzr : (zeroValue et).run P w = .ok uz w) (ok : Bool) :
    (Instr.lookup t (.map none) (.int k n) ok).run P w = .ok (if ok then .tuple #[uz, .bool false] else uz) w := by
  have hkey : IsKey (.int k) (.int k n) := rfl
  have a2 : Instr.findNow (.int k) (.int k n) [] 0 = some none := rfl
  simp [Instr.lookup, run_underlying ht, run_checkKey hk hkey, run_findKey hk a2, hzr, Result.andThen]
end
/-! ### To go through a map -/
theorem MRel.bdel {ρ : Rho} {k : IntKind} {n : Int} : ∀ {ms : List (Int × V)} {es : List MapEntry} (i : Nat), MRel ρ k ms es →
    (Instr.findNow (.int k) (.int k n) es i = some none → bdel ms (es.map (·.born)) n = es.map (·.born)) ∧
    (∀ j v, Instr.findNow (.int k) (.int k n) es i = some (some (i + j, v)) → bdel ms (es.map (·.born)) n = (es.eraseIdx j).map (·.born))
  | [], [], i, _ => ⟨fun _ => rfl, fun j v e => by simp [Instr.findNow] at e⟩
  | [], _ :: _, _, h => h.elim
  | _ :: _, [], _, h => h.elim
  | p :: ms, e :: es, i, h => by
    obtain ⟨h1, h2, h3⟩ := h
    by_cases hp : p.1 = n
    · have hs : Instr.findNow (.int k) (.int k n) (e :: es) i = some (some (i, e.val)) := by
        rw [Instr.findNow, h1]
        simp [Instr.sameNow, hp]
      refine ⟨fun e1 => (by rw [hs] at e1; cases e1), fun j v e1 => ?_⟩
      rw [hs] at e1
      injection e1 with e1
      injection e1 with e1
      injection e1 with e1 _
      have : j = 0 := by omega
      subst this
      rw [List.map_cons, Ab.bdel, if_pos hp]
      rfl
    · have hs : Instr.findNow (.int k) (.int k n) (e :: es) i = Instr.findNow (.int k) (.int k n) es (i + 1) := by
        have : Instr.sameNow (.int k) (.int k n) e.key = some false := by
          rw [h1]
          simp [Instr.sameNow]
          exact fun q => hp q.symm
        rw [Instr.findNow, this]
      obtain ⟨a1, a2⟩ := h3.bdel (n := n) (i + 1)
      have hb : Ab.bdel (p :: ms) ((e :: es).map (·.born)) n = e.born :: Ab.bdel ms (es.map (·.born)) n := by
        rw [List.map_cons, Ab.bdel, if_neg hp]
      refine ⟨fun e1 => by rw [hb, a1 (by rw [← hs]; exact e1)]; rfl, fun j v e1 => ?_⟩
      rw [hs] at e1
      rcases h3.find (n := n) (i + 1) with ⟨_, b2, _, _⟩ | ⟨j2, v2, e2, _, _, _, _, b2, _, _⟩
      · rw [b2] at e1
        cases e1
      · have e3 := e1
        rw [b2] at e3
        injection e3 with e3
        injection e3 with e3
        injection e3 with e3 _
        have : j = j2 + 1 := by omega
        subst this
        rw [hb, a2 j2 v (by rw [e1, show i + 1 + j2 = i + (j2 + 1) by omega])]
        rfl
theorem Rel.mapb {ρ : Rho} {h : H} {w : World} {i : Nat} {k : IntKind} {ms : List (Int × V)} {bs : List Nat} {cl : Nat} {l : Loc} (r : Rel ρ h w) (hi : h.obj i = some (.mapb (mpE k ms) bs cl)) (hl : ρ i = some l) :
    ∃ es, w.heap[l.b]? = some (.map es cl) ∧ MRel ρ k ms es.toList ∧ (∀ e ∈ es, e.born < cl) ∧ es.toList.map (·.born) = bs ∧ bs.Nodup := by
  obtain ⟨l', e1, es, g1, g2, g3, g4, g5, g6⟩ := r.obj i _ hi
  rw [hl] at e1
  injection e1 with e1
  subst e1
  exact ⟨es, g1, MRel.of_obj (by simpa using g2) (fun j kv m a b => g6 j kv m a (by simpa using b)), g3, g4, g5⟩
theorem set_mapb {ρ : Rho} {h : H} {w : World} {i : Nat} {k : IntKind} {ms' : List (Int × V)} {l : Loc} {es es' : Array MapEntry} {bs' : List Nat} {cl : Nat} {ob : Ab.Obj} (r : Rel ρ h w) (hi : h.obj i = some ob) (ho : ob.own = true) (hl : ρ i = some l) (hb : w.heap[l.b]? = some (.map es cl))
    (hm : MRel ρ k ms' es'.toList) (h1 : ∀ e ∈ es', e.born < cl) (h2 : es'.toList.map (·.born) = bs') (h3 : bs'.Nodup) :
    Rel ρ (h.set i (.mapb (mpE k ms') bs' cl)) { w with heap := w.heap.setIfInBounds l.b (.map es' cl) } ∧ Since ρ h w ρ (h.set i (.mapb (mpE k ms') bs' cl)) { w with heap := w.heap.setIfInBounds l.b (.map es' cl) } := by
  have hlt := (Array.getElem?_eq_some_iff.1 hb).1
  have hother : ∀ b, b ≠ l.b → (w.heap.setIfInBounds l.b (.map es' cl))[b]? = w.heap[b]? := fun b hne => by
    rw [Array.getElem?_setIfInBounds_ne (fun e => hne e.symm)]
  refine ⟨r.upd hi ho hl hother ?_ rfl, Since.upd r hi ho hl hother rfl rfl rfl rfl (by simp)⟩
  obtain ⟨a1, a2⟩ := hm.to_obj
  exact ⟨es', by simp [hlt], by simpa using a1, h1, h2, h3, fun j kv m a b => a2 j kv m a (by simpa using b)⟩
section
variable {P : Program} {t kt et : TypeId} {k : IntKind}
theorem run_delete_b {ρ : Rho} {h : H} {w : World} {i : Nat} {ms : List (Int × V)} {bs : List Nat} {cl : Nat} {l : Loc} {ty kt' : TypeId} (ht : P.underlying t = some (.map kt et)) (hk : P.underlying kt = some (.int k)) (r : Rel ρ h w) (hi : h.obj i = some (.mapb (mpE k ms) bs cl)) (hl : ρ i = some l) (n : Int) :
    ∃ w', (Builtin.delete_ #[t, kt'] ty #[.map (some l.b), .int k n]).run P w = .ok (.tuple #[]) w' ∧ Rel ρ (h.set i (.mapb (mpE k (mdel ms n)) (bdel ms bs n) cl)) w' ∧ Since ρ h w ρ (h.set i (.mapb (mpE k (mdel ms n)) (bdel ms bs n) cl)) w' := by
  obtain ⟨es, hb, hm, h1, h2, h3⟩ := r.mapb hi hl
  have hkey : IsKey (.int k) (.int k n) := rfl
  obtain ⟨d1, d2⟩ := hm.bdel (n := n) 0
  rw [h2] at d1 d2
  rcases hm.find (n := n) 0 with ⟨a1, a2, a3, a4⟩ | ⟨j, v0, e, a1, a2, a3, a4, a5, a6, a7⟩
  · obtain ⟨r1, s1⟩ := set_mapb (ms' := mdel ms n) (es' := es) (bs' := bdel ms bs n) r hi rfl hl hb (by rw [a4]; exact hm) h1 (by rw [d1 a2, h2]) (by rw [d1 a2]; exact h3)
    refine ⟨_, ?_, r1, s1⟩
    simp [Builtin.delete_, run_underlying ht, MapKept.run_getObj_map hb, run_checkKey hk hkey, run_findKey hk a2, MapKept.run_setObj_map _ hb, Result.andThen]
  · have hd := d2 j _ a5
    rw [Nat.zero_add] at a5
    have hej : es[j]? = some e := by simpa using a2
    have hjs := (Array.getElem?_eq_some_iff.1 hej).1
    have he := erase_toList hjs
    obtain ⟨r1, s1⟩ := set_mapb (es' := es.eraseIdxIfInBounds j) (bs' := bdel ms bs n) (ms' := mdel ms n) r hi rfl hl hb (by rw [he]; exact a7) (fun x hx => by
      have hx : x ∈ (es.eraseIdxIfInBounds j).toList := Array.mem_toList_iff.2 hx
      rw [he] at hx
      exact h1 x (Array.mem_toList_iff.1 ((List.eraseIdx_sublist _ _).subset hx))) (by rw [he, hd]) (by
      rw [hd]
      rw [← h2] at h3
      exact h3.sublist ((List.eraseIdx_sublist _ _).map _))
    refine ⟨_, ?_, r1, s1⟩
    simp [Builtin.delete_, run_underlying ht, MapKept.run_getObj_map hb, run_checkKey hk hkey, run_findKey hk a5, MapKept.run_setObj_map _ hb, Result.andThen]
/-- to begin -/
theorem run_range_b {ρ : Rho} {h : H} {w : World} {i : Nat} {ms : List (Int × V)} {l : Loc} (ht : P.underlying t = some (.map kt et)) (r : Rel ρ h w) (hd : Dom ρ h.next) (hi : h.obj i = some (.map true (mpE k ms))) (hl : ρ i = some l) :
    ∃ bs cl, bs.length = ms.length ∧ bs.Nodup ∧ (∀ b ∈ bs, b < cl) ∧ (Instr.range t (.map (some l.b))).run P w = .ok (.pointer (some ⟨w.heap.size, 0, none⟩)) (w.alloc (.mapIter (some l.b) cl #[] cl)) ∧
      Rel (ρ.add h.next ⟨w.heap.size, 0, 0, 0⟩) ((h.set i (.mapb (mpE k ms) bs cl)).push (.itr i cl [] cl)) (w.alloc (.mapIter (some l.b) cl #[] cl)) ∧
      Since ρ h w (ρ.add h.next ⟨w.heap.size, 0, 0, 0⟩) ((h.set i (.mapb (mpE k ms) bs cl)).push (.itr i cl [] cl)) (w.alloc (.mapIter (some l.b) cl #[] cl)) := by
  obtain ⟨es, cl, hb, hm, h1, h2⟩ := r.map hi hl
  obtain ⟨m1, m2⟩ := hm.to_obj
  have ho : ObjRel ρ w l (.mapb (mpE k ms) (es.toList.map (·.born)) cl) := ⟨es, hb, by simpa using m1, h1, rfl, h2, fun j kv m a b => m2 j kv m a (by simpa using b)⟩
  have r1 : Rel ρ (h.set i (.mapb (mpE k ms) (es.toList.map (·.born)) cl)) w := r.upd hi rfl hl (fun _ _ => rfl) ho rfl
  have s1 : Since ρ h w ρ (h.set i (.mapb (mpE k ms) (es.toList.map (·.born)) cl)) w := Since.upd r hi rfl hl (fun _ _ => rfl) rfl rfl rfl rfl (Nat.le_refl _)
  have hold : ∀ b, b < w.heap.size → (w.alloc (.mapIter (some l.b) cl #[] cl)).heap[b]? = w.heap[b]? := fun b hb => heap_alloc_old w _ hb
  have r2 := Rel.push (l := ⟨w.heap.size, 0, 0, 0⟩) (ob := .itr i cl [] cl) r1 hd (Nat.le_refl _) hold ⟨l, Rho.add_ext hd _ _ _ hl, rfl, heap_alloc_new w _⟩
  have s2 := Since.push (l := ⟨w.heap.size, 0, 0, 0⟩) (ob := .itr i cl [] cl) (w' := w.alloc (.mapIter (some l.b) cl #[] cl)) r1 hd (Nat.le_refl _) rfl rfl rfl (by show w.heap.size ≤ (w.heap.push _).size; rw [Array.size_push]; omega) hold
  refine ⟨es.toList.map (fun (e : MapEntry) => e.born), cl, ?_, h2, fun b hb => ?_, run_range_map w t kt et l.b es cl ht hb, r2, s1.trans s2⟩
  · rw [List.length_map]
    exact hm.len
  · obtain ⟨e, he, rfl⟩ := List.mem_map.1 hb
    exact h1 e (Array.mem_toList_iff.1 he)
theorem MRel.at {ρ : Rho} {k : IntKind} : ∀ {ms : List (Int × V)} {es : List MapEntry}, MRel ρ k ms es → ∀ {p : Nat} {e : MapEntry}, es[p]? = some e → ∃ n v, ms[p]? = some (n, v) ∧ e.key = .int k n ∧ VRel ρ v e.val
  | [], [], _, p, e, h => by simp at h
  | [], _ :: _, h, _, _, _ => h.elim
  | _ :: _, [], h, _, _, _ => h.elim
  | q :: ms, x :: es, h, p, e, he => by
    obtain ⟨h1, h2, h3⟩ := h
    cases p with
    | zero =>
      simp at he
      subst he
      exact ⟨q.1, q.2, rfl, h1, h2⟩
    | succ p =>
      obtain ⟨n, v, a, b⟩ := h3.at (p := p) (e := e) (by simpa using he)
      exact ⟨n, v, by simpa using a, b⟩
/-- a step -/
theorem run_next_b {ρ : Rho} {h : H} {w : World} {i j cl : Nat} {seen : List Nat} {ms : List (Int × V)} {bs : List Nat} {l : Loc} (r : Rel ρ h w) (hj : h.obj j = some (.itr i cl seen cl)) (hi : h.obj i = some (.mapb (mpE k ms) bs cl)) (hl : ρ j = some l) (ty : TypeId) :
    ((∀ b ∈ bs, b ∈ seen) ∧ (Instr.next (.pointer (some ⟨l.b, l.o + 0, none⟩)) false ty).run P w = .ok (.tuple #[.bool false]) w) ∨
    ∃ (p : Nat) (n : Int) (v : V) (b : Nat) (u : Value) (w' : World), ms[p]? = some (n, v) ∧ bs[p]? = some b ∧ b ∉ seen ∧ VRel ρ v u ∧ (Instr.next (.pointer (some ⟨l.b, l.o + 0, none⟩)) false ty).run P w = .ok (.tuple #[.bool true, .int k n, u]) w' ∧
      Rel ρ (h.set j (.itr i cl (seen ++ [b]) cl)) w' ∧ Since ρ h w ρ (h.set j (.itr i cl (seen ++ [b]) cl)) w' := by
  obtain ⟨l', e1, lm, e2, e3, e4⟩ := r.obj j _ hj
  rw [hl] at e1
  injection e1 with e1
  subst e1
  obtain ⟨es, hb, hm, h1, h2, h3⟩ := r.mapb hi e2
  rw [e3]
  rcases run_next_at (P := P) w ty l.b lm.b cl cl seen.toArray es cl e4 hb (fun x hx => h1 x (Array.mem_toList_iff.1 hx)) (Nat.le_refl _) with ⟨a1, a2⟩ | ⟨e, a1, w1, a2, a3⟩
  · refine .inl ⟨fun b hbm => ?_, a2⟩
    rw [← h2] at hbm
    obtain ⟨e, he, rfl⟩ := List.mem_map.1 hbm
    refine Decidable.by_contra (fun hn => ?_)
    have : e ∈ leftOf es seen.toArray := by
      unfold leftOf
      rw [Array.mem_filter]
      exact ⟨Array.mem_toList_iff.1 he, by simpa using hn⟩
    have := Array.size_pos_of_mem this
    omega
  · have hmem : e ∈ es ∧ e.born ∉ seen := by
      have : e ∈ leftOf es seen.toArray := Array.mem_toList_iff.1 a1
      unfold leftOf at this
      rw [Array.mem_filter] at this
      exact ⟨this.1, by simpa using this.2⟩
    obtain ⟨p, hp, hpe⟩ := List.getElem_of_mem (Array.mem_toList_iff.2 hmem.1)
    have hpe : es.toList[p]? = some e := by rw [List.getElem?_eq_getElem hp, hpe]
    obtain ⟨n, v, m1, m2, m3⟩ := hm.at hpe
    have hw1 : w1.heap = w.heap ∧ w1.os = w.os ∧ w1.tape = w.tape ∧ w1.output = w.output := by
      rcases a2 with rfl | rfl <;> exact ⟨rfl, rfl, rfl, rfl⟩
    have hother : ∀ b, b ≠ l.b → (ChangeMaps.setBlock w1 l.b (.mapIter (some lm.b) cl (seen.toArray.push e.born) cl)).heap[b]? = w.heap[b]? := fun b hne => by
      show (w1.heap.setIfInBounds l.b _)[b]? = _
      rw [hw1.1, Array.getElem?_setIfInBounds_ne (fun x => hne x.symm)]
    have hlt := (Array.getElem?_eq_some_iff.1 e4).1
    have hob : ObjRel ρ (ChangeMaps.setBlock w1 l.b (.mapIter (some lm.b) cl (seen.toArray.push e.born) cl)) l (.itr i cl (seen ++ [e.born]) cl) := by
      refine ⟨lm, e2, e3, ?_⟩
      show (w1.heap.setIfInBounds l.b _)[l.b]? = _
      rw [hw1.1]
      simp [hlt]
    rw [m2] at a3
    refine .inr ⟨p, n, v, e.born, e.val, _, m1, by rw [← h2, List.getElem?_map, hpe]; rfl, hmem.2, m3, a3, r.upd hj rfl hl hother hob rfl, Since.upd r hj rfl hl hother rfl hw1.2.1 hw1.2.2.1 hw1.2.2.2 ?_⟩
    show w.heap.size ≤ (w1.heap.setIfInBounds l.b _).size
    rw [hw1.1, Array.size_setIfInBounds]
    exact Nat.le_refl _
/-- what came -/
theorem run_entry_b {ρ : Rho} {h : H} {w : World} {i j cl : Nat} {seen : List Nat} {b p : Nat} {n : Int} {v : V} {ms : List (Int × V)} {bs : List Nat} {l : Loc} (r : Rel ρ h w) (hj : h.obj j = some (.itr i cl (seen ++ [b]) cl)) (hi : h.obj i = some (.mapb (mpE k ms) bs cl)) (hl : ρ j = some l) (hp : bs[p]? = some b) (hm : ms[p]? = some (n, v)) :
    ∃ u, VRel ρ v u ∧ (Instr.entry (.pointer (some ⟨l.b, l.o + 0, none⟩))).run P w = .ok (.tuple #[.int k n, u]) w := by
  obtain ⟨l', e1, lm, e2, e3, e4⟩ := r.obj j _ hj
  rw [hl] at e1
  injection e1 with e1
  subst e1
  obtain ⟨es, hb, hr, h1, h2, h3⟩ := r.mapb hi e2
  rw [e3]
  have hpe : ∃ e, es.toList[p]? = some e ∧ e.born = b := by
    rw [← h2, List.getElem?_map] at hp
    cases hx : es.toList[p]? with
    | none => rw [hx] at hp; cases hp
    | some e =>
      rw [hx] at hp
      injection hp with hp
      exact ⟨e, rfl, hp⟩
  obtain ⟨e, hpe, rfl⟩ := hpe
  obtain ⟨n', v', m1, m2, m3⟩ := hr.at hpe
  rw [hm] at m1
  injection m1 with m1
  injection m1 with m1 m1'
  subst m1 m1'
  refine ⟨e.val, m3, ?_⟩
  rw [← m2]
  have e5 : (seen ++ [e.born]).toArray = seen.toArray.push e.born := by simp
  rw [e5] at e4
  exact run_entry_at (P := P) w l.b lm.b cl seen.toArray es cl e e4 hb (List.mem_of_getElem? hpe) (by rw [h2]; exact h3)
end
end Go.Ab
/-! Maps with pairs of integers for keys: what the model's map operations do. -/
namespace Go.Ab
open Go Go.MapKept Go.WideMaps
def pkv (k : IntKind) (n : Int × Int) : Value := .agg #[.int k n.1, .int k n.2]
theorem pk_inv {ρ : Rho} {k : IntKind} {n : Int × Int} {u : Value} (h : VRel ρ (pk k n) u) : u = pkv k n := by
  unfold pk at h
  cases h with
  | agg cs us h1 hl hc =>
    match us, hl with
    | [a, b], _ =>
      have e1 := (hc 0 _ _ rfl rfl).int_inv
      have e2 := (hc 1 _ _ rfl rfl).int_inv
      rw [e1, e2]
      rfl
theorem pk_of (ρ : Rho) (k : IntKind) (n : Int × Int) : VRel ρ (pk k n) (pkv k n) := by
  refine .agg [.int k n.1, .int k n.2] [.int k n.1, .int k n.2] (fun u hu => ?_) rfl (fun j c u h1 h2 => ?_)
  · simp at hu
    rcases hu with rfl | rfl <;> rfl
  · match j with
    | 0 => cases h1; cases h2; exact .int _ _
    | 1 => cases h1; cases h2; exact .int _ _
    | j + 2 => simp at h1
theorem pkv_inj {k : IntKind} {a b : Int × Int} (h : pkv k a = pkv k b) : a = b := by
  unfold pkv at h
  injection h with h
  have h := congrArg Array.toList h
  simp at h
  exact Prod.ext h.1 h.2
section
variable {α : Type}
theorem pget_none {ms : List ((Int × Int) × α)} {n : Int × Int} (h : ∀ p ∈ ms, p.1 ≠ n) : pget ms n = none := by
  unfold pget
  rw [List.find?_eq_none.2 (fun p hp => by simpa using h p hp)]
  rfl
theorem pget_at : ∀ {ms : List ((Int × Int) × α)} {n : Int × Int} {v : α} {j : Nat}, (ms.map (·.1)).Nodup → ms[j]? = some (n, v) → pget ms n = some v
  | [], _, _, _, _, h => by simp at h
  | p :: ms, n, v, 0, _, h => by
    simp at h
    simp [pget, h]
  | p :: ms, n, v, j + 1, hn, h => by
    simp at h
    rw [List.map_cons, List.nodup_cons] at hn
    have hne : p.1 ≠ n := fun e => hn.1 (List.mem_map.2 ⟨(n, v), List.mem_of_getElem? h, e.symm⟩)
    have := pget_at hn.2 h
    unfold pget at this ⊢
    rw [List.find?_cons_of_neg (by simpa using hne)]
    exact this
theorem pput_none {ms : List ((Int × Int) × α)} {n : Int × Int} (h : ∀ p ∈ ms, p.1 ≠ n) (v : α) : pput ms n v = ms ++ [(n, v)] := by
  induction ms with
  | nil => rfl
  | cons p ms ih => rw [pput, if_neg (h p (List.mem_cons_self ..)), ih (fun q hq => h q (List.mem_cons_of_mem _ hq))]; rfl
theorem pput_at : ∀ {ms : List ((Int × Int) × α)} {n : Int × Int} {v0 : α} {j : Nat} (v : α), (ms.map (·.1)).Nodup → ms[j]? = some (n, v0) → pput ms n v = ms.set j (n, v)
  | [], _, _, _, _, _, h => by simp at h
  | p :: ms, n, v0, 0, v, _, h => by
    simp at h
    rw [pput, if_pos (by rw [h])]
    simp [h]
  | p :: ms, n, v0, j + 1, v, hn, h => by
    simp at h
    rw [List.map_cons, List.nodup_cons] at hn
    have hne : p.1 ≠ n := fun e => hn.1 (List.mem_map.2 ⟨(n, v0), List.mem_of_getElem? h, e.symm⟩)
    rw [pput, if_neg hne, pput_at v hn.2 h]
    rfl
end
theorem TOk.arrKey {P : Program} {T : TT} (hT : TOk P T) {t e : Nat} {k : IntKind} (ht : (T.at_ t).d = .arr 2 e) (he : (T.at_ e).d = .int k) (h1 : (T.at_ t).size = 2) (h2 : (T.at_ e).size = 1) : ArrKey P t e 2 := by
  obtain ⟨i, z, a1, a2, _⟩ := (hT t (by simp [has, ht])).info
  obtain ⟨i', z', b1, b2, _⟩ := (hT e (by simp [has, he])).info
  exact ⟨hT.of_arr ht, by unfold Program.plainKey; rw [hT.of_int he], by simp [Program.cellsOf, b1, b2, h2], by simp [Program.cellsOf, a1, a2, h1]⟩
theorem pairL_eq {cs : List V} {k : IntKind} {a b : Int} (h : pairL cs = some (k, a, b)) : cs = [.int k a, .int k b] := by
  unfold pairL at h
  split at h
  · rename_i x y
    split at h
    · rename_i k1 a1 k2 b1
      cases hc : kEq k1 k2 with
      | false => rw [hc] at h; cases h
      | true =>
        rw [hc] at h
        injection h with h
        injection h with h1 h2
        injection h2 with h2 h3
        obtain rfl := kEq_eq hc
        rw [h1, h2, h3]
    · cases h
  · cases h
/-- a type of keys that are pairs of integers -/
structure PairK (P : Program) (kt : TypeId) (k : IntKind) : Prop where
  law : KeyLaw P kt
  key : ∀ n, pwf k n → ∃ kl, Go.keyOf P kt (pkv k n) = some kl
theorem TOk.pairK {P : Program} {T : TT} (hT : TOk P T) {t kt et : Nat} {k : IntKind} (ht : (T.at_ t).d = .mp kt et) (hk : pairE T kt = some k) : PairK P kt k := by
  have hsz := (hT t (by simp [has, ht])).tys
  unfold pairE at hk
  split at hk
  · rename_i m e ha
    split at hk
    · rename_i k' he
      cases hc : (Nat.beq m 2 && Nat.beq (T.at_ kt).size 2 && Nat.beq (T.at_ e).size 1) with
      | false => rw [hc] at hk; cases hk
      | true =>
        rw [hc] at hk
        injection hk with hk
        subst hk
        simp only [Bool.and_eq_true] at hc
        obtain rfl := Nat.eq_of_beq_eq_true hc.1.1
        have A := hT.arrKey ha he (Nat.eq_of_beq_eq_true hc.1.2) (Nat.eq_of_beq_eq_true hc.2)
        exact ⟨A.law, fun n w => ⟨_, keyOf_pair A (hT.of_int he) hsz w.1 w.2⟩⟩
    · cases hk
  · rename_i e o e' o' ha
    split at hk
    · rename_i k1 k2 he he'
      cases hc : (kEq k1 k2 && Nat.beq o 0 && Nat.beq o' 1 && Nat.beq (T.at_ kt).size 2 && Nat.beq (T.at_ e).size 1 && Nat.beq (T.at_ e').size 1) with
      | false => rw [hc] at hk; cases hk
      | true =>
        rw [hc] at hk
        injection hk with hk
        subst hk
        simp only [Bool.and_eq_true] at hc
        obtain ⟨⟨⟨⟨⟨c1, c2⟩, c3⟩, c4⟩, c5⟩, c6⟩ := hc
        obtain rfl := kEq_eq c1
        obtain rfl := Nat.eq_of_beq_eq_true c2
        obtain rfl := Nat.eq_of_beq_eq_true c3
        obtain ⟨fs, hu, hfs⟩ := hT.of_st ha
        obtain ⟨kk, kti⟩ := (hT t (by simp [has, ht])).kst kt et ht fs hu
        have he := hT.of_int he
        have he' := hT.of_int he'
        obtain ⟨i, z, a1, a2, _⟩ := (hT kt (by simp [has, ha])).info
        obtain ⟨i1, z1, b1, b2, _⟩ := (hT e (by simp [has, *])).info
        obtain ⟨i2, z2, d1, d2, _⟩ := (hT e' (by simp [has, *])).info
        have s0 : P.cellsOf kt = 2 := by simp [Program.cellsOf, a1, a2, Nat.eq_of_beq_eq_true c4]
        have s1 : P.cellsOf e = 1 := by simp [Program.cellsOf, b1, b2, Nat.eq_of_beq_eq_true c5]
        have s2 : P.cellsOf e' = 1 := by simp [Program.cellsOf, d1, d2, Nat.eq_of_beq_eq_true c6]
        refine ⟨deep_law (m := 3) (by omega) kk kti (by rw [hu]), fun n w => ?_⟩
        obtain ⟨m, hm⟩ := hsz
        obtain ⟨l⟩ := fs
        obtain ⟨f0, f1, rfl⟩ : ∃ f0 f1, l = [f0, f1] := by
          match l, hfs with
          | [], h => exact absurd h (by simp)
          | [a], h => exact absurd h (by simp)
          | [a, b], _ => exact ⟨a, b, rfl⟩
          | a :: b :: c :: l, h => exact absurd h (by simp)
        have hfs : [(f0.type, f0.offset), (f1.type, f1.offset)] = [(e, 0), (e', 1)] := hfs
        simp only [List.cons.injEq, Prod.mk.injEq, and_true] at hfs
        obtain ⟨⟨t0, o0⟩, t1, o1⟩ := hfs
        have ke : ∀ d, P.keyTypeAt (d + 1) e = true := fun d => by
          unfold Program.keyTypeAt
          rw [he]
        have ke' : ∀ d, P.keyTypeAt (d + 1) e' = true := fun d => by
          unfold Program.keyTypeAt
          rw [he']
        have hk3 := kk
        unfold Program.keyTypeAt at hk3
        rw [hu] at hk3
        have hnm : f0.name ≠ "_" ∧ f1.name ≠ "_" := by
          simp [t0, t1, ke, ke'] at hk3
          exact hk3.1.1
        have hkt : P.keyType kt = true := by
          unfold Program.keyType
          rw [hm]
          unfold Program.keyTypeAt
          rw [hu]
          simp [t0, t1, ke, ke'] at hk3 ⊢
          exact hk3
        unfold Go.keyOf
        simp only [hu]
        rw [if_pos (by simp [hkt, pkv, Value.formed, hu, s0]), hm]
        unfold Program.keyLits
        simp only [hu, Value.cells, pkv]
        rw [if_pos ⟨by rw [s0]; rfl, by simp [hnm]⟩]
        have l0 : ∀ d, P.keyLits (d + 1) e [.int k1 n.1] = some [.int k1 n.1] := fun d => by
          unfold Program.keyLits
          simp [he, w.1]
        have l1 : ∀ d, P.keyLits (d + 1) e' [.int k1 n.2] = some [.int k1 n.2] := fun d => by
          unfold Program.keyLits
          simp [he', w.2]
        simp [t0, t1, o0, o1, s1, s2, l0, l1]
    · cases hk
  · cases hk
/-- entry by entry -/
def PRel (ρ : Rho) (k : IntKind) (ms : List ((Int × Int) × V)) (es : List MapEntry) : Prop := es.length = ms.length ∧ ∀ (j : Nat) (p : (Int × Int) × V) (e : MapEntry), ms[j]? = some p → es[j]? = some e → e.key = pkv k p.1 ∧ VRel ρ p.2 e.val
theorem Rel.pmap {ρ : Rho} {h : H} {w : World} {i : Nat} {own : Bool} {k : IntKind} {ms : List ((Int × Int) × V)} {l : Loc} (r : Rel ρ h w) (hi : h.obj i = some (.map own (mpP k ms))) (hl : ρ i = some l) :
    ∃ es clock, w.heap[l.b]? = some (.map es clock) ∧ PRel ρ k ms es.toList ∧ (∀ e ∈ es, e.born < clock) ∧ (es.toList.map (·.born)).Nodup := by
  obtain ⟨l', e1, es, clock, g1, g2, g3, g4, g5⟩ := r.obj i _ hi
  rw [hl] at e1
  injection e1 with e1
  subst e1
  refine ⟨es, clock, g1, ⟨by simpa [mpP] using g2, fun j p e a b => ?_⟩, g3, g4⟩
  obtain ⟨a1, a2⟩ := g5 j (pk k p.1, p.2) e (by simp [mpP, a]) (by simpa using b)
  exact ⟨pk_inv a1, a2⟩
theorem set_pmap {ρ : Rho} {h : H} {w : World} {i : Nat} {k : IntKind} {ms ms' : List ((Int × Int) × V)} {l : Loc} {es es' : Array MapEntry} {clock clock' : Nat} (r : Rel ρ h w) (hi : h.obj i = some (.map true (mpP k ms))) (hl : ρ i = some l) (hb : w.heap[l.b]? = some (.map es clock))
    (hm : PRel ρ k ms' es'.toList) (h1 : ∀ e ∈ es', e.born < clock') (h2 : (es'.toList.map (·.born)).Nodup) :
    Rel ρ (h.set i (.map true (mpP k ms'))) { w with heap := w.heap.setIfInBounds l.b (.map es' clock') } ∧ Since ρ h w ρ (h.set i (.map true (mpP k ms'))) { w with heap := w.heap.setIfInBounds l.b (.map es' clock') } := by
  have hlt := (Array.getElem?_eq_some_iff.1 hb).1
  have hother : ∀ b, b ≠ l.b → (w.heap.setIfInBounds l.b (.map es' clock'))[b]? = w.heap[b]? := fun b hne => by
    rw [Array.getElem?_setIfInBounds_ne (fun e => hne e.symm)]
  refine ⟨r.upd hi rfl hl hother ?_ rfl, Since.upd r hi rfl hl hother rfl rfl rfl rfl (by simp)⟩
  obtain ⟨a1, a2⟩ := hm
  refine ⟨es', clock', by simp [hlt], by simpa [mpP] using a1, h1, h2, fun j kv m a b => ?_⟩
  obtain ⟨p, hp, rfl⟩ : ∃ p, ms'[j]? = some p ∧ (pk k p.1, p.2) = kv := by
    simp only [mpP, List.getElem?_map, Option.map_eq_some_iff] at a
    exact a
  obtain ⟨b1, b2⟩ := a2 j p m hp (by simpa using b)
  exact ⟨by rw [b1]; exact pk_of _ _ _, b2⟩
section
variable {P : Program} {t kt et e2 : TypeId} {k : IntKind}
theorem PRel.find {ρ : Rho} {w : World} (A : PairK P kt k) {ms : List ((Int × Int) × V)} {es : List MapEntry} (hm : PRel ρ k ms es) (hn : (ms.map (·.1)).Nodup) (hw : ∀ p ∈ ms, pwf k p.1) {n : Int × Int} (wn : pwf k n) :
    (∃ kl, Go.keyOf P kt (pkv k n) = some kl) ∧ (((Instr.findKey kt (pkv k n) es).run P w = .ok none w ∧ pget ms n = none ∧ ∀ v, pput ms n v = ms ++ [(n, v)]) ∨
    ∃ j v e, (Instr.findKey kt (pkv k n) es).run P w = .ok (some (j, e.val)) w ∧ es[j]? = some e ∧ e.key = pkv k n ∧ VRel ρ v e.val ∧ pget ms n = some v ∧ ∀ v', pput ms n v' = ms.set j (n, v')) := by
  have hk : ∀ {m : Int × Int}, pwf k m → ∃ kl, Go.keyOf P kt (pkv k m) = some kl := fun q => A.key _ q
  have hks : ∀ e ∈ es, ∃ l, Go.keyOf P kt e.key = some l := fun e hh => by
    obtain ⟨j, hj, rfl⟩ := List.getElem_of_mem hh
    have hj2 : j < ms.length := by rw [← hm.1]; exact hj
    obtain ⟨b1, b2⟩ := hm.2 j ms[j] es[j] (List.getElem?_eq_getElem hj2) (List.getElem?_eq_getElem hj)
    obtain ⟨kl, q⟩ := hk (hw _ (List.getElem_mem hj2))
    exact ⟨kl, by rw [b1]; exact q⟩
  obtain ⟨kn, hkn⟩ := hk wn
  refine ⟨⟨_, hkn⟩, ?_⟩
  rcases A.law.find w hkn es hks with ⟨h1, h2⟩ | ⟨j, e, h1, h2, h3⟩
  · have hne : ∀ p ∈ ms, p.1 ≠ n := fun p hp q => by
      obtain ⟨j, hj, rfl⟩ := List.getElem_of_mem hp
      have hj2 : j < es.length := by rw [hm.1]; exact hj
      obtain ⟨b1, b2⟩ := hm.2 j ms[j] es[j] (List.getElem?_eq_getElem hj) (List.getElem?_eq_getElem hj2)
      exact h2 _ (List.getElem_mem hj2) (by rw [b1, q])
    exact .inl ⟨h1, pget_none hne, pput_none hne⟩
  · have hj : j < es.length := (List.getElem?_eq_some_iff.1 h2).1
    have hj2 : j < ms.length := by rw [← hm.1]; exact hj
    obtain ⟨b1, b2⟩ := hm.2 j ms[j] e (List.getElem?_eq_getElem hj2) h2
    have hkey : ms[j].1 = n := pkv_inj (by rw [← b1, h3])
    have hat : ms[j]? = some (n, ms[j].2) := by rw [List.getElem?_eq_getElem hj2, ← hkey]
    exact .inr ⟨j, ms[j].2, e, h1, h2, h3, b2, pget_at hn hat, fun v' => pput_at v' hn hat⟩
theorem run_lookup_p {ρ : Rho} {h : H} {w : World} {i : Nat} {own : Bool} {ms : List ((Int × Int) × V)} {l : Loc} (ht : P.underlying t = some (.map kt et)) (A : PairK P kt k) (r : Rel ρ h w) (hi : h.obj i = some (.map own (mpP k ms))) (hl : ρ i = some l) (hn : (ms.map (·.1)).Nodup) (hw : ∀ p ∈ ms, pwf k p.1) {n : Int × Int} (wn : pwf k n) {z : V} {uz : Value} (hz : VRel ρ z uz) (hzr : (zeroValue et).run P w = .ok uz w) (ok : Bool) :
    ∃ u, (Instr.lookup t (.map (some l.b)) (pkv k n) ok).run P w = .ok (if ok then .tuple #[u, .bool (pget ms n).isSome] else u) w ∧ VRel ρ ((pget ms n).getD z) u := by
  obtain ⟨es, clock, hb, hm, h1, h2⟩ := r.pmap hi hl
  obtain ⟨⟨kl, hkl⟩, hf⟩ := hm.find (w := w) A hn hw wn
  rcases hf with ⟨a1, a2, a3⟩ | ⟨j, v, e, a1, a2, a3, a4, a5, a6⟩
  · refine ⟨uz, ?_, by rw [a2]; exact hz⟩
    simp [Instr.lookup, run_underlying ht, MapKept.run_getObj_map hb, A.law.check w _ hkl, a1, hzr, a2, Result.andThen]
  · refine ⟨e.val, ?_, by rw [a5]; exact a4⟩
    simp [Instr.lookup, run_underlying ht, MapKept.run_getObj_map hb, A.law.check w _ hkl, a1, a5, Result.andThen]
theorem run_mapUpdate_p {ρ : Rho} {h : H} {w : World} {i : Nat} {ms : List ((Int × Int) × V)} {l : Loc} (ht : P.underlying t = some (.map kt et)) (A : PairK P kt k) (r : Rel ρ h w) (hi : h.obj i = some (.map true (mpP k ms))) (hl : ρ i = some l) (hn : (ms.map (·.1)).Nodup) (hw : ∀ p ∈ ms, pwf k p.1) {n : Int × Int} (wn : pwf k n) {v : V} {u : Value} (hv : VRel ρ v u) :
    ∃ w', (Instr.mapUpdate t (.map (some l.b)) (pkv k n) u).run P w = .ok () w' ∧ Rel ρ (h.set i (.map true (mpP k (pput ms n v)))) w' ∧ Since ρ h w ρ (h.set i (.map true (mpP k (pput ms n v)))) w' := by
  obtain ⟨es, clock, hb, hm, h1, h2⟩ := r.pmap hi hl
  obtain ⟨⟨kl, hkl⟩, hf⟩ := hm.find (w := w) A hn hw wn
  rcases hf with ⟨a1, a2, a3⟩ | ⟨j, v0, e, a1, a2, a3, a4, a5, a6⟩
  · have hm' : PRel ρ k (pput ms n v) (es.push ⟨pkv k n, u, clock⟩).toList := by
      rw [a3, Array.toList_push]
      refine ⟨by simp [hm.1], fun j p e b1 b2 => ?_⟩
      rw [List.getElem?_append] at b1 b2
      have hl := hm.1
      by_cases hj : j < ms.length
      · rw [if_pos hj] at b1
        rw [if_pos (by omega)] at b2
        exact hm.2 j p e b1 b2
      · rw [if_neg hj] at b1
        rw [if_neg (by omega), hl] at b2
        cases hq : j - ms.length with
        | zero =>
          rw [hq] at b1 b2
          simp at b1 b2
          subst b1 b2
          exact ⟨rfl, hv⟩
        | succ q =>
          rw [hq] at b1
          simp at b1
    obtain ⟨r1, s1⟩ := set_pmap (clock' := clock + 1) r hi hl hb hm' (fun e he => by
      rcases Array.mem_push.1 he with he | rfl
      · have := h1 e he
        omega
      · exact Nat.lt_succ_self _) (by
      rw [Array.toList_push, List.map_append, List.nodup_append]
      refine ⟨h2, by simp, fun x hx y hy e => ?_⟩
      obtain ⟨m, hm1, rfl⟩ := List.mem_map.1 hx
      have hy : y = clock := by simpa using hy
      have := h1 m (Array.mem_toList_iff.1 hm1)
      omega)
    refine ⟨_, ?_, r1, s1⟩
    simp [Instr.mapUpdate, run_underlying ht, MapKept.run_getObj_map hb, A.law.check w _ hkl, a1, MapKept.run_setObj_map _ hb, Result.andThen]
  · have hej : es[j]? = some e := by simpa using a2
    have hmod := modify_set (es := es) a2 (fun e => { e with key := pkv k n, val := u })
    have hf : ({ e with key := pkv k n, val := u } : MapEntry) = { e with val := u } := by rw [← a3]
    rw [hf] at hmod
    have hm' : PRel ρ k (pput ms n v) (es.modify j fun e => { e with key := pkv k n, val := u }).toList := by
      rw [hmod, a6]
      refine ⟨by simp [hm.1], fun i p e' b1 b2 => ?_⟩
      rw [List.getElem?_set] at b1 b2
      by_cases hij : j = i
      · subst hij
        rw [if_pos rfl] at b1 b2
        split at b1
        · split at b2
          · cases b1
            cases b2
            exact ⟨a3, hv⟩
          · cases b2
        · cases b1
      · rw [if_neg hij] at b1 b2
        exact hm.2 i p e' b1 b2
    obtain ⟨r1, s1⟩ := set_pmap (clock' := clock) r hi hl hb hm' (fun x hx => by
      have hx : x ∈ (es.modify j fun e => { e with key := pkv k n, val := u }).toList := Array.mem_toList_iff.2 hx
      rw [hmod] at hx
      rcases List.mem_or_eq_of_mem_set hx with hx | rfl
      · exact h1 x (Array.mem_toList_iff.1 hx)
      · exact h1 e (Array.mem_of_getElem? hej)) (by
      rw [hmod, nodup_set_born a2]
      exact h2)
    refine ⟨_, ?_, r1, s1⟩
    simp [Instr.mapUpdate, run_underlying ht, MapKept.run_getObj_map hb, A.law.check w _ hkl, a1, hej, a3, A.law.stays w hkl, MapKept.run_setObj_map _ hb, Result.andThen]
end
end Go.Ab
/-! Maps with integers for keys: an entry is found first, and written later. -/
namespace Go.Ab
open Go Go.MapKept
theorem MRel.find_set {ρ : Rho} {k : IntKind} {n : Int} : ∀ {ms : List (Int × V)} {es : List MapEntry} (i : Nat), MRel ρ k ms es →
    ∀ j u, Instr.findNow (.int k) (.int k n) es i = some (some (i + j, u)) → (ms[j]?).map (·.1) = some n ∧ (∀ v, ms.set j (n, v) = mput ms n v)
  | [], [], i, _ => fun j u e => by simp [Instr.findNow] at e
  | [], _ :: _, _, h => h.elim
  | _ :: _, [], _, h => h.elim
  | p :: ms, e :: es, i, h => by
    obtain ⟨h1, h2, h3⟩ := h
    intro j u e1
    by_cases hp : p.1 = n
    · have hs : Instr.findNow (.int k) (.int k n) (e :: es) i = some (some (i, e.val)) := by
        rw [Instr.findNow, h1]
        simp [Instr.sameNow, hp]
      rw [hs] at e1
      injection e1 with e1
      injection e1 with e1
      injection e1 with e1 _
      have : j = 0 := by omega
      subst this
      exact ⟨by simp [hp], fun v => by rw [mput, if_pos hp, List.set_cons_zero, hp]⟩
    · have hs : Instr.findNow (.int k) (.int k n) (e :: es) i = Instr.findNow (.int k) (.int k n) es (i + 1) := by
        have : Instr.sameNow (.int k) (.int k n) e.key = some false := by
          rw [h1]
          simp [Instr.sameNow]
          exact fun q => hp q.symm
        rw [Instr.findNow, this]
      rw [hs] at e1
      rcases h3.find (n := n) (i + 1) with ⟨_, b2, _, _⟩ | ⟨j2, v2, e2, _, _, _, _, b2, _, _⟩
      · rw [b2] at e1
        cases e1
      · have e3 := e1
        rw [b2] at e3
        injection e3 with e3
        injection e3 with e3
        injection e3 with e3 _
        have : j = j2 + 1 := by omega
        subst this
        obtain ⟨a1, a2⟩ := h3.find_set (n := n) (i + 1) j2 u (by rw [e1, show i + 1 + j2 = i + (j2 + 1) by omega])
        exact ⟨by simpa using a1, fun v => by rw [mput, if_neg hp, List.set_cons_succ, a2]⟩
theorem set_map' {ρ : Rho} {h : H} {w : World} {i : Nat} {k : IntKind} {ms' : List (Int × V)} {l : Loc} {es es' : Array MapEntry} {clock clock' : Nat} {ob : Ab.Obj} (r : Rel ρ h w) (hi : h.obj i = some ob) (ho : ob.own = true) (hl : ρ i = some l) (hb : w.heap[l.b]? = some (.map es clock))
    (hm : MRel ρ k ms' es'.toList) (h1 : ∀ e ∈ es', e.born < clock') (h2 : (es'.toList.map (·.born)).Nodup) :
    Rel ρ (h.set i (.map true (mpE k ms'))) { w with heap := w.heap.setIfInBounds l.b (.map es' clock') } ∧ Since ρ h w ρ (h.set i (.map true (mpE k ms'))) { w with heap := w.heap.setIfInBounds l.b (.map es' clock') } := by
  have hlt := (Array.getElem?_eq_some_iff.1 hb).1
  have hother : ∀ b, b ≠ l.b → (w.heap.setIfInBounds l.b (.map es' clock'))[b]? = w.heap[b]? := fun b hne => by
    rw [Array.getElem?_setIfInBounds_ne (fun e => hne e.symm)]
  refine ⟨r.upd hi ho hl hother ?_ rfl, Since.upd r hi ho hl hother rfl rfl rfl rfl (by simp)⟩
  obtain ⟨a1, a2⟩ := hm.to_obj
  exact ⟨es', clock', by simp [hlt], by simpa using a1, h1, h2, fun j kv m a b => a2 j kv m a (by simpa using b)⟩
theorem set_mapb2 {ρ : Rho} {h : H} {w : World} {i : Nat} {k : IntKind} {ms' : List (Int × V)} {l : Loc} {es es' : Array MapEntry} {bs' : List Nat} {cl0 cl : Nat} {ob : Ab.Obj} (r : Rel ρ h w) (hi : h.obj i = some ob) (ho : ob.own = true) (hl : ρ i = some l) (hb : w.heap[l.b]? = some (.map es cl0))
    (hm : MRel ρ k ms' es'.toList) (h1 : ∀ e ∈ es', e.born < cl) (h2 : es'.toList.map (·.born) = bs') (h3 : bs'.Nodup) :
    Rel ρ (h.set i (.mapb (mpE k ms') bs' cl)) { w with heap := w.heap.setIfInBounds l.b (.map es' cl) } ∧ Since ρ h w ρ (h.set i (.mapb (mpE k ms') bs' cl)) { w with heap := w.heap.setIfInBounds l.b (.map es' cl) } := by
  have hlt := (Array.getElem?_eq_some_iff.1 hb).1
  have hother : ∀ b, b ≠ l.b → (w.heap.setIfInBounds l.b (.map es' cl))[b]? = w.heap[b]? := fun b hne => by
    rw [Array.getElem?_setIfInBounds_ne (fun e => hne e.symm)]
  refine ⟨r.upd hi ho hl hother ?_ rfl, Since.upd r hi ho hl hother rfl rfl rfl rfl (by simp)⟩
  obtain ⟨a1, a2⟩ := hm.to_obj
  exact ⟨es', by simp [hlt], by simpa using a1, h1, h2, h3, fun j kv m a b => a2 j kv m a (by simpa using b)⟩
theorem MRel.snoc {ρ : Rho} {k : IntKind} {n : Int} {v : V} {u : Value} {b : Nat} (hv : VRel ρ v u) : ∀ {ms : List (Int × V)} {es : List MapEntry}, MRel ρ k ms es → MRel ρ k (ms ++ [(n, v)]) (es ++ [⟨.int k n, u, b⟩])
  | [], [], _ => ⟨rfl, hv, trivial⟩
  | [], _ :: _, h => h.elim
  | _ :: _, [], h => h.elim
  | p :: ms, e :: es, h => ⟨h.1, h.2.1, h.2.2.snoc hv⟩
theorem MRel.setv {ρ : Rho} {k : IntKind} {n : Int} {v : V} {u : Value} (hv : VRel ρ v u) : ∀ {ms : List (Int × V)} {es : List MapEntry} {j : Nat} {e : MapEntry}, MRel ρ k ms es → es[j]? = some e → (ms[j]?).map (·.1) = some n → MRel ρ k (ms.set j (n, v)) (es.set j { e with val := u })
  | [], [], j, e, _, he, _ => by simp at he
  | [], _ :: _, _, _, h, _, _ => h.elim
  | _ :: _, [], _, _, h, _, _ => h.elim
  | p :: ms, x :: es, 0, e, h, he, hn => by
    have he : x = e := by simpa using he
    have hn : p.1 = n := by simpa using hn
    subst he
    rw [List.set_cons_zero, List.set_cons_zero]
    exact ⟨by rw [← hn]; exact h.1, hv, h.2.2⟩
  | p :: ms, x :: es, j + 1, e, h, he, hn => by
    rw [List.set_cons_succ, List.set_cons_succ]
    exact ⟨h.1, h.2.1, h.2.2.setv hv (by simpa using he) (by simpa using hn)⟩
section
variable {P : Program} {t kt et : TypeId} {k : IntKind}
theorem run_mapEntry {ρ : Rho} {h : H} {w : World} {i : Nat} {ms : List (Int × V)} {l : Loc} (ht : P.underlying t = some (.map kt et)) (hk : P.underlying kt = some (.int k)) (r : Rel ρ h w) (hi : h.obj i = some (.map true (mpE k ms))) (hl : ρ i = some l) (n : Int) {uz : Value} (hzr : (zeroValue et).run P w = .ok uz w) :
    ∃ (ms' : List (Int × V)) (bs : List Nat) (cl p b : Nat) (u : Value) (w' : World), bs.length = ms'.length ∧ bs.Nodup ∧ (∀ x ∈ bs, x < cl) ∧ (ms'[p]?).map (·.1) = some n ∧ bs[p]? = some b ∧ (∀ v, ms'.set p (n, v) = mput ms n v) ∧
      (Instr.mapEntry t (.map (some l.b)) (.int k n)).run P w = .ok (.tuple #[u, .int .i64 (b : Int)]) w' ∧ Rel ρ (h.set i (.mapb (mpE k ms') bs cl)) w' ∧ Since ρ h w ρ (h.set i (.mapb (mpE k ms') bs cl)) w' := by
  obtain ⟨es, clock, hb, hm, h1, h2⟩ := r.map hi hl
  have hkey : IsKey (.int k) (.int k n) := rfl
  have hl0 := hm.len
  rcases hm.find (n := n) 0 with ⟨a1, a2, a3, a4⟩ | ⟨j, v0, e, a1, a2, a3, a4, a5, a6, a7⟩
  · have hm' : MRel ρ k (ms ++ [(n, .undef)]) (es.push ⟨.int k n, uz, clock⟩).toList := by
      rw [Array.toList_push]
      exact hm.snoc (.undef uz)
    have hbs : (es.push ⟨.int k n, uz, clock⟩).toList.map (·.born) = es.toList.map (·.born) ++ [clock] := by
      rw [Array.toList_push, List.map_append]
      rfl
    have hnd : (es.toList.map (·.born) ++ [clock]).Nodup := by
      rw [List.nodup_append]
      refine ⟨h2, by simp, fun x hx y hy e => ?_⟩
      obtain ⟨m, hm1, rfl⟩ := List.mem_map.1 hx
      have hy : y = clock := by simpa using hy
      have := h1 m (Array.mem_toList_iff.1 hm1)
      omega
    obtain ⟨r1, s1⟩ := set_mapb2 (es' := es.push ⟨.int k n, uz, clock⟩) (bs' := es.toList.map (·.born) ++ [clock]) (cl := clock + 1) r hi rfl hl hb hm' (fun e he => by
        rcases Array.mem_push.1 he with he | rfl
        · have := h1 e he
          omega
        · exact Nat.lt_succ_self _) hbs hnd
    refine ⟨ms ++ [(n, .undef)], es.toList.map (·.born) ++ [clock], clock + 1, ms.length, clock, uz, _, ?_, hnd, fun x hx => ?_, ?_, ?_, fun v => ?_, ?_, r1, s1⟩
    · simp only [List.length_append, List.length_map, hl0, List.length_cons, List.length_nil]
    · rcases List.mem_append.1 hx with hx | hx
      · obtain ⟨m, hm1, rfl⟩ := List.mem_map.1 hx
        have := h1 m (Array.mem_toList_iff.1 hm1)
        omega
      · have : x = clock := by simpa using hx
        omega
    · simp
    · rw [List.getElem?_append_right (by rw [List.length_map, hl0]; exact Nat.le_refl _), List.length_map, hl0, Nat.sub_self]
      rfl
    · rw [a3, List.set_append_right _ _ (Nat.le_refl _), Nat.sub_self]
      rfl
    · simp [Instr.mapEntry, run_underlying ht, MapKept.run_getObj_map hb, run_checkKey hk hkey, run_findKey hk a2, hzr, MapKept.run_setObj_map _ hb, Result.andThen, goInt]
  · obtain ⟨f1, f2⟩ := hm.find_set (n := n) 0 j _ a5
    rw [Nat.zero_add] at a5
    have hej : es[j]? = some e := by simpa using a2
    have hmod := modify_set (es := es) a2 (fun e => { e with key := .int k n })
    have hf : ({ e with key := .int k n } : MapEntry) = e := by rw [← a3]
    rw [hf] at hmod
    have hsame : es.modify j (fun e => { e with key := .int k n }) = es := by
      apply Array.ext'
      rw [hmod]
      exact WideElems.set_self _ _ _ a2
    have hbs : es.toList.map (·.born) = es.toList.map (·.born) := rfl
    obtain ⟨r1, s1⟩ := set_mapb (es' := es) (bs' := es.toList.map (·.born)) r hi rfl hl hb hm h1 rfl h2
    refine ⟨ms, es.toList.map (·.born), clock, j, e.born, e.val, _, ?_, h2, fun x hx => ?_, f1, ?_, f2, ?_, r1, s1⟩
    · rw [List.length_map]
      exact hl0
    · obtain ⟨m, hm1, rfl⟩ := List.mem_map.1 hx
      exact h1 m (Array.mem_toList_iff.1 hm1)
    · rw [List.getElem?_map, a2]
      rfl
    · simp [Instr.mapEntry, run_underlying ht, MapKept.run_getObj_map hb, run_checkKey hk hkey, run_findKey hk a5, hej, a3, run_keyThatStays hkey, hsame, MapKept.run_setObj_map _ hb, Result.andThen, goInt]
theorem run_entryStore {ρ : Rho} {h : H} {w : World} {i p b cl : Nat} {n : Int} {ms : List (Int × V)} {bs : List Nat} {l : Loc} {k2 : IntKind} (r : Rel ρ h w) (hi : h.obj i = some (.mapb (mpE k ms) bs cl)) (hl : ρ i = some l) (hp : bs[p]? = some b) (hn : (ms[p]?).map (·.1) = some n) {v : V} {u : Value} (hv : VRel ρ v u) :
    ∃ w', (Instr.entryStore t (.map (some l.b)) (.int k2 (b : Int)) u).run P w = .ok () w' ∧ Rel ρ (h.set i (.map true (mpE k (ms.set p (n, v))))) w' ∧ Since ρ h w ρ (h.set i (.map true (mpE k (ms.set p (n, v))))) w' := by
  obtain ⟨es, hb, hm, h1, h2, h3⟩ := r.mapb hi hl
  have hpe : ∃ e, es.toList[p]? = some e ∧ e.born = b := by
    rw [← h2, List.getElem?_map] at hp
    cases hx : es.toList[p]? with
    | none => rw [hx] at hp; cases hp
    | some e =>
      rw [hx] at hp
      injection hp with hp
      exact ⟨e, rfl, hp⟩
  obtain ⟨e, hpe, rfl⟩ := hpe
  have hmod := modify_set (es := es) hpe (fun e => { e with val := u })
  have hnd : (es.toList.map (·.born)).Nodup := by rw [h2]; exact h3
  obtain ⟨r1, s1⟩ := set_map' (es' := es.modify p fun e => { e with val := u }) (clock' := cl) (ms' := ms.set p (n, v)) r hi rfl hl hb (by rw [hmod]; exact hm.setv hv hpe hn) (fun x hx => by
    have hx : x ∈ (es.modify p fun e => { e with val := u }).toList := Array.mem_toList_iff.2 hx
    rw [hmod] at hx
    rcases List.mem_or_eq_of_mem_set hx with hx | rfl
    · exact h1 x (Array.mem_toList_iff.1 hx)
    · exact h1 e (Array.mem_toList_iff.1 (List.mem_of_getElem? hpe))) (by
    rw [hmod, nodup_set_born hpe]
    exact hnd)
  have hidx : es.findIdx? (fun x => ((x.born : Nat) : Int) == ((e.born : Nat) : Int)) = some p := by
    rw [WideElems.findIdx_arr]
    exact WideElems.findIdx_born hnd hpe
  refine ⟨_, ?_, r1, s1⟩
  simp [Instr.entryStore, MapKept.run_getObj_map hb, asInt, asIntOf, hidx, MapKept.run_setObj_map _ hb, Result.andThen]
end
end Go.Ab
/-! Maps with pairs for keys: an entry found first and written later; to go through them. -/
namespace Go.Ab
open Go Go.MapKept Go.WideMaps
theorem PRel.to_obj {ρ : Rho} {k : IntKind} {ms : List ((Int × Int) × V)} {es : List MapEntry} (m : PRel ρ k ms es) : es.length = (mpP k ms).length ∧ ∀ (j : Nat) (kv : V × V) (e : MapEntry), (mpP k ms)[j]? = some kv → es[j]? = some e → VRel ρ kv.1 e.key ∧ VRel ρ kv.2 e.val := by
  obtain ⟨a1, a2⟩ := m
  refine ⟨by simpa [mpP] using a1, fun j kv e a b => ?_⟩
  obtain ⟨p, hp, rfl⟩ : ∃ p, ms[j]? = some p ∧ (pk k p.1, p.2) = kv := by
    simp only [mpP, List.getElem?_map, Option.map_eq_some_iff] at a
    exact a
  obtain ⟨b1, b2⟩ := a2 j p e hp b
  exact ⟨by rw [b1]; exact pk_of _ _ _, b2⟩
theorem PRel.of_obj {ρ : Rho} {k : IntKind} {ms : List ((Int × Int) × V)} {es : List MapEntry} (h1 : es.length = (mpP k ms).length) (h2 : ∀ (j : Nat) (kv : V × V) (e : MapEntry), (mpP k ms)[j]? = some kv → es[j]? = some e → VRel ρ kv.1 e.key ∧ VRel ρ kv.2 e.val) : PRel ρ k ms es := by
  refine ⟨by simpa [mpP] using h1, fun j p e a b => ?_⟩
  obtain ⟨a1, a2⟩ := h2 j (pk k p.1, p.2) e (by simp [mpP, a]) b
  exact ⟨pk_inv a1, a2⟩
theorem PRel.snoc {ρ : Rho} {k : IntKind} {n : Int × Int} {v : V} {u : Value} {b : Nat} (hv : VRel ρ v u) {ms : List ((Int × Int) × V)} {es : List MapEntry} (m : PRel ρ k ms es) : PRel ρ k (ms ++ [(n, v)]) (es ++ [⟨pkv k n, u, b⟩]) := by
  have hl := m.1
  refine ⟨by simp [hl], fun j p e b1 b2 => ?_⟩
  rw [List.getElem?_append] at b1 b2
  by_cases hj : j < ms.length
  · rw [if_pos hj] at b1
    rw [if_pos (by omega)] at b2
    exact m.2 j p e b1 b2
  · rw [if_neg hj] at b1
    rw [if_neg (by omega), hl] at b2
    cases hq : j - ms.length with
    | zero =>
      rw [hq] at b1 b2
      simp at b1 b2
      subst b1 b2
      exact ⟨rfl, hv⟩
    | succ q =>
      rw [hq] at b1
      simp at b1
theorem PRel.setv {ρ : Rho} {k : IntKind} {n : Int × Int} {v : V} {u : Value} (hv : VRel ρ v u) {ms : List ((Int × Int) × V)} {es : List MapEntry} {p : Nat} {e : MapEntry} (m : PRel ρ k ms es) (he : es[p]? = some e) (hn : (ms[p]?).map (·.1) = some n) : PRel ρ k (ms.set p (n, v)) (es.set p { e with val := u }) := by
  have hl := m.1
  refine ⟨by simp [hl], fun j q x a b => ?_⟩
  rw [List.getElem?_set] at a b
  by_cases hj : p = j
  · subst hj
    have h1 : p < es.length := (List.getElem?_eq_some_iff.1 he).1
    rw [if_pos rfl, if_pos (by omega)] at a
    rw [if_pos rfl, if_pos h1] at b
    injection a with a
    injection b with b
    subst a b
    have h2 : p < ms.length := by omega
    rw [List.getElem?_eq_getElem h2] at hn
    have hn : ms[p].1 = n := by simpa using hn
    obtain ⟨c1, _⟩ := m.2 p ms[p] e (List.getElem?_eq_getElem h2) he
    exact ⟨by rw [← hn]; exact c1, hv⟩
  · rw [if_neg hj] at a b
    exact m.2 j q x a b
theorem Rel.pmapb {ρ : Rho} {h : H} {w : World} {i : Nat} {k : IntKind} {ms : List ((Int × Int) × V)} {bs : List Nat} {cl : Nat} {l : Loc} (r : Rel ρ h w) (hi : h.obj i = some (.mapb (mpP k ms) bs cl)) (hl : ρ i = some l) :
    ∃ es, w.heap[l.b]? = some (.map es cl) ∧ PRel ρ k ms es.toList ∧ (∀ e ∈ es, e.born < cl) ∧ es.toList.map (·.born) = bs ∧ bs.Nodup := by
  obtain ⟨l', e1, es, g1, g2, g3, g4, g5, g6⟩ := r.obj i _ hi
  rw [hl] at e1
  injection e1 with e1
  subst e1
  exact ⟨es, g1, PRel.of_obj (by simpa using g2) (fun j kv m a b => g6 j kv m a (by simpa using b)), g3, g4, g5⟩
theorem set_pmapb {ρ : Rho} {h : H} {w : World} {i : Nat} {k : IntKind} {ms' : List ((Int × Int) × V)} {l : Loc} {es es' : Array MapEntry} {bs' : List Nat} {cl0 cl : Nat} {ob : Ab.Obj} (r : Rel ρ h w) (hi : h.obj i = some ob) (ho : ob.own = true) (hl : ρ i = some l) (hb : w.heap[l.b]? = some (.map es cl0))
    (hm : PRel ρ k ms' es'.toList) (h1 : ∀ e ∈ es', e.born < cl) (h2 : es'.toList.map (·.born) = bs') (h3 : bs'.Nodup) :
    Rel ρ (h.set i (.mapb (mpP k ms') bs' cl)) { w with heap := w.heap.setIfInBounds l.b (.map es' cl) } ∧ Since ρ h w ρ (h.set i (.mapb (mpP k ms') bs' cl)) { w with heap := w.heap.setIfInBounds l.b (.map es' cl) } := by
  have hlt := (Array.getElem?_eq_some_iff.1 hb).1
  have hother : ∀ b, b ≠ l.b → (w.heap.setIfInBounds l.b (.map es' cl))[b]? = w.heap[b]? := fun b hne => by
    rw [Array.getElem?_setIfInBounds_ne (fun e => hne e.symm)]
  refine ⟨r.upd hi ho hl hother ?_ rfl, Since.upd r hi ho hl hother rfl rfl rfl rfl (by simp)⟩
  obtain ⟨a1, a2⟩ := hm.to_obj
  exact ⟨es', by simp [hlt], by simpa using a1, h1, h2, h3, fun j kv m a b => a2 j kv m a (by simpa using b)⟩
theorem set_pmap' {ρ : Rho} {h : H} {w : World} {i : Nat} {k : IntKind} {ms' : List ((Int × Int) × V)} {l : Loc} {es es' : Array MapEntry} {clock clock' : Nat} {ob : Ab.Obj} (r : Rel ρ h w) (hi : h.obj i = some ob) (ho : ob.own = true) (hl : ρ i = some l) (hb : w.heap[l.b]? = some (.map es clock))
    (hm : PRel ρ k ms' es'.toList) (h1 : ∀ e ∈ es', e.born < clock') (h2 : (es'.toList.map (·.born)).Nodup) :
    Rel ρ (h.set i (.map true (mpP k ms'))) { w with heap := w.heap.setIfInBounds l.b (.map es' clock') } ∧ Since ρ h w ρ (h.set i (.map true (mpP k ms'))) { w with heap := w.heap.setIfInBounds l.b (.map es' clock') } := by
  have hlt := (Array.getElem?_eq_some_iff.1 hb).1
  have hother : ∀ b, b ≠ l.b → (w.heap.setIfInBounds l.b (.map es' clock'))[b]? = w.heap[b]? := fun b hne => by
    rw [Array.getElem?_setIfInBounds_ne (fun e => hne e.symm)]
  refine ⟨r.upd hi ho hl hother ?_ rfl, Since.upd r hi ho hl hother rfl rfl rfl rfl (by simp)⟩
  obtain ⟨a1, a2⟩ := hm.to_obj
  exact ⟨es', clock', by simp [hlt], by simpa using a1, h1, h2, fun j kv m a b => a2 j kv m a (by simpa using b)⟩
section
variable {P : Program} {t kt et : TypeId} {k : IntKind}
theorem run_mapEntry_p {ρ : Rho} {h : H} {w : World} {i : Nat} {ms : List ((Int × Int) × V)} {l : Loc} (ht : P.underlying t = some (.map kt et)) (A : PairK P kt k) (r : Rel ρ h w) (hi : h.obj i = some (.map true (mpP k ms))) (hl : ρ i = some l) (hn : (ms.map (·.1)).Nodup) (hw : ∀ p ∈ ms, pwf k p.1) {n : Int × Int} (wn : pwf k n) {z : V} {uz : Value} (hz : VRel ρ z uz) (hzr : (zeroValue et).run P w = .ok uz w) :
    ∃ (ms' : List ((Int × Int) × V)) (bs : List Nat) (cl p b : Nat) (u : Value) (w' : World), bs.length = ms'.length ∧ bs.Nodup ∧ (∀ x ∈ bs, x < cl) ∧ (ms'[p]?).map (·.1) = some n ∧ bs[p]? = some b ∧ (∀ v, ms'.set p (n, v) = pput ms n v) ∧ VRel ρ ((pget ms n).getD z) u ∧
      (Instr.mapEntry t (.map (some l.b)) (pkv k n)).run P w = .ok (.tuple #[u, .int .i64 (b : Int)]) w' ∧ Rel ρ (h.set i (.mapb (mpP k ms') bs cl)) w' ∧ Since ρ h w ρ (h.set i (.mapb (mpP k ms') bs cl)) w' := by
  obtain ⟨es, clock, hb, hm, h1, h2⟩ := r.pmap hi hl
  have hl0 := hm.1
  obtain ⟨⟨kl, hkl⟩, hf⟩ := hm.find (w := w) A hn hw wn
  rcases hf with ⟨a1, a2, a3⟩ | ⟨j, v0, e, a1, a2, a3, a4, a5, a6⟩
  · have hm' : PRel ρ k (ms ++ [(n, z)]) (es.push ⟨pkv k n, uz, clock⟩).toList := by
      rw [Array.toList_push]
      exact hm.snoc hz
    have hbs : (es.push ⟨pkv k n, uz, clock⟩).toList.map (·.born) = es.toList.map (·.born) ++ [clock] := by
      rw [Array.toList_push, List.map_append]
      rfl
    have hnd : (es.toList.map (·.born) ++ [clock]).Nodup := by
      rw [List.nodup_append]
      refine ⟨h2, by simp, fun x hx y hy e => ?_⟩
      obtain ⟨m, hm1, rfl⟩ := List.mem_map.1 hx
      have hy : y = clock := by simpa using hy
      have := h1 m (Array.mem_toList_iff.1 hm1)
      omega
    obtain ⟨r1, s1⟩ := set_pmapb (es' := es.push ⟨pkv k n, uz, clock⟩) (bs' := es.toList.map (·.born) ++ [clock]) (cl := clock + 1) r hi rfl hl hb hm' (fun e he => by
        rcases Array.mem_push.1 he with he | rfl
        · have := h1 e he
          omega
        · exact Nat.lt_succ_self _) hbs hnd
    refine ⟨ms ++ [(n, z)], es.toList.map (·.born) ++ [clock], clock + 1, ms.length, clock, uz, _, ?_, hnd, fun x hx => ?_, ?_, ?_, fun v => ?_, ?_, ?_, r1, s1⟩
    · simp only [List.length_append, List.length_map, hl0, List.length_cons, List.length_nil]
    · rcases List.mem_append.1 hx with hx | hx
      · obtain ⟨m, hm1, rfl⟩ := List.mem_map.1 hx
        have := h1 m (Array.mem_toList_iff.1 hm1)
        omega
      · have : x = clock := by simpa using hx
        omega
    · simp
    · rw [List.getElem?_append_right (by rw [List.length_map, hl0]; exact Nat.le_refl _), List.length_map, hl0, Nat.sub_self]
      rfl
    · rw [a3, List.set_append_right _ _ (Nat.le_refl _), Nat.sub_self]
      rfl
    · rw [a2]
      exact hz
    · simp [Instr.mapEntry, run_underlying ht, MapKept.run_getObj_map hb, A.law.check w _ hkl, a1, hzr, MapKept.run_setObj_map _ hb, Result.andThen, goInt]
  · have hej : es[j]? = some e := by simpa using a2
    have hmod := modify_set (es := es) a2 (fun e => { e with key := pkv k n })
    have hf : ({ e with key := pkv k n } : MapEntry) = e := by rw [← a3]
    rw [hf] at hmod
    have hsame : es.modify j (fun e => { e with key := pkv k n }) = es := by
      apply Array.ext'
      rw [hmod]
      exact WideElems.set_self _ _ _ a2
    have hj : j < es.toList.length := (List.getElem?_eq_some_iff.1 a2).1
    have hj2 : j < ms.length := by omega
    have hk1 : ms[j].1 = n := by
      obtain ⟨c1, _⟩ := hm.2 j ms[j] e (List.getElem?_eq_getElem hj2) a2
      exact pkv_inj (c1.symm.trans a3)
    obtain ⟨r1, s1⟩ := set_pmapb (es' := es) (bs' := es.toList.map (·.born)) (cl := clock) r hi rfl hl hb hm h1 rfl h2
    refine ⟨ms, es.toList.map (·.born), clock, j, e.born, e.val, _, ?_, h2, fun x hx => ?_, ?_, ?_, fun v => (a6 v).symm, ?_, ?_, r1, s1⟩
    · rw [List.length_map]
      exact hl0
    · obtain ⟨m, hm1, rfl⟩ := List.mem_map.1 hx
      exact h1 m (Array.mem_toList_iff.1 hm1)
    · rw [List.getElem?_eq_getElem hj2]
      exact congrArg some hk1
    · rw [List.getElem?_map, a2]
      rfl
    · rw [a5]
      exact a4
    · simp [Instr.mapEntry, run_underlying ht, MapKept.run_getObj_map hb, A.law.check w _ hkl, a1, hej, a3, A.law.stays _ hkl, hsame, MapKept.run_setObj_map _ hb, Result.andThen, goInt]
theorem run_entryStore_p {ρ : Rho} {h : H} {w : World} {i p b cl : Nat} {n : Int × Int} {ms : List ((Int × Int) × V)} {bs : List Nat} {l : Loc} {k2 : IntKind} (r : Rel ρ h w) (hi : h.obj i = some (.mapb (mpP k ms) bs cl)) (hl : ρ i = some l) (hp : bs[p]? = some b) (hn : (ms[p]?).map (·.1) = some n) {v : V} {u : Value} (hv : VRel ρ v u) :
    ∃ w', (Instr.entryStore t (.map (some l.b)) (.int k2 (b : Int)) u).run P w = .ok () w' ∧ Rel ρ (h.set i (.map true (mpP k (ms.set p (n, v))))) w' ∧ Since ρ h w ρ (h.set i (.map true (mpP k (ms.set p (n, v))))) w' := by
  obtain ⟨es, hb, hm, h1, h2, h3⟩ := r.pmapb hi hl
  have hpe : ∃ e, es.toList[p]? = some e ∧ e.born = b := by
    rw [← h2, List.getElem?_map] at hp
    cases hx : es.toList[p]? with
    | none => rw [hx] at hp; cases hp
    | some e =>
      rw [hx] at hp
      injection hp with hp
      exact ⟨e, rfl, hp⟩
  obtain ⟨e, hpe, rfl⟩ := hpe
  have hmod := modify_set (es := es) hpe (fun e => { e with val := u })
  have hnd : (es.toList.map (·.born)).Nodup := by rw [h2]; exact h3
  obtain ⟨r1, s1⟩ := set_pmap' (es' := es.modify p fun e => { e with val := u }) (clock' := cl) (ms' := ms.set p (n, v)) r hi rfl hl hb (by rw [hmod]; exact hm.setv hv hpe hn) (fun x hx => by
    have hx : x ∈ (es.modify p fun e => { e with val := u }).toList := Array.mem_toList_iff.2 hx
    rw [hmod] at hx
    rcases List.mem_or_eq_of_mem_set hx with hx | rfl
    · exact h1 x (Array.mem_toList_iff.1 hx)
    · exact h1 e (Array.mem_toList_iff.1 (List.mem_of_getElem? hpe))) (by
    rw [hmod, nodup_set_born hpe]
    exact hnd)
  have hidx : es.findIdx? (fun x => ((x.born : Nat) : Int) == ((e.born : Nat) : Int)) = some p := by
    rw [WideElems.findIdx_arr]
    exact WideElems.findIdx_born hnd hpe
  refine ⟨_, ?_, r1, s1⟩
  simp [Instr.entryStore, MapKept.run_getObj_map hb, asInt, asIntOf, hidx, MapKept.run_setObj_map _ hb, Result.andThen]
theorem run_range_p {ρ : Rho} {h : H} {w : World} {i : Nat} {ms : List ((Int × Int) × V)} {l : Loc} (ht : P.underlying t = some (.map kt et)) (r : Rel ρ h w) (hd : Dom ρ h.next) (hi : h.obj i = some (.map true (mpP k ms))) (hl : ρ i = some l) :
    ∃ bs cl, bs.length = ms.length ∧ bs.Nodup ∧ (∀ b ∈ bs, b < cl) ∧ (Instr.range t (.map (some l.b))).run P w = .ok (.pointer (some ⟨w.heap.size, 0, none⟩)) (w.alloc (.mapIter (some l.b) cl #[] cl)) ∧
      Rel (ρ.add h.next ⟨w.heap.size, 0, 0, 0⟩) ((h.set i (.mapb (mpP k ms) bs cl)).push (.itr i cl [] cl)) (w.alloc (.mapIter (some l.b) cl #[] cl)) ∧
      Since ρ h w (ρ.add h.next ⟨w.heap.size, 0, 0, 0⟩) ((h.set i (.mapb (mpP k ms) bs cl)).push (.itr i cl [] cl)) (w.alloc (.mapIter (some l.b) cl #[] cl)) := by
  obtain ⟨es, cl, hb, hm, h1, h2⟩ := r.pmap hi hl
  obtain ⟨m1, m2⟩ := hm.to_obj
  have ho : ObjRel ρ w l (.mapb (mpP k ms) (es.toList.map (·.born)) cl) := ⟨es, hb, by simpa using m1, h1, rfl, h2, fun j kv m a b => m2 j kv m a (by simpa using b)⟩
  have r1 : Rel ρ (h.set i (.mapb (mpP k ms) (es.toList.map (·.born)) cl)) w := r.upd hi rfl hl (fun _ _ => rfl) ho rfl
  have s1 : Since ρ h w ρ (h.set i (.mapb (mpP k ms) (es.toList.map (·.born)) cl)) w := Since.upd r hi rfl hl (fun _ _ => rfl) rfl rfl rfl rfl (Nat.le_refl _)
  have hold : ∀ b, b < w.heap.size → (w.alloc (.mapIter (some l.b) cl #[] cl)).heap[b]? = w.heap[b]? := fun b hb => heap_alloc_old w _ hb
  have r2 := Rel.push (l := ⟨w.heap.size, 0, 0, 0⟩) (ob := .itr i cl [] cl) r1 hd (Nat.le_refl _) hold ⟨l, Rho.add_ext hd _ _ _ hl, rfl, heap_alloc_new w _⟩
  have s2 := Since.push (l := ⟨w.heap.size, 0, 0, 0⟩) (ob := .itr i cl [] cl) (w' := w.alloc (.mapIter (some l.b) cl #[] cl)) r1 hd (Nat.le_refl _) rfl rfl rfl (by show w.heap.size ≤ (w.heap.push _).size; rw [Array.size_push]; omega) hold
  refine ⟨es.toList.map (fun (e : MapEntry) => e.born), cl, ?_, h2, fun b hb => ?_, run_range_map w t kt et l.b es cl ht hb, r2, s1.trans s2⟩
  · rw [List.length_map]
    exact hm.1
  · obtain ⟨e, he, rfl⟩ := List.mem_map.1 hb
    exact h1 e (Array.mem_toList_iff.1 he)
theorem PRel.at {ρ : Rho} {k : IntKind} {ms : List ((Int × Int) × V)} {es : List MapEntry} (m : PRel ρ k ms es) {p : Nat} {e : MapEntry} (he : es[p]? = some e) : ∃ n v, ms[p]? = some (n, v) ∧ e.key = pkv k n ∧ VRel ρ v e.val := by
  have hp : p < es.length := (List.getElem?_eq_some_iff.1 he).1
  have hp2 : p < ms.length := by have := m.1; omega
  obtain ⟨a, b⟩ := m.2 p ms[p] e (List.getElem?_eq_getElem hp2) he
  exact ⟨ms[p].1, ms[p].2, List.getElem?_eq_getElem hp2, a, b⟩
theorem run_next_p {ρ : Rho} {h : H} {w : World} {i j cl : Nat} {seen : List Nat} {ms : List ((Int × Int) × V)} {bs : List Nat} {l : Loc} (r : Rel ρ h w) (hj : h.obj j = some (.itr i cl seen cl)) (hi : h.obj i = some (.mapb (mpP k ms) bs cl)) (hl : ρ j = some l) (ty : TypeId) :
    ((∀ b ∈ bs, b ∈ seen) ∧ (Instr.next (.pointer (some ⟨l.b, l.o + 0, none⟩)) false ty).run P w = .ok (.tuple #[.bool false]) w) ∨
    ∃ (p : Nat) (n : Int × Int) (v : V) (b : Nat) (u : Value) (w' : World), ms[p]? = some (n, v) ∧ bs[p]? = some b ∧ b ∉ seen ∧ VRel ρ v u ∧ (Instr.next (.pointer (some ⟨l.b, l.o + 0, none⟩)) false ty).run P w = .ok (.tuple #[.bool true, pkv k n, u]) w' ∧
      Rel ρ (h.set j (.itr i cl (seen ++ [b]) cl)) w' ∧ Since ρ h w ρ (h.set j (.itr i cl (seen ++ [b]) cl)) w' := by
  obtain ⟨l', e1, lm, e2, e3, e4⟩ := r.obj j _ hj
  rw [hl] at e1
  injection e1 with e1
  subst e1
  obtain ⟨es, hb, hm, h1, h2, h3⟩ := r.pmapb hi e2
  rw [e3]
  rcases run_next_at (P := P) w ty l.b lm.b cl cl seen.toArray es cl e4 hb (fun x hx => h1 x (Array.mem_toList_iff.1 hx)) (Nat.le_refl _) with ⟨a1, a2⟩ | ⟨e, a1, w1, a2, a3⟩
  · refine .inl ⟨fun b hbm => ?_, a2⟩
    rw [← h2] at hbm
    obtain ⟨e, he, rfl⟩ := List.mem_map.1 hbm
    refine Decidable.by_contra (fun hn => ?_)
    have : e ∈ leftOf es seen.toArray := by
      unfold leftOf
      rw [Array.mem_filter]
      exact ⟨Array.mem_toList_iff.1 he, by simpa using hn⟩
    have := Array.size_pos_of_mem this
    omega
  · have hmem : e ∈ es ∧ e.born ∉ seen := by
      have : e ∈ leftOf es seen.toArray := Array.mem_toList_iff.1 a1
      unfold leftOf at this
      rw [Array.mem_filter] at this
      exact ⟨this.1, by simpa using this.2⟩
    obtain ⟨p, hp, hpe⟩ := List.getElem_of_mem (Array.mem_toList_iff.2 hmem.1)
    have hpe : es.toList[p]? = some e := by rw [List.getElem?_eq_getElem hp, hpe]
    obtain ⟨n, v, m1, m2, m3⟩ := hm.at hpe
    have hw1 : w1.heap = w.heap ∧ w1.os = w.os ∧ w1.tape = w.tape ∧ w1.output = w.output := by
      rcases a2 with rfl | rfl <;> exact ⟨rfl, rfl, rfl, rfl⟩
    have hother : ∀ b, b ≠ l.b → (ChangeMaps.setBlock w1 l.b (.mapIter (some lm.b) cl (seen.toArray.push e.born) cl)).heap[b]? = w.heap[b]? := fun b hne => by
      show (w1.heap.setIfInBounds l.b _)[b]? = _
      rw [hw1.1, Array.getElem?_setIfInBounds_ne (fun x => hne x.symm)]
    have hlt := (Array.getElem?_eq_some_iff.1 e4).1
    have hob : ObjRel ρ (ChangeMaps.setBlock w1 l.b (.mapIter (some lm.b) cl (seen.toArray.push e.born) cl)) l (.itr i cl (seen ++ [e.born]) cl) := by
      refine ⟨lm, e2, e3, ?_⟩
      show (w1.heap.setIfInBounds l.b _)[l.b]? = _
      rw [hw1.1]
      simp [hlt]
    rw [m2] at a3
    refine .inr ⟨p, n, v, e.born, e.val, _, m1, by rw [← h2, List.getElem?_map, hpe]; rfl, hmem.2, m3, a3, r.upd hj rfl hl hother hob rfl, Since.upd r hj rfl hl hother rfl hw1.2.1 hw1.2.2.1 hw1.2.2.2 ?_⟩
    show w.heap.size ≤ (w1.heap.setIfInBounds l.b _).size
    rw [hw1.1, Array.size_setIfInBounds]
    exact Nat.le_refl _
theorem run_entry_p {ρ : Rho} {h : H} {w : World} {i j cl : Nat} {seen : List Nat} {b p : Nat} {n : Int × Int} {v : V} {ms : List ((Int × Int) × V)} {bs : List Nat} {l : Loc} (r : Rel ρ h w) (hj : h.obj j = some (.itr i cl (seen ++ [b]) cl)) (hi : h.obj i = some (.mapb (mpP k ms) bs cl)) (hl : ρ j = some l) (hp : bs[p]? = some b) (hm : ms[p]? = some (n, v)) :
    ∃ u, VRel ρ v u ∧ (Instr.entry (.pointer (some ⟨l.b, l.o + 0, none⟩))).run P w = .ok (.tuple #[pkv k n, u]) w := by
  obtain ⟨l', e1, lm, e2, e3, e4⟩ := r.obj j _ hj
  rw [hl] at e1
  injection e1 with e1
  subst e1
  obtain ⟨es, hb, hr, h1, h2, h3⟩ := r.pmapb hi e2
  rw [e3]
  have hpe : ∃ e, es.toList[p]? = some e ∧ e.born = b := by
    rw [← h2, List.getElem?_map] at hp
    cases hx : es.toList[p]? with
    | none => rw [hx] at hp; cases hp
    | some e =>
      rw [hx] at hp
      injection hp with hp
      exact ⟨e, rfl, hp⟩
  obtain ⟨e, hpe, rfl⟩ := hpe
  obtain ⟨n', v', m1, m2, m3⟩ := hr.at hpe
  rw [hm] at m1
  injection m1 with m1
  injection m1 with m1 m1'
  subst m1 m1'
  refine ⟨e.val, m3, ?_⟩
  rw [← m2]
  have e5 : (seen ++ [e.born]).toArray = seen.toArray.push e.born := by simp
  rw [e5] at e4
  exact run_entry_at (P := P) w l.b lm.b cl seen.toArray es cl e e4 hb (List.mem_of_getElem? hpe) (by rw [h2]; exact h3)
end
end Go.Ab
/-! Operations that read memory, and those that make new memory: soundness. -/
namespace Go.Ab
open Go

section
variable {P : Program} {T : TT}
/-- A slice, as it lies in memory. -/
theorem Rel.sl {ρ : Rho} {h : H} {w : World} {p : Option (Nat × Nat)} {n sz : Nat} {own : Bool} {cs : List V} {u : Value} (r : Rel ρ h w) (hs : SlIs h p n own sz cs) (hv : VRel ρ (.sl p n) u) :
    (p = none ∧ n = 0 ∧ cs = [] ∧ u = .slice none 0 0) ∨ (n = 0 ∧ cs = [] ∧ own = false ∧ ∃ i o cap a l, p = some (i, o) ∧ u = .slice (some a) 0 cap ∧ ρ i = some l ∧ cap ≤ maxLen ∧ (0 < cap → a = ⟨l.b, l.o + o, none⟩) ∧ o + cap * l.sz ≤ l.lim) ∨ ∃ i o l cap a o' rest us, p = some (i, o) ∧ u = .slice (some a) n cap ∧ ρ i = some l ∧ l.sz = sz ∧ n ≤ cap ∧ cap ≤ maxLen ∧ (0 < cap → a = ⟨l.b, l.o + o, none⟩) ∧ o + cap * sz ≤ l.lim ∧
      h.obj i = some (.row o' sz rest) ∧ (own = true → o' = true) ∧ o + n * sz ≤ rest.length ∧ (rest.drop o).take (n * sz) = cs ∧ VsRel ρ cs us ∧ us.length = n * sz ∧ (∀ u ∈ us, u.oneCell' = true) ∧ ∀ j u, us[j]? = some u → w.cell? (a.add j) = some u := by
  obtain ⟨hl, hs⟩ := hs
  rcases hs with ⟨rfl, hp⟩ | ⟨i, o, o', rest, rfl, hi, ho, hle, hc⟩
  · have hc0 : cs = [] := List.eq_nil_of_length_eq_zero (by simpa using hl)
    rcases hv.sl_inv with ⟨e1, _, e⟩ | ⟨i, o, cap, a, l, e, e2, e3, e4, e5, e6, e7⟩
    · exact .inl ⟨e1, rfl, hc0, e⟩
    · refine .inr (.inl ⟨rfl, hc0, ?_, i, o, cap, a, l, e, e2, e3, e5, e6, e7⟩)
      rcases hp with hp | hp
      · rw [hp] at e
        cases e
      · exact hp
  · rcases hv.sl_inv with ⟨e, _⟩ | ⟨i', o2, cap, a, l, e, e2, hlc, hn, hm, had, hlim⟩
    · cases e
    · injection e with e
      injection e with e e'
      subst e e'
      have hsz : l.sz = sz := by
        obtain ⟨l', h1, h2, _⟩ := r.obj i _ hi
        rw [hlc] at h1
        injection h1 with h1
        subst h1
        exact h2
      obtain ⟨us, hus, hul, hu1, hcell⟩ := r.cells (i := i) (off := o) (n := n * sz) (vs := cs) ⟨o', sz, rest, hi, hle, hc⟩ hlc
      refine .inr (.inr ⟨i, o, l, cap, a, o', rest, us, rfl, e2, hlc, hsz, hn, hm, had, by rw [← hsz]; exact hlim, hi, ho, hle, hc, hus, hul, hu1, fun j u hj => ?_⟩)
      have hjl := (List.getElem?_eq_some_iff.1 hj).1
      have hn0 : 0 < n := by
        rcases Nat.eq_zero_or_pos n with h0 | h0
        · subst h0
          simp at hul
          subst hul
          simp at hjl
        · exact h0
      rw [had (by omega), add_plain]
      exact hcell j u hj
theorem Rel.firstCells {ρ : Rho} {h : H} {w : World} {p : Option (Nat × Nat)} {n sz : Nat} {own : Bool} {cs : List V} {u : Value} (r : Rel ρ h w) (hs : SlIs h p n own sz cs) (hv : VRel ρ (.sl p n) u) :
    ∃ us : List Value, (Builtin.firstCells sz n u).run P w = .ok us.toArray w ∧ VsRel ρ cs us ∧ us.length = n * sz ∧ (∀ u ∈ us, u.oneCell' = true) := by
  rcases r.sl hs hv with ⟨rfl, rfl, rfl, rfl⟩ | ⟨rfl, rfl, _, i, o, cap, a, l, rfl, rfl, _⟩ | ⟨i, o, l, cap, a, o', rest, us, rfl, rfl, hlc, hsz, hn, hm, had, hlim, hi, ho, hle, hc, hus, hul, hu1, hcell⟩
  · exact ⟨[], by simp [Builtin.firstCells], VsRel.nil _, by simp, by simp⟩
  · exact ⟨[], by simp [Builtin.firstCells, loadCells, loadCellsFrom], VsRel.nil _, by simp, by simp⟩
  · exact ⟨us, run_firstCells_some w sz n a n cap us hul hcell, hus, hul, hu1⟩

theorem Rel.var (hT : TOk P T) {ρ : Rho} {h : H} {w : World} {t i off : Nat} {l : Loc} (r : Rel ρ h w) (hl : ρ i = some l) :
    (∀ v, aggK T t = .one → Cell h i off v → ∃ u, (loadVar t ⟨l.b, l.o + off, none⟩).run P w = .ok u w ∧ VRel ρ v u) ∧ (∀ cs, aggK T t = .agg → Cells h i off (T.at_ t).size cs → ∃ u, (loadVar t ⟨l.b, l.o + off, none⟩).run P w = .ok u w ∧ VRel ρ (.agg cs) u) := by
  constructor
  · intro v hk hc
    obtain ⟨u, h1, h2, h3⟩ := r.cell hc hl
    exact ⟨u, by simp [loadVar, (hT.isAgg w).2 hk, h1], h3⟩
  · intro cs hk hc
    obtain ⟨us, h1, h2, h3, h4⟩ := r.cells hc hl
    have hh : has T t = true := by
      unfold aggK at hk
      unfold has
      split at hk <;> simp_all
    refine ⟨.agg us.toArray, ?_, .agg _ _ h3 h1.1 h1.2⟩
    have := run_loadCells_plain (P := P) h4
    rw [h2] at this
    simp [loadVar, (hT.isAgg w).1 hk, hT.size hh, this]

/-- The operation gives v, in whatever world that this memory stands for. -/
def RSem (P : Program) (o : Oper) (env : Env) (h : H) (v : V) : Prop := ∀ ρ N (a : Act) (w : World), ERel ρ N env a → Rel ρ h w → ∃ u, (execOp a.eval o).run P w = .ok (.value u) w ∧ VRel ρ v u

theorem rO_sound (hT : TOk P T) {o : Oper} {env : Env} {h : H} {K : V → Prop} (hr : rO T o env h K) : ∃ v, K v ∧ RSem P o env h v := by
  obtain ⟨dst, op, type, pos, after, guard⟩ := o
  cases op with
  | load t x =>
    simp only [rO] at hr
    split at hr
    · rename_i i off hx hk
      obtain ⟨v, hc, hK⟩ := hr
      refine ⟨v, fv_iff.1 hK, fun ρ N a w ha r => ?_⟩
      have rx := opv_rel ha x
      rw [hx] at rx
      obtain ⟨l, hl, e⟩ := rx.ptr_inv
      obtain ⟨u, h1, h2⟩ := (r.var hT hl (t := t)).1 v hk hc
      exact ⟨u, by simp [execOp, e, Instr.loadAt, Instr.sureAddr, h1], h2⟩
    · rename_i i off hx hk
      obtain ⟨cs, hc, hK⟩ := hr
      refine ⟨_, hK, fun ρ N a w ha r => ?_⟩
      have rx := opv_rel ha x
      rw [hx] at rx
      obtain ⟨l, hl, e⟩ := rx.ptr_inv
      obtain ⟨u, h1, h2⟩ := (r.var hT hl (t := t)).2 cs hk hc
      exact ⟨u, by simp [execOp, e, Instr.loadAt, Instr.sureAddr, h1], h2⟩
    · exact hr.elim
  | slice t x lo hi mx =>
    simp only [rO] at hr
    split at hr
    · rename_i e p n ht hx
      rw [chk_iff] at hr
      obtain ⟨hh, ⟨cs, hs⟩, hr⟩ := hr
      obtain ⟨l, hr, hl1, hl2⟩ := boundO_sound hr
      obtain ⟨m, ⟨h1, h2, hr⟩, hm1, hm2⟩ := boundO_sound hr
      refine ⟨_, hr, fun ρ N a w ha r => ?_⟩
      have rx := opv_rel ha x
      rw [hx] at rx
      rcases r.sl hs rx with ⟨rfl, rfl, rfl, e2⟩ | ⟨rfl, rfl, _, i', o', cap, ad, lc, rfl, e2, hlc, hmx, had, hlim⟩ | ⟨i', o', lc, cap, ad, ow, rest, us, rfl, e2, hlc, hsz, hn, hmx, had, hlim, _⟩
      · have hb := run_sliceBounds (P := P) (w := w) ha (b := true) (lo := lo) (hi := hi) ⟨hl1, hl2⟩ ⟨hm1, hm2⟩ h1 h2 (Nat.le_refl 0)
        have hm0 : m = 0 := by omega
        have hl0 : l = 0 := by omega
        subst hm0 hl0
        exact ⟨.slice none 0 0, by simp [execOp, e2, Instr.sliceAt, Instr.slice, run_underlying (hT.of_sl ht), hb, hT.size hh], by simpa [slp] using .nils⟩
      · have hb := run_sliceBounds (P := P) (w := w) ha (b := true) (lo := lo) (hi := hi) ⟨hl1, hl2⟩ ⟨hm1, hm2⟩ h1 h2 (Nat.zero_le cap)
        have hm0 : m = 0 := by omega
        have hl0 : l = 0 := by omega
        subst hm0 hl0
        refine ⟨.slice (some (if cap = 0 then ad else ad.add (0 * (T.at_ e).size))) 0 cap, ?_, ?_⟩
        · simp only [execOp, e2, Instr.sliceAt, Instr.slice, Sem.run_bind, run_underlying (hT.of_sl ht), Result.andThen_ok, hb, hT.size hh, Sem.run_pure, Option.map_none, Option.map_some]
          split <;> rfl
        · refine .sl _ _ _ _ _ lc hlc (Nat.zero_le _) hmx (fun hc => ?_) ?_
          · rw [if_neg (by omega), had (by omega), add_plain]
            simp
          · simpa using hlim
      · have hb := run_sliceBounds (P := P) (w := w) ha (b := true) (lo := lo) (hi := hi) ⟨hl1, hl2⟩ ⟨hm1, hm2⟩ h1 h2 hn
        refine ⟨.slice (some (if cap = l then ad else ad.add (l * (T.at_ e).size))) (m - l) (cap - l), ?_, ?_⟩
        · simp only [execOp, e2, Instr.sliceAt, Instr.slice, Sem.run_bind, run_underlying (hT.of_sl ht), Result.andThen_ok, hb, hT.size hh, Sem.run_pure, Option.map_none, Option.map_some]
          split <;> rfl
        · refine .sl _ _ _ _ _ lc hlc (by omega) (by omega) (fun hc => ?_) ?_
          · rw [if_neg (by omega), had (by omega), add_plain]
            simp [Nat.add_assoc]
          · rw [hsz, Nat.add_assoc, ← Nat.add_mul]
            have : l + (cap - l) = cap := by omega
            rw [this]
            exact hlim
    · exact hr.elim
  | convert src dst x =>
    simp only [rO] at hr
    split at hr
    · rename_i e p n hs hd hx
      split at hr
      · rename_i he
        obtain ⟨xs, hsl, hrange, hr⟩ := hr
        refine ⟨_, hr, fun ρ N a w ha r => ?_⟩
        have rx := opv_rel ha x
        rw [hx] at rx
        have hstr : VRel ρ (.str xs) (.string (strOfNums xs)) := by
          have : xs = (strOfNums xs).data.toList.map fun b => (b.toNat : Int) := by
            rw [strOfNums_data, List.map_map]
            conv => lhs; rw [← List.map_id xs]
            refine List.map_congr_left fun x hx => ?_
            have := hrange x hx
            simp only [Function.comp, id, UInt8.toNat_ofNat']
            omega
          conv => arg 2; rw [this]
          exact .str _
        refine ⟨_, ?_, hstr⟩
        rcases r.sl hsl rx with ⟨rfl, rfl, e1, e2⟩ | ⟨rfl, e1, _, i', o', cap, ad, lc, rfl, e2, _⟩ | ⟨i', o', lc, cap, ad, ow, rest, us, rfl, e2, hlc, hsz, hn, hmx, had, hlim, _, _, _, _, hus, hul, _, hcell⟩
        · have hx0 : xs = [] := by simpa [ints] using e1
          subst hx0
          have := run_convert_bytes_nil (P := P) w src e (hT.of_sl hs) (hT.of_int he) 0 0 dst (hT.of_str hd)
          simp only [execOp, e2, Sem.run_bind, this, Result.andThen_ok]
          rfl
        · have hx0 : xs = [] := by simpa [ints] using e1
          subst hx0
          have hrun : (convert src dst (.slice (some ad) 0 cap)).run P w = .ok (.string (strOfNums [])) w := by
            obtain ⟨b, o, sp⟩ := ad
            simp only [convert, Sem.run_bind, run_underlying (hT.of_sl hs), run_underlying (hT.of_str hd), Result.andThen_ok, run_underlying (hT.of_int he)]
            simp [Conv.bytesToString, loadCells, loadCellsFrom, strOfNums]
            rfl
          simp only [execOp, e2, Sem.run_bind, hrun, Result.andThen_ok]
          rfl
        · have hxl : xs.length = n := by
            have := hus.1
            simp [ints] at this
            omega
          have hval : ∀ j, j < n → us[j]? = some (.int .u8 (xs.getD j 0)) := by
            intro j hj
            have hc : (ints .u8 xs)[j]? = some (.int .u8 (xs.getD j 0)) := by
              simp [ints, List.getElem?_eq_getElem (show j < xs.length by omega), List.getD_eq_getElem?_getD]
            obtain ⟨u, h1, h2⟩ := hus.get hc
            rw [h1, h2.int_inv]
          have hrun : (convert src dst (.slice (some ad) n cap)).run P w = .ok (.string (strOfNums xs)) w := by
            rcases Nat.eq_zero_or_pos n with h0 | h0
            · subst h0
              have : xs = [] := List.eq_nil_of_length_eq_zero hxl
              subst this
              obtain ⟨b, o, sp⟩ := ad
              simp only [convert, Sem.run_bind, run_underlying (hT.of_sl hs), run_underlying (hT.of_str hd), Result.andThen_ok, run_underlying (hT.of_int he)]
              simp [Conv.bytesToString, loadCells, loadCellsFrom, strOfNums]
              rfl
            · have := had (by omega)
              subst this
              refine run_convert_bytes_arg w src e (hT.of_sl hs) (hT.of_int he) lc.b (lc.o + o') n cap xs hxl (fun j hj => ?_) dst (hT.of_str hd)
              have := hcell j _ (hval j hj)
              rwa [add_plain] at this
          simp only [execOp, e2, Sem.run_bind, hrun, Result.andThen_ok]
          rfl
      · exact hr.elim
    · exact hr.elim
  | lookup t x ix ok =>
    simp only [rO] at hr
    split at hr
    · rename_i kt et k n ht hx hix
      split at hr
      · rename_i k' hk
        rw [chk_iff, chk_iff] at hr
        obtain ⟨hkk, hh, hr⟩ := hr
        have := kEq_eq hkk
        subst this
        obtain ⟨i, z, g1, g2, g3, g4, g5, g6, g7⟩ := (hT et hh).info
        refine ⟨_, hr, fun ρ N a w ha r => ?_⟩
        have rx := opv_rel ha x
        rw [hx] at rx
        have ri := opv_rel ha ix
        rw [hix] at ri
        have ex : a.eval x = .map none := by
          rcases rx.mp_inv with ⟨_, e⟩ | ⟨_, _, e, _⟩
          · exact e
          · cases e
        have hrun := run_lookup_nil (P := P) (w := w) (hT.of_mp ht) (hT.of_int hk) n (uz := z) (by simp [zeroValue, typeInfo, g1, g4]) ok
        refine ⟨_, by simp [execOp, ex, ri.int_inv, hrun]; rfl, ?_⟩
        cases ok with
        | true => exact .tup _ [z, .bool false] rfl (VsRel.cons (g5 ρ) (VsRel.cons (.bool _) (VsRel.nil ρ))).2
        | false => exact g5 ρ
      · exact hr.elim
    · rename_i kt et i k n ht hx hix
      split at hr
      · rename_i k' hk
        rw [chk_iff, chk_iff] at hr
        obtain ⟨hkk, hh, own, ms, hi, hr⟩ := hr
        have := kEq_eq hkk
        subst this
        obtain ⟨i', z, g1, g2, g3, g4, g5, g6, g7⟩ := (hT et hh).info
        refine ⟨_, hr, fun ρ N a w ha r => ?_⟩
        have rx := opv_rel ha x
        rw [hx] at rx
        have ri := opv_rel ha ix
        rw [hix] at ri
        have ex : ∃ l, a.eval x = .map (some l.b) ∧ ρ i = some l := by
          rcases rx.mp_inv with ⟨e, _⟩ | ⟨i2, l, e, e2, e3⟩
          · cases e
          · injection e with e
            subst e
            exact ⟨l, e2, e3⟩
        obtain ⟨l, ex, hl⟩ := ex
        obtain ⟨u, hrun, hu⟩ := run_lookup (P := P) (hT.of_mp ht) (hT.of_int hk) r hi hl n (g5 ρ) (uz := z) (by simp [zeroValue, typeInfo, g1, g4]) ok
        refine ⟨_, by simp [execOp, ex, ri.int_inv, hrun]; rfl, ?_⟩
        cases ok with
        | true => exact .tup _ [u, .bool _] rfl (VsRel.cons hu (VsRel.cons (.bool _) (VsRel.nil ρ))).2
        | false => exact hu
      · exact hr.elim
    · rename_i kt et i cs ht hx hix
      split at hr
      · rename_i k' k a' b' hk hcs
        · obtain rfl := pairL_eq hcs
          simp only [chk_iff] at hr
          obtain ⟨q1, hh, own, ms, hi, hn, hw, wn, hr⟩ := hr
          obtain rfl := kEq_eq q1
          obtain ⟨i', z, g1, g2, g3, g4, g5, g6, g7⟩ := (hT et hh).info
          have A := hT.pairK ht hk
          refine ⟨_, hr, fun ρ N a w ha r => ?_⟩
          have rx := opv_rel ha x
          rw [hx] at rx
          have ri := opv_rel ha ix
          rw [hix] at ri
          have ri := pk_inv (n := (_, _)) ri
          have ex : ∃ l, a.eval x = .map (some l.b) ∧ ρ i = some l := by
            rcases rx.mp_inv with ⟨e, _⟩ | ⟨i2, l, e, e2, e3⟩
            · cases e
            · injection e with e
              subst e
              exact ⟨l, e2, e3⟩
          obtain ⟨l, ex, hl⟩ := ex
          obtain ⟨u, hrun, hu⟩ := run_lookup_p (P := P) (hT.of_mp ht) A r hi hl hn hw wn (g5 ρ) (uz := z) (by simp [zeroValue, typeInfo, g1, g4]) ok
          refine ⟨_, by simp [execOp, ex, ri, hrun]; rfl, ?_⟩
          cases ok with
          | true => exact .tup _ [u, .bool _] rfl (VsRel.cons hu (VsRel.cons (.bool _) (VsRel.nil ρ))).2
          | false => exact hu
      · exact hr.elim
    · exact hr.elim
  | call c =>
    obtain ⟨callee, ⟨args⟩, ⟨argTypes⟩⟩ := c
    simp only [rO] at hr
    split at hr
    · rename_i x t
      split at hr
      · rename_i kt et ht hx
        refine ⟨_, hr, fun ρ N a w ha r => ?_⟩
        have rx := opv_rel ha x
        rw [hx] at rx
        have ex : a.eval x = .map none := by
          rcases rx.mp_inv with ⟨_, e⟩ | ⟨_, _, e, _⟩
          · exact e
          · cases e
        exact ⟨_, by simp [execOp, resolve, invoke, builtin, Builtin.len_, run_underlying (hT.of_mp ht), ex]; rfl, .int _ _⟩
      · rename_i kt et i ht hx
        obtain ⟨own, es, hi, hr⟩ := hr
        refine ⟨_, hr, fun ρ N a w ha r => ?_⟩
        have rx := opv_rel ha x
        rw [hx] at rx
        rcases rx.mp_inv with ⟨e, _⟩ | ⟨i2, l, e, e2, e3⟩
        · cases e
        injection e with e
        subst e
        obtain ⟨l', e1, ms, clock, q1, q2, _⟩ := r.obj i _ hi
        rw [e3] at e1
        injection e1 with e1
        subst e1
        refine ⟨_, by simp [execOp, resolve, invoke, builtin, Builtin.len_, run_underlying (hT.of_mp ht), e2, MapKept.run_getObj_map q1]; rfl, ?_⟩
        rw [q2]
        exact .int _ _
      · exact hr.elim
    · exact hr.elim
  | _ => exact hr.elim
end
end Go.Ab
/-! Operations that make or turn memory: soundness. -/
namespace Go.Ab
open Go

/-- What an operation that makes or turns memory leaves. -/
def COut (ρ : Rho) (h : H) (w : World) (o : Oper) (a : Act) (K : V → H → Prop) (a' : Act) (w' : World) : Prop := ∃ v h' ρ' u, a' = a.put o.dst u ∧ K v h' ∧ VRel ρ' v u ∧ Rel ρ' h' w' ∧ Dom ρ' h'.next ∧ Since ρ h w ρ' h' w'
theorem COut.mono {ρ : Rho} {h : H} {w : World} {o : Oper} {a : Act} {K K' : V → H → Prop} {a' : Act} {w' : World} (hk : ∀ v h', K v h' → K' v h') (hc : COut ρ h w o a K a' w') : COut ρ h w o a K' a' w' := by
  obtain ⟨v, h', ρ', u, e, k, r⟩ := hc
  exact ⟨v, h', ρ', u, e, hk _ _ k, r⟩

section
variable {P : Program} {T : TT}
theorem wp_value {o : Oper} {a : Act} {w w' : World} {u : Value} {next : Act → World → Prop} {Q : Exit → Act → World → Prop} (h : (execOp a.eval o).run P w = .ok (.value u) w') (hn : next (a.put o.dst u) w') : o.wp P a w next Q := by
  unfold Oper.wp
  rw [h]
  exact hn
theorem wp_skip_ {o : Oper} {a : Act} {w w' : World} {next : Act → World → Prop} {Q : Exit → Act → World → Prop} (h : (execOp a.eval o).run P w = .ok .skip w') (hn : next (a.put o.dst Go.undef) w') : o.wp P a w next Q := by
  unfold Oper.wp
  rw [h]
  exact hn
/-- a row that is pushed -/
theorem new_row {ρ : Rho} {h : H} {w : World} (r : Rel ρ h w) (hd : Dom ρ h.next) {cells : List Value} {cs : List V} (hv : VsRel ρ cs cells) (h1 : ∀ u ∈ cells, u.oneCell' = true) (rest : List Value) (e sz : Nat) :
    Rel (ρ.add h.next ⟨w.heap.size, 0, cells.length + rest.length, sz⟩) (h.push (.row true sz cs)) { w with heap := w.heap.push (.cells (cells ++ rest).toArray e) } ∧ Dom (ρ.add h.next ⟨w.heap.size, 0, cells.length + rest.length, sz⟩) (h.push (.row true sz cs)).next ∧
      Since ρ h w (ρ.add h.next ⟨w.heap.size, 0, cells.length + rest.length, sz⟩) (h.push (.row true sz cs)) { w with heap := w.heap.push (.cells (cells ++ rest).toArray e) } := by
  have hold : ∀ b, b < w.heap.size → (w.heap.push (.cells (cells ++ rest).toArray e))[b]? = w.heap[b]? := fun b hb => by
    rw [Array.getElem?_push, if_neg (by omega)]
  refine ⟨Rel.push r hd (Nat.le_refl _) hold (objRel_new (hv.mono (Rho.add_ext hd _)) h1 rest rfl), hd.add _, Since.push r hd (Nat.le_refl _) rfl rfl rfl (by simp) hold⟩
theorem VRel.sl_new {ρ : Rho} {n : Nat} {l : Loc} {len cap : Nat} (hn : len ≤ cap) (hm : cap ≤ maxLen) (ho : l.o = 0) (hl : cap * l.sz ≤ l.lim) : VRel (ρ.add n l) (.sl (some (n, 0)) len) (.slice (some ⟨l.b, 0, none⟩) len cap) :=
  .sl n 0 len cap _ l (Rho.add_self _ _ _) hn hm (fun _ => by rw [ho]) (by omega)
theorem VRel.ptr_new {ρ : Rho} {n : Nat} {l : Loc} (ho : l.o = 0) : VRel (ρ.add n l) (.ptr (some (n, 0))) (.pointer (some ⟨l.b, 0, none⟩)) := by
  have := VRel.ptr (ρ := ρ.add n l) n 0 l (Rho.add_self _ _ _)
  rw [ho] at this
  exact this
theorem zeros_rel {ρ : Rho} {vz : List V} {z : Array Value} (hz : VsRel ρ vz z.toList) (h1 : ∀ u ∈ z.toList, u.oneCell' = true) (n : Nat) : VsRel ρ (zerosV n vz) ((Array.range (n * z.size)).map (z[· % z.size]!)).toList ∧ ∀ u ∈ ((Array.range (n * z.size)).map (z[· % z.size]!)).toList, u.oneCell' = true := by
  have hl : vz.length = z.size := by rw [hz.1, Array.length_toList]
  have at_ : ∀ j, j < n * z.size → ∃ hj : j % z.size < z.size, z[j % z.size]! = z[j % z.size] := by
    intro j hj
    have : 0 < z.size := by
      rcases Nat.eq_zero_or_pos z.size with h0 | h0
      · rw [h0] at hj
        omega
      · exact h0
    exact ⟨Nat.mod_lt _ this, getElem!_pos z _ (Nat.mod_lt _ this)⟩
  constructor
  · refine VsRel.of_get (by simp [zerosV, hl]) fun j c hc => ?_
    have hj : j < n * z.size := by
      have := (List.getElem?_eq_some_iff.1 hc).1
      simpa [zerosV, hl] using this
    simp only [zerosV, hl, List.getElem?_map] at hc
    obtain ⟨hj', e⟩ := at_ j hj
    simp [List.getElem?_range hj] at hc
    subst hc
    obtain ⟨u, h2, h3⟩ := hz.get (j := j % z.size) (List.getElem?_eq_getElem (by omega))
    refine ⟨u, ?_, ?_⟩
    · simp only [Array.toList_map, List.getElem?_map, Array.toList_range, List.getElem?_range hj, Option.map_some, e]
      rw [Array.getElem?_toList, Array.getElem?_eq_getElem hj'] at h2
      exact h2
    · rw [List.getElem?_eq_getElem (show j % z.size < vz.length by omega)]
      exact h3
  · intro u hu
    simp only [Array.toList_map, List.mem_map, Array.toList_range, List.mem_range] at hu
    obtain ⟨j, hj, rfl⟩ := hu
    obtain ⟨hj', e⟩ := at_ j hj
    rw [e]
    exact h1 _ (by simp)

theorem aO_sound (hT : TOk P T) {o : Oper} {env : Env} {h : H} {K : V → H → Prop} (hr : aO T o env h K) :
    ∃ v ob, K v (h.push ob) ∧ ob.own = true ∧ ∀ ρ N (a : Act) (w : World), ERel ρ N env a → Rel ρ h w → Dom ρ h.next → ∃ u w' l, (execOp a.eval o).run P w = .ok (.value u) w' ∧ w'.drawn = w.drawn ∧ VRel (ρ.add h.next l) v u ∧ Rel (ρ.add h.next l) (h.push ob) w' ∧ Dom (ρ.add h.next l) (h.push ob).next ∧ Since ρ h w (ρ.add h.next l) (h.push ob) w' := by
  obtain ⟨dst, op, type, pos, after, guard⟩ := o
  cases op with
  | alloc e =>
    simp only [aO, chk_iff] at hr
    obtain ⟨hh, hr⟩ := hr
    obtain ⟨i, z, g1, g2, g3, g4, g5, g6, g7⟩ := (hT e hh).info
    refine ⟨_, _, hr, rfl, fun ρ N a w ha r hd => ?_⟩
    obtain ⟨hv, h1⟩ := (g5 ρ).cells g6
    obtain ⟨n1, n2, n3⟩ := new_row r hd hv h1 [] e (T.at_ e).size
    refine ⟨.pointer (some ⟨w.heap.size, 0, none⟩), _, _, ?_, ?_, VRel.ptr_new rfl, n1, n2, n3⟩
    case refine_2 => rfl
    simp [execOp, Instr.alloc, zeroValue, typeInfo, g1, g4, newVar, newRow]
  | box e x =>
    simp only [aO, chk_iff, fv_iff] at hr
    obtain ⟨hh, hiv, hlen, hr⟩ := hr
    refine ⟨_, _, hr, rfl, fun ρ N a w ha r hd => ?_⟩
    obtain ⟨hv, h1⟩ := (opv_rel ha x).cells hiv
    obtain ⟨n1, n2, n3⟩ := new_row r hd hv h1 [] e (T.at_ e).size
    refine ⟨.pointer (some ⟨w.heap.size, 0, none⟩), _, _, ?_, ?_, VRel.ptr_new rfl, n1, n2, n3⟩
    case refine_2 => rfl
    simp [execOp, Instr.box, newVar, newRow]
  | buildSlice t len parts =>
    simp only [aO] at hr
    split at hr
    · rename_i e ht
      rw [chk_iff, chk_iff, chk_iff] at hr
      obtain ⟨hh, hlen, hle, hr⟩ := hr
      have hle' := Nat.le_of_ble_eq_true hle
      have hlen' := Nat.le_of_ble_eq_true hlen
      obtain ⟨i, z, g1, g2, g3, g4, g5, g6, g7⟩ := (hT e hh).info
      obtain ⟨ds, hK, hf⟩ := fill_sound (place := fun i => some (i * (T.at_ e).size, (T.at_ e).size)) _ _ _ (fun i off size hp _ => by
        simp only [places, ht] at hp
        split at hp
        · exact hp
        · cases hp) hr
      refine ⟨_, _, hK, rfl, fun ρ N a w ha r hd => ?_⟩
      obtain ⟨hv, h1⟩ := (g5 ρ).cells g6
      have hzs : z.cells.size = (T.at_ e).size := by
        rw [← Array.length_toList, ← hv.1, g7]
      obtain ⟨z1, z2⟩ := zeros_rel hv h1 len
      rw [hzs] at z1 z2
      obtain ⟨us, e1, e2, e3, e4⟩ := hf ρ N a _ ha z1 z2
      have hul : us.length = len * (T.at_ e).size := by
        rw [e4]
        simp
      obtain ⟨n1, n2, n3⟩ := new_row r hd e2 e3 [] e (T.at_ e).size
      refine ⟨.slice (some ⟨w.heap.size, 0, none⟩) len len, _, _, ?_, ?_, VRel.sl_new (Nat.le_refl _) ?_ rfl ?_, n1, n2, n3⟩
      case refine_2 => rfl
      · have hne : ¬ (16777216 < len * (T.at_ e).size) := by omega
        have e1' : Instr.fill (fun i => some (i * (T.at_ e).size, (T.at_ e).size)) ((Array.range (len * (T.at_ e).size)).map (z.cells[· % (T.at_ e).size]!)) (parts.map fun p => (p.1, a.eval p.2)).toList = some us.toArray := by
          rw [Array.toArray_toList] at e1
          rw [Array.toList_map]
          exact e1
        have key : ∀ zz : Array Value, (len * (T.at_ e).size = 0 ∨ zz = z.cells) → Instr.fill (fun i => some (i * (T.at_ e).size, (T.at_ e).size)) ((Array.range (len * (T.at_ e).size)).map (zz[· % zz.size]!)) (parts.map fun p => (p.1, a.eval p.2)).toList = some us.toArray := by
          intro zz hz
          rcases hz with hz | rfl
          · have hemp : ∀ f : Nat → Value, (Array.range 0).map f = #[] := fun f => by simp
            rw [← e1', hz, hemp, hemp]
          · rw [hzs]
            exact e1'
        simp only [execOp, Instr.buildSlice, Sem.run_bind, run_underlying (hT.of_sl ht), Result.andThen_ok, hT.size hh]
        rw [if_neg (by omega)]
        simp only [Sem.run_bind, Sem.run_pure, Result.andThen_ok]
        by_cases h0 : len * (T.at_ e).size = 0
        · simp only [h0, if_true, Sem.run_bind, Sem.run_pure, Result.andThen_ok]
          have := key #[] (.inl h0)
          rw [h0] at this
          rw [this]
          simp [newRow]
        · simp only [h0, if_false, zeroValue, typeInfo, Sem.run_bind, run_program, Result.andThen_ok, g1, g4, Sem.run_pure]
          have := key z.cells (.inr rfl)
          rw [this]
          simp [newRow]
      · have : maxLen = 9223372036854775807 := rfl
        omega
      · simp [hul]
    · exact hr.elim
  | makeSlice t n c =>
    simp only [aO] at hr
    split at hr
    · rename_i e k n' k' c' ht hn hc
      rw [chk_iff] at hr
      obtain ⟨hh, m, rfl, rfl, hm, hb, hr⟩ := hr
      obtain ⟨i, z, g1, g2, g3, g4, g5, g6, g7⟩ := (hT e hh).info
      refine ⟨_, _, hr, rfl, fun ρ N a w ha r hd => ?_⟩
      obtain ⟨hv, h1⟩ := (g5 ρ).cells g6
      have hzs : z.cells.size = (T.at_ e).size := by
        rw [← Array.length_toList, ← hv.1, g7]
      obtain ⟨z1, z2⟩ := zeros_rel hv h1 m
      have rn := opv_rel ha n
      have rc := opv_rel ha c
      rw [hn] at rn
      rw [hc] at rc
      obtain ⟨n1, n2, n3⟩ := new_row r hd z1 z2 [] e (T.at_ e).size
      refine ⟨.slice (some ⟨w.heap.size, 0, none⟩) m m, _, _, ?_, ?_, VRel.sl_new (Nat.le_refl _) ?_ rfl ?_, n1, n2, n3⟩
      case refine_2 => rfl
      · have hwrap : IntKind.i64.wrap (m : Int) = (m : Int) := by
          simp [IntKind.wrap, IntKind.bits, IntKind.signed]
          omega
        have hbi : ¬ (281474976710656 < (i.bytes : Int) * (m : Int)) := by
          rw [g3]
          have : ((T.at_ e).bytes : Int) * (m : Int) = ((m * (T.at_ e).bytes : Nat) : Int) := by
            rw [Nat.mul_comm]
            exact (Int.natCast_mul _ _).symm
          rw [this]
          omega
        have hm0 : ¬ ((m : Int) < 0) := by omega
        have hrw : (Array.range (m * (T.at_ e).size)).map (z.cells[· % z.cells.size]!) = ((Array.range (m * z.cells.size)).map (z.cells[· % z.cells.size]!)) := by rw [hzs]
        simp only [execOp, Instr.makeSlice, Sem.run_bind, run_underlying (hT.of_sl ht), Result.andThen_ok, rn.int_inv, rc.int_inv, asInt, asIntOf, Sem.run_pure, typeInfo, run_program, g1, hwrap]
        have hcond : ((decide ((m : Int) < 0) || decide ((i.bytes : Int) * (m : Int) > 2 ^ 48)) || decide ((m : Int) < 0) || decide ((m : Int) > (m : Int))) = false := by
          simp
          omega
        rw [hcond]
        simp only [Bool.false_eq_true, if_false, Sem.run_bind, run_askRoom, Result.andThen_ok, hT.size hh, Int.toNat_natCast]
        by_cases h0 : m * (T.at_ e).size = 0
        · simp [h0, newRow, hzs]
          congr 2
          apply Array.ext'
          simp
        · simp only [h0, if_false, zeroValue, typeInfo, Sem.run_bind, run_program, Result.andThen_ok, g1, g4, Sem.run_pure]
          rw [hrw]
          simp [newRow]
          congr 2
          apply Array.ext'
          simp
      · have : maxLen = 9223372036854775807 := rfl
        omega
      · simp [hzs]
    · exact hr.elim
  | makeMap t rs =>
    cases rs with
    | some _ => exact hr.elim
    | none =>
      simp only [aO] at hr
      split at hr
      · rename_i k e ht
        refine ⟨_, _, hr, rfl, fun ρ N a w ha r hd => ?_⟩
        have hold : ∀ b, b < w.heap.size → (w.heap.push (.map #[] 0))[b]? = w.heap[b]? := fun b hb => by
          rw [Array.getElem?_push, if_neg (by omega)]
        refine ⟨.map (some w.heap.size), { w with heap := w.heap.push (.map #[] 0) }, ⟨w.heap.size, 0, 0, 0⟩, ?_, rfl, .mp _ _ (Rho.add_self _ _ _), Rel.push r hd (Nat.le_refl _) hold ?_, hd.add _, Since.push r hd (Nat.le_refl _) rfl rfl rfl (by simp) hold⟩
        · simp [execOp, Instr.makeMap]
        · exact ⟨#[], 0, by simp, rfl, by simp, by simp, fun j kv m h1 h2 => by simp at h2⟩
      · exact hr.elim
  | _ => exact hr.elim
end
end Go.Ab
/-! Stores, appends, calls: soundness. -/
namespace Go.Ab
open Go

theorem Mod.refl (S : Nat → Prop) (h : H) : Mod S h h := ⟨Nat.le_refl _, fun _ _ _ => rfl⟩

section
variable {P : Program} {T : TT}
theorem run_grow {t t' ty e n m cap : Nat} {i : TypeInfo} {z : Value} (ht : P.underlying t = some (.slice e)) (ht' : P.underlying t' = some (.slice e)) (hi : P.info? e = some i) (hz : i.zero = some z) {A : Option Addr} {ux : Value} {w : World} {os ns : List Value}
    (hl : (Builtin.lenOf ux).run P w = .ok m w) (ho : (Builtin.firstCells i.size n (.slice A n cap)).run P w.drew = .ok os.toArray w.drew) (hn : (Builtin.firstCells i.size m ux).run P w.drew = .ok ns.toArray w.drew)
    (hlt : cap < n + m) (h63 : n + m ≤ 9223372036854775807) (hfit : Builtin.nextslicecap (n + m) cap * i.bytes ≤ 281474976710656) :
    (Builtin.append_ #[t, t'] ty #[.slice A n cap, ux]).run P w = .ok (.slice (some ⟨w.heap.size, 0, none⟩) (n + m) (grownCap w (n + m) cap e))
      { w.drew with heap := w.drew.heap.push (.cells (os ++ ns ++ (Builtin.zeroCells z.cells (grownCap w (n + m) cap e - (n + m))).toList).toArray e) } := by
  have hn' : ¬ (n + m ≤ cap) := by omega
  have h63' : ¬ (9223372036854775807 < ((n : Int) + (m : Int))) := by omega
  have h48' : ¬ (281474976710656 < Builtin.nextslicecap (n + m) cap * i.bytes) := by omega
  simp [Builtin.append_, run_underlying ht, run_underlying ht', sizeOf, typeInfo, zeroValue, hi, hz, hl, hn', h63', h48', Question.forced, ho, hn, newRow, grownCap]
  congr 2
  apply Array.ext'
  simp [List.append_assoc]
theorem run_room {t t' ty e n m cap : Nat} {i : TypeInfo} (ht : P.underlying t = some (.slice e)) (ht' : P.underlying t' = some (.slice e)) (hi : P.info? e = some i) {a : Addr} {ux : Value} {w w' : World} {ns : List Value}
    (hl : (Builtin.lenOf ux).run P w = .ok m w) (hn : (Builtin.firstCells i.size m ux).run P w = .ok ns.toArray w) (hle : n + m ≤ cap) (hs : (storeCells (a.add (n * i.size)) ns).run P w = .ok () w') :
    (Builtin.append_ #[t, t'] ty #[.slice (some a) n cap, ux]).run P w = .ok (.slice (some a) (n + m) cap) w' := by
  simp [Builtin.append_, run_underlying ht, run_underlying ht', sizeOf, typeInfo, hi, hl, hle, hn, hs]
theorem run_none {t t' ty e : Nat} {i : TypeInfo} (ht : P.underlying t = some (.slice e)) (ht' : P.underlying t' = some (.slice e)) (hi : P.info? e = some i) {ux : Value} {w : World} 
    (hl : (Builtin.lenOf ux).run P w = .ok 0 w) (hn : (Builtin.firstCells i.size 0 ux).run P w = .ok #[] w) :
    (Builtin.append_ #[t, t'] ty #[.slice none 0 0, ux]).run P w = .ok (.slice none 0 0) w := by
  simp [Builtin.append_, run_underlying ht, run_underlying ht', sizeOf, typeInfo, hi, hl, hn]

/-- cells stored one behind the other where none is frozen -/
theorem storeCells_fr (g o : Nat) (t : TypeId) (fr : Nat × Nat) : ∀ (vs : List Value) (i : Nat) (cur : Array Value) (w : World), w.heap[g]? = some (.cells cur t fr) → frOk fr cur.size → o + i + vs.length ≤ cur.size → (∀ v ∈ vs, v.oneCell' = true) →
    (storeCells ⟨g, o, none⟩ vs i).run P w = .ok () (w.setRow g (cur.toList.take (o + i) ++ vs ++ cur.toList.drop (o + i + vs.length)).toArray)
  | [], i, cur, w, hg, _, _, _ => by
    rw [List.append_nil, List.length_nil, Nat.add_zero, List.take_append_drop, Array.toArray_toList, setRow_self w g cur t fr hg]
    rfl
  | v :: rest, i, cur, w, hg, hf, hl, h1 => by
    rw [List.length_cons] at hl
    have hi : o + i < cur.size := by omega
    have e1 : (⟨g, o, none⟩ : Addr).add i = ⟨g, o + i, none⟩ := add_plain g o i
    have e2 : w.cell? ⟨g, o + i, none⟩ = some cur[o + i] := by simp [World.cell?, hg, hi]
    have e3 : w.frozen? ⟨g, o + i, none⟩ = false := by
      obtain ⟨a, b⟩ := fr
      simp only [World.frozen?, hg, Bool.and_eq_false_iff, decide_eq_false_iff_not]
      have := hf.no hi
      omega
    have e4 : (store ((⟨g, o, none⟩ : Addr).add i) v).run P w = .ok () (w.setRow g (cur.setIfInBounds (o + i) v)) := by
      rw [e1, run_store P w _ v _ (h1 v (by simp)), e2]
      simp [e3, setCell_eq_setRow w g (o + i) cur t fr v hg]
    have ih := storeCells_fr g o t fr rest (i + 1) (cur.setIfInBounds (o + i) v) (w.setRow g (cur.setIfInBounds (o + i) v)) (setRow_heap w g cur _ t _ hg) (by simpa using hf) (by simp; omega) (fun x hx => h1 x (by simp [hx]))
    rw [storeCells, Sem.run_bind, e4, Result.andThen_ok, ih, setRow_setRow]
    congr 3
    have hs := list_seg_step cur.toList (o + i) v rest (by simpa using hl)
    rw [Array.toList_setIfInBounds, List.length_cons, ← Nat.add_assoc o i 1]
    exact hs
theorem frOk_eq {fr : Nat × Nat} {n m : Nat} (h : frOk fr n) (e : m = n) : frOk fr m := e ▸ h
/-- What an append leaves. -/
def AppOut (ρ : Rho) (h : H) (w : World) (p : Option (Nat × Nat)) (k sz : Nat) (zs : List V) (u : Value) (w' : World) : Prop :=
  ∃ p' h' ρ', SlIs h' p' k true sz zs ∧ Mod (inSl p) h h' ∧ isFresh h p p' ∧ VRel ρ' (.sl p' k) u ∧ Rel ρ' h' w' ∧ Dom ρ' h'.next ∧ Since ρ h w ρ' h' w'
theorem kill_mod {h : H} {p : Option (Nat × Nat)} {ob : Obj} (hp : ∀ i o, p = some (i, o) → ∃ ob', h.obj i = some ob' ∧ ob'.own = true) : Mod (inSl p) h ((h.kill ((p.map (·.1)).getD h.next)).push ob) := by
  refine ⟨Nat.le_succ _, fun i hi hn => ?_⟩
  have h1 : ((h.kill ((p.map (·.1)).getD h.next)).push ob).obj i = (h.kill ((p.map (·.1)).getD h.next)).obj i := H.obj_push_old (h := h.kill _) ob (Nat.ne_of_lt hi)
  rw [h1]
  refine H.obj_kill_ne _ ?_
  cases p with
  | none => simp; omega
  | some q =>
    obtain ⟨j, o⟩ := q
    simp
    rintro rfl
    rcases hn with hn | ⟨ob1, e1, e2⟩
    · exact hn ⟨o, rfl⟩
    · obtain ⟨ob2, e3, e4⟩ := hp i o rfl
      rw [e1] at e3
      injection e3 with e3
      subst e3
      rw [e2] at e4
      cases e4
theorem slIs_new (h : H) {k sz : Nat} {zs : List V} (hl : zs.length = k * sz) : SlIs (h.push (.row true sz zs)) (some (h.next, 0)) k true sz zs :=
  ⟨hl, .inr ⟨h.next, 0, true, zs, rfl, H.obj_push_new h _, fun _ => rfl, by omega, by rw [List.drop_zero, ← hl, List.take_length]⟩⟩
theorem append_sound (hT : TOk P T) {t t' e : Nat} (ht : (T.at_ t).d = .sl e) (ht' : (T.at_ t').d = .sl e) (hh : has T e = true) {ty : Nat} {ρ : Rho} {h : H} {w : World} {p q : Option (Nat × Nat)} {n m : Nat} {xs ys : List V} {us ux : Value}
    (r : Rel ρ h w) (hd : Dom ρ h.next) (hs : SlIs h p n true (T.at_ e).size xs) (hx : SlIs h q m false (T.at_ e).size ys) (vs : VRel ρ (.sl p n) us) (vx : VRel ρ (.sl q m) ux) (hb : (n + m) * (T.at_ e).bytes ≤ 70368744177664) (hnm : n + m ≤ 70368744177664) :
    ∃ u w', (Builtin.append_ #[t, t'] ty #[us, ux]).run P w = .ok u w' ∧ AppOut ρ h w p (n + m) (T.at_ e).size (xs ++ ys) u w' := by
  obtain ⟨ti, z, g1, g2, g3, g4, g5, g6, g7⟩ := (hT e hh).info
  obtain ⟨zv, z1⟩ := (g5 ρ).cells g6
  have hzs : z.cells.size = (T.at_ e).size := by rw [← Array.length_toList, ← zv.1, g7]
  have hut := hT.of_sl ht
  have hut' := hT.of_sl ht'
  have hml : maxLen = 9223372036854775807 := rfl
  have hxl : xs.length = n * (T.at_ e).size := hs.1
  have hyl : ys.length = m * (T.at_ e).size := hx.1
  have hlen : (xs ++ ys).length = (n + m) * (T.at_ e).size := by rw [List.length_append, hxl, hyl, Nat.add_mul]
  have hlenx : (Builtin.lenOf ux).run P w = .ok m w := by
    rcases vx.sl_inv with ⟨_, rfl, rfl⟩ | ⟨_, _, _, _, _, _, rfl, _⟩ <;> rfl
  have howns : ∀ i o, p = some (i, o) → ∃ ob', h.obj i = some ob' ∧ ob'.own = true := by
    intro i o hp
    rcases hs.2 with ⟨_, e1 | e1⟩ | ⟨i', o', ow, rest, e1, hi, ho, _⟩
    · rw [e1] at hp
      cases hp
    · cases e1
    · rw [e1] at hp
      injection hp with hp
      injection hp with hp _
      subst hp
      exact ⟨_, hi, ho rfl⟩
  -- the arm that grows
  have grow : ∀ A cap, us = .slice A n cap → cap < n + m → ∃ u w', (Builtin.append_ #[t, t'] ty #[us, ux]).run P w = .ok u w' ∧ AppOut ρ h w p (n + m) (T.at_ e).size (xs ++ ys) u w' := by
    rintro A cap rfl hlt
    obtain ⟨os, o1, o2, o3, o4⟩ := (r.drew).firstCells (P := P) hs vs
    obtain ⟨ns, n1, n2, n3, n4⟩ := (r.drew).firstCells (P := P) hx vx
    have h1 := (r.kill ((p.map (·.1)).getD h.next)).drew
    have s1 := (Since.kill ρ h w ((p.map (·.1)).getD h.next)).trans (Since.drew ρ (h.kill ((p.map (·.1)).getD h.next)) w)
    have hgc := grownCap_ge w (n + m) cap e
    have hgm := grownCap_le_maxLen w (n + m) cap e (by omega)
    have hfit := growslice_fits (need := n + m) (old := cap) (bytes := ti.bytes) hlt (by rw [g3]; omega)
    obtain ⟨k1, k2, k3⟩ := new_row h1 (by exact hd) (o2.append n2) (fun u hu => by
      rcases List.mem_append.1 hu with hu | hu
      · exact o4 u hu
      · exact n4 u hu) (Builtin.zeroCells z.cells (grownCap w (n + m) cap e - (n + m))).toList e (T.at_ e).size
    rw [← g2] at o1 n1
    refine ⟨_, _, run_grow hut hut' g1 g4 hlenx o1 n1 hlt (by omega) hfit, some (h.next, 0), _, _, ?_, kill_mod howns, ?_, VRel.sl_new hgc hgm rfl ?_, k1, k2, s1.trans k3⟩
    · exact slIs_new (h.kill _) hlen
    · intro i o hi
      injection hi with hi
      injection hi with hi _
      exact .inr (by omega)
    · simp only [List.length_append, Array.length_toList, size_zeroCells, o3, n3, hzs]
      rw [← Nat.add_mul, ← Nat.add_mul, Nat.add_sub_cancel' hgc]
      exact Nat.le_refl _
  obtain ⟨ns, n1, n2, n3, n4⟩ := r.firstCells (P := P) hx vx
  rcases r.sl hs vs with ⟨rfl, rfl, rfl, rfl⟩ | ⟨_, _, e, _⟩ | ⟨i, o, l, cap, a, o', rest, osv, rfl, rfl, hlc, hsz, hn, hmx, had, hlim, hi, ho, hle, hc, hus, hul, hu1, hcell⟩
  · rcases Nat.eq_zero_or_pos m with h0 | h0
    · subst h0
      have hy0 : ys = [] := List.eq_nil_of_length_eq_zero (by omega)
      subst hy0
      have hn0 : ns = [] := List.eq_nil_of_length_eq_zero (by omega)
      subst hn0
      rw [← g2] at n1
      refine ⟨_, _, run_none hut hut' g1 hlenx n1, none, h, ρ, ?_, Mod.refl _ _, ?_, .nils, r, hd, Since.refl _ _ _⟩
      · exact ⟨by simp, .inl ⟨rfl, .inl rfl⟩⟩
      · intro i o hi
        cases hi
    · exact grow none 0 rfl (by omega)
  · cases e
  · rcases Nat.lt_or_ge cap (n + m) with hlt | hge
    · exact grow (some a) cap rfl hlt
    · have hot := ho rfl
      subst hot
      rcases Nat.eq_zero_or_pos m with h0 | h0
      · subst h0
        have hy0 : ys = [] := List.eq_nil_of_length_eq_zero (by omega)
        subst hy0
        have hn0 : ns = [] := List.eq_nil_of_length_eq_zero (by omega)
        subst hn0
        rw [← g2] at n1
        refine ⟨_, _, run_room hut hut' g1 hlenx n1 hge rfl, some (i, o), h, ρ, ?_, Mod.refl _ _, ?_, vs, r, hd, Since.refl _ _ _⟩
        · rw [List.append_nil]
          exact hs
        · intro i' o' hi'
          exact .inl rfl
      · have := had (by omega)
        subst this
        obtain ⟨l', e1, q1, q2, cells, et, fr, q3, q4, q5, q6⟩ := r.obj i _ hi
        rw [hlc] at e1
        injection e1 with e1
        subst e1
        have hfr : frOk fr cells.size := q5 rfl
        have hmul : n * (T.at_ e).size + m * (T.at_ e).size ≤ cap * (T.at_ e).size := by
          rw [← Nat.add_mul]
          exact Nat.mul_le_mul_right _ hge
        have hst := storeCells_fr (P := P) l.b (l.o + o + n * (T.at_ e).size) et fr ns 0 cells w q3 hfr (by omega) n4
        have hnx : h.next ≠ i := Ne.symm (Nat.ne_of_lt (h.lt i _ hi))
        rw [← g2] at n1
        rw [← g2] at hst
        have hst' := hst
        rw [← add_plain l.b (l.o + o) (n * ti.size)] at hst'
        rw [g2] at hst'
        refine ⟨_, _, run_room hut hut' g1 hlenx n1 hge (by rw [g2]; exact hst'), some (h.next, 0), (h.kill i).push (.row true (T.at_ e).size (xs ++ ys)), ρ.add h.next ⟨l.b, l.o + o, l.lim - o, (T.at_ e).size⟩, ?_, kill_mod howns, ?_, ?_, ?_, hd.add _, ?_⟩
        · exact slIs_new (h.kill _) hlen
        · intro i' o' hi'
          injection hi' with hi'
          injection hi' with hi' _
          exact .inr (by omega)
        · refine .sl h.next 0 (n + m) cap _ _ (Rho.add_self _ _ _) hge hmx (fun _ => rfl) ?_
          simp only
          omega
        · refine Rel.move r hd hi rfl hlc rfl (fun b hb' => setRow_other _ _ _ _ hb') ?_
          refine ⟨rfl, ?_, _, et, fr, setRow_heap _ _ _ _ _ _ q3, ?_, fun _ => frOk_eq hfr (by simp only [List.size_toArray, List.length_append, List.length_take, List.length_drop, Array.length_toList]; omega), fun j c hj => ?_⟩
          · rw [hlen, Nat.add_mul]
            simp only
            omega
          · show l.o + o + (l.lim - o) ≤ _
            simp only [List.size_toArray, List.length_append, List.length_take, List.length_drop, Array.length_toList]
            omega
          · have hjl := (List.getElem?_eq_some_iff.1 hj).1
            simp only [Nat.add_zero, List.getElem?_toArray]
            rcases Nat.lt_or_ge j (n * (T.at_ e).size) with hjn | hjn
            · rw [List.getElem?_append_left (by omega), ← hc, List.getElem?_take, if_pos hjn, List.getElem?_drop] at hj
              obtain ⟨u, a1, a2, a3⟩ := q6 (o + j) c hj
              refine ⟨u, ?_, a2, a3.mono (Rho.add_ext hd _)⟩
              rw [List.append_assoc, List.getElem?_append_left (by simp; omega), List.getElem?_take, if_pos (by omega), Array.getElem?_toList, Nat.add_assoc]
              exact a1
            · rw [List.getElem?_append_right (by omega), hxl] at hj
              obtain ⟨u, a1, a2⟩ := n2.get hj
              refine ⟨u, ?_, n4 u (List.mem_of_getElem? a1), a2.mono (Rho.add_ext hd _)⟩
              have hul' := (List.getElem?_eq_some_iff.1 a1).1
              rw [List.append_assoc, List.getElem?_append_right (by simp; omega), List.getElem?_append_left (by simp; omega)]
              rw [← a1]
              congr 1
              simp
              omega
        · exact Since.move r hd hi rfl hlc rfl (fun b hb' => setRow_other _ _ _ _ hb') rfl rfl rfl (by simp)
end
end Go.Ab
