/- A small logic over the model: Go code read on an abstract memory (objects by number, slices without capacity, no order of evaluation left open). Definitions. -/
import Derived.Orders
import Derived.Below
import Derived.KernelRfl
import Derived.Laws.Sem
import Derived.Laws.AppendOwn
import Derived.Laws.CopyRow
import Derived.Laws.Cells
import Derived.Laws.Entries
import Derived.Laws.IdiomCopy
set_option linter.unusedVariables false
namespace Go.Ab
open Go

/-! ### Values -/
inductive V where
  | int (k : IntKind) (n : Int)
  | bool (b : Bool)
  | str (s : List Int)
  | ptr (p : Option (Nat × Nat))
  | sl (p : Option (Nat × Nat)) (n : Nat)
  | mp (r : Option Nat)
  | fn (f : Nat)
  | clo (f : Nat) (caps : List V)
  | clz (f : Nat) (i : Nat)
  | agg (cs : List V)
  | tup (vs : List V)
  | undef

abbrev i64 (n : Int) : V := .int .i64 n
def ints (k : IntKind) (xs : List Int) : List V := xs.map (V.int k)

/-- An integer, whatever its kind, made to show itself. -/
def fv (v : V) (K : V → Prop) : Prop :=
  match v with
  | .int k n => K (.int k n)
  | .bool b => K (.bool b)
  | .str s => K (.str s)
  | .ptr p => K (.ptr p)
  | .sl p n => K (.sl p n)
  | .mp r => K (.mp r)
  | .fn f => K (.fn f)
  | .clo f c => K (.clo f c)
  | .clz f i => K (.clz f i)
  | .agg cs => K (.agg cs)
  | .tup vs => K (.tup vs)
  | .undef => K .undef
def br (b : Bool) (X Y : Prop) : Prop :=
  match b with
  | true => X
  | false => Y

def chk (b : Bool) (X : Prop) : Prop :=
  match b with
  | true => X
  | false => False
def kEq (a b : IntKind) : Bool :=
  match a, b with
  | .i8, .i8 | .i16, .i16 | .i32, .i32 | .i64, .i64 | .u8, .u8 | .u16, .u16 | .u32, .u32 | .u64, .u64 => true
  | _, _ => false

/-! ### Memory -/
inductive Obj where
  | row (own : Bool) (sz : Nat) (cs : List V)
  | map (own : Bool) (es : List (V × V))
  /-- a map of one's own, and each entry's number, and the number of the next one -/
  | mapb (es : List (V × V)) (bs : List Nat) (cl : Nat)
  /-- who goes through map i -/
  | itr (i since : Nat) (seen : List Nat) (last : Nat)
def Obj.own : Obj → Bool
  | .row o _ _ => o
  | .map o _ => o
  | .mapb _ _ _ => true
  | .itr _ _ _ _ => true
structure H where
  next : Nat
  obj : Nat → Option Obj
  lt : ∀ i ob, obj i = some ob → i < next
def H.push (h : H) (ob : Obj) : H where
  next := h.next + 1
  obj := fun i => if i = h.next then some ob else h.obj i
  lt := fun i ob' hh => by
    split at hh
    · omega
    · have := h.lt i ob' hh
      omega
def H.set (h : H) (i : Nat) (ob : Obj) : H where
  next := h.next
  obj := fun j => if j = i then (h.obj i).map (fun _ => ob) else h.obj j
  lt := fun j ob' hh => by
    split at hh
    · rename_i e
      subst e
      cases hi : h.obj j with
      | none => simp [hi] at hh
      | some o => exact h.lt j o hi
    · exact h.lt j ob' hh
def H.kill (h : H) (i : Nat) : H where
  next := h.next
  obj := fun j => if j = i then none else h.obj j
  lt := fun j ob' hh => by
    split at hh
    · cases hh
    · exact h.lt j ob' hh

def Cell (h : H) (i off : Nat) (v : V) : Prop := ∃ o sz cs, h.obj i = some (.row o sz cs) ∧ cs[off]? = some v
def Cells (h : H) (i off n : Nat) (vs : List V) : Prop := ∃ o sz cs, h.obj i = some (.row o sz cs) ∧ off + n ≤ cs.length ∧ (cs.drop off).take n = vs
/-- A slice that reads as these cells; own: it may be written and appended to. -/
def SlIs (h : H) (p : Option (Nat × Nat)) (n : Nat) (own : Bool) (sz : Nat) (cs : List V) : Prop :=
  cs.length = n * sz ∧ ((n = 0 ∧ (p = none ∨ own = false)) ∨ ∃ i o o' rest, p = some (i, o) ∧ h.obj i = some (.row o' sz rest) ∧ (own = true → o' = true) ∧ o + n * sz ≤ rest.length ∧ (rest.drop o).take (n * sz) = cs)
/-- What is not in S, and what is not one's own, is as it was. -/
structure Mod (S : Nat → Prop) (h h' : H) : Prop where
  next : h.next ≤ h'.next
  obj : ∀ i, i < h.next → (¬ S i ∨ ∃ ob, h.obj i = some ob ∧ ob.own = false) → h'.obj i = h.obj i

/-! ### What stands for what -/
structure Loc where
  b : Nat
  o : Nat
  lim : Nat
  sz : Nat
abbrev Rho := Nat → Option Loc
inductive VRel (ρ : Rho) : V → Value → Prop where
  | undef (u : Value) : VRel ρ .undef u
  | int (k : IntKind) (n : Int) : VRel ρ (.int k n) (.int k n)
  | bool (b : Bool) : VRel ρ (.bool b) (.bool b)
  | str (s : ByteArray) : VRel ρ (.str (s.data.toList.map fun b => (b.toNat : Int))) (.string s)
  | nilp : VRel ρ (.ptr none) (.pointer none)
  | ptr (i o : Nat) (l : Loc) (h : ρ i = some l) : VRel ρ (.ptr (some (i, o))) (.pointer (some ⟨l.b, l.o + o, none⟩))
  | nils : VRel ρ (.sl none 0) (.slice none 0 0)
  | sl (i o n cap : Nat) (a : Addr) (l : Loc) (h : ρ i = some l) (hn : n ≤ cap) (hm : cap ≤ maxLen) (ha : 0 < cap → a = ⟨l.b, l.o + o, none⟩) (hl : o + cap * l.sz ≤ l.lim) : VRel ρ (.sl (some (i, o)) n) (.slice (some a) n cap)
  | nilm : VRel ρ (.mp none) (.map none)
  | mp (i : Nat) (l : Loc) (h : ρ i = some l) : VRel ρ (.mp (some i)) (.map (some l.b))
  | fn (f : Nat) : VRel ρ (.fn f) (.func (.func f) #[] #[])
  | clo (f : Nat) (cs : List V) (us : List Value) (hl : cs.length = us.length) (hc : ∀ (j : Nat) (c : V) (u : Value), cs[j]? = some c → us[j]? = some u → VRel ρ c u) : VRel ρ (.clo f cs) (.func (.func f) #[] us.toArray)
  | clz (f i : Nat) (l : Loc) (h : ρ i = some l) (h0 : l.o = 0) : VRel ρ (.clz f i) (.func (.func f) #[] #[.pointer (some ⟨l.b, 0, none⟩)])
  | agg (cs : List V) (us : List Value) (h1 : ∀ u ∈ us, u.oneCell' = true) (hl : cs.length = us.length) (hc : ∀ (j : Nat) (c : V) (u : Value), cs[j]? = some c → us[j]? = some u → VRel ρ c u) : VRel ρ (.agg cs) (.agg us.toArray)
  | tup (cs : List V) (us : List Value) (hl : cs.length = us.length) (hc : ∀ (j : Nat) (c : V) (u : Value), cs[j]? = some c → us[j]? = some u → VRel ρ c u) : VRel ρ (.tup cs) (.tuple us.toArray)
def VsRel (ρ : Rho) (cs : List V) (us : List Value) : Prop := cs.length = us.length ∧ ∀ (j : Nat) (c : V) (u : Value), cs[j]? = some c → us[j]? = some u → VRel ρ c u
/-- no cell of n is frozen -/
def frOk (fr : Nat × Nat) (n : Nat) : Prop := fr = (0, 0) ∨ n ≤ fr.1
theorem frOk.no {f1 f2 n o : Nat} (h : frOk (f1, f2) n) (ho : o < n) : ¬ (f1 ≤ o ∧ o < f2) := fun ⟨a, b⟩ => by
  rcases h with k | k
  · injection k with k1 k2
    omega
  · simp only at k
    omega
def ObjRel (ρ : Rho) (w : World) (l : Loc) : Obj → Prop
  | .row own sz cs => l.sz = sz ∧ cs.length ≤ l.lim ∧ ∃ cells e fr, w.heap[l.b]? = some (.cells cells e fr) ∧ l.o + l.lim ≤ cells.size ∧ (own = true → frOk fr cells.size) ∧
      ∀ (j : Nat) (c : V), cs[j]? = some c → ∃ u, cells[l.o + j]? = some u ∧ u.oneCell' = true ∧ VRel ρ c u
  | .map _ es => ∃ ms clock, w.heap[l.b]? = some (.map ms clock) ∧ ms.size = es.length ∧ (∀ e ∈ ms, e.born < clock) ∧ (ms.toList.map (·.born)).Nodup ∧
      ∀ (j : Nat) (kv : V × V) (m : MapEntry), es[j]? = some kv → ms[j]? = some m → VRel ρ kv.1 m.key ∧ VRel ρ kv.2 m.val
  | .mapb es bs cl => ∃ ms, w.heap[l.b]? = some (.map ms cl) ∧ ms.size = es.length ∧ (∀ e ∈ ms, e.born < cl) ∧ ms.toList.map (·.born) = bs ∧ bs.Nodup ∧
      ∀ (j : Nat) (kv : V × V) (m : MapEntry), es[j]? = some kv → ms[j]? = some m → VRel ρ kv.1 m.key ∧ VRel ρ kv.2 m.val
  | .itr i since seen last => ∃ lm, ρ i = some lm ∧ l.o = 0 ∧ w.heap[l.b]? = some (.mapIter (some lm.b) since seen.toArray last)
structure Rel (ρ : Rho) (h : H) (w : World) : Prop where
  obj : ∀ i ob, h.obj i = some ob → ∃ l, ρ i = some l ∧ ObjRel ρ w l ob
  sep : ∀ i j oi oj li lj, h.obj i = some oi → h.obj j = some oj → oi.own = true → i ≠ j → ρ i = some li → ρ j = some lj → li.b ≠ lj.b
def Dom (ρ : Rho) (n : Nat) : Prop := ∀ i, n ≤ i → ρ i = none
/-- From (ρ, h, w) on to (ρ', h', w'): what is not one's own has not turned. -/
structure Since (ρ : Rho) (h : H) (w : World) (ρ' : Rho) (h' : H) (w' : World) : Prop where
  ext : ∀ i l, ρ i = some l → ρ' i = some l
  os : w'.os = w.os
  tape : w'.tape = w.tape
  output : w'.output = w.output
  size : w.heap.size ≤ w'.heap.size
  next : h.next ≤ h'.next
  frame : ∀ b, b < w.heap.size → (∀ i ob l, h.obj i = some ob → ob.own = true → ρ i = some l → l.b ≠ b) → w'.heap[b]? = w.heap[b]?
  own : ∀ i ob l, h'.obj i = some ob → ob.own = true → ρ' i = some l → (∃ j oj lj, h.obj j = some oj ∧ oj.own = true ∧ ρ j = some lj ∧ lj.b = l.b) ∨ w.heap.size ≤ l.b

def Callable (P : Program) (f : Nat) : Prop := ∃ fn, P.funcs[f]? = some fn ∧ fn.body.isNone = false ∧ (fn.name == "runtime.NumGoroutine") = false
/-- A call, on the abstract memory. -/
def ACalls (P : Program) (f : Nat) (args : List V) (h : H) (Q : V → H → Prop) : Prop :=
  Callable P f ∧ ∀ ρ w vs, Rel ρ h w → Dom ρ h.next → VsRel ρ args vs → Calls P f vs.toArray w fun e w' => ∃ r h' ρ' u, e = .returned u ∧ Q r h' ∧ VRel ρ' r u ∧ Rel ρ' h' w' ∧ Dom ρ' h'.next ∧ Since ρ h w ρ' h' w'

/-- known, and no list of results. -/
def isV : V → Bool
  | .undef => false
  | .tup _ => false
  | _ => true

/-! ### Types -/
inductive TD where
  | bool | int (k : IntKind) | str | ptr (e : Nat) | sl (e : Nat) | mp (k e : Nat) | st (fs : List (Nat × Nat)) | arr (n e : Nat) | other
structure TI where
  d : TD
  size : Nat
  bytes : Nat
  zero : V
abbrev TT := List (Nat × TI)
def TT.at_ : TT → Nat → TI
  | [], _ => ⟨.other, 0, 0, .undef⟩
  | (t, i) :: r, n => match Nat.beq t n with
    | true => i
    | false => TT.at_ r n
def vcells : V → List V
  | .agg cs => cs
  | v => [v]
def elemOf (T : TT) (t : Nat) : Nat :=
  match (T.at_ t).d with
  | .sl e => e
  | .arr _ e => e
  | _ => 0
/-- is it in the table? -/
def has (T : TT) (t : Nat) : Bool :=
  match (T.at_ t).d with
  | .other => false
  | _ => true
inductive AK where
  | agg | one | no
def aggK (T : TT) (t : Nat) : AK :=
  match (T.at_ t).d with
  | .st _ => .agg
  | .arr _ _ => .agg
  | .other => .no
  | _ => .one

/-! ### The temporaries -/
abbrev Env := List (Nat × V)
def get : Env → Nat → V
  | [], _ => .undef
  | (t, v) :: e, n => match Nat.beq t n with
    | true => v
    | false => get e n
def put (env : Env) (d : Option Nat) (v : V) (K : Env → Prop) : Prop :=
  match d with
  | some t => K ((t, v) :: env)
  | none => K env
/-- env' knows no more than env. -/
def Forget (env env' : Env) : Prop := ∀ t, get env' t = .undef ∨ get env' t = get env t
def ofCell : Value → V
  | .int k n => .int k n
  | .bool b => .bool b
  | .string s => .str (s.data.toList.map fun b => (b.toNat : Int))
  | .pointer none => .ptr none
  | .slice none 0 0 => .sl none 0
  | .map none => .mp none
  | _ => .undef
def ofConst : Value → V
  | .agg cs => (match cs.toList.all Value.oneCell' with
    | true => .agg (cs.toList.map ofCell)
    | false => .undef)
  | v => ofCell v
def opv (env : Env) : Operand → V
  | .tmp t => get env t
  | .const v => ofConst v
  | .global _ => .undef
  | .func f => .fn f

/-! ### Operations that look at no memory -/
def intBin (op : BinOp) (k k' : IntKind) (a b : Int) (K : V → Prop) : Prop :=
  match op with
  | .add => chk (kEq k k') (K (.int k (k.wrap (a + b))))
  | .sub => chk (kEq k k') (K (.int k (k.wrap (a - b))))
  | .mul => chk (kEq k k') (K (.int k (k.wrap (a * b))))
  | .quo => chk (kEq k k') (b ≠ 0 ∧ K (.int k (k.wrap (a.tdiv b))))
  | .rem => chk (kEq k k') (b ≠ 0 ∧ K (.int k (a.tmod b)))
  | .and => chk (kEq k k') (K (.int k (k.wrap (BitVec.ofInt k.bits a &&& BitVec.ofInt k.bits b).toNat)))
  | .or => chk (kEq k k') (K (.int k (k.wrap (BitVec.ofInt k.bits a ||| BitVec.ofInt k.bits b).toNat)))
  | .xor => chk (kEq k k') (K (.int k (k.wrap (BitVec.ofInt k.bits a ^^^ BitVec.ofInt k.bits b).toNat)))
  | .andNot => chk (kEq k k') (K (.int k (k.wrap (BitVec.ofInt k.bits a &&& ~~~BitVec.ofInt k.bits b).toNat)))
  | .shl => 0 ≤ b ∧ K (.int k (k.wrap (a * 2 ^ (min b.toNat k.bits))))
  | .shr => 0 ≤ b ∧ K (.int k (a.fdiv (2 ^ (min b.toNat k.bits))))
  | .eql => chk (kEq k k') (K (.bool (a == b)))
  | .neq => chk (kEq k k') (K (.bool (a != b)))
  | .lss => chk (kEq k k') (K (.bool (decide (a < b))))
  | .leq => chk (kEq k k') (K (.bool (decide (a ≤ b))))
  | .gtr => chk (kEq k k') (K (.bool (decide (a > b))))
  | .geq => chk (kEq k k') (K (.bool (decide (a ≥ b))))
def flat (T : TT) : List (Nat × Nat) → List V → Option (List Int)
  | [], [] => some []
  | (t, _) :: fs, x :: xs => (match (T.at_ t).d, x with
    | .int k, .int k' n => (match kEq k k' with
      | true => (flat T fs xs).map (n :: ·)
      | false => none)
    | .bool, .bool b => (flat T fs xs).map ((bif b then 1 else 0) :: ·)
    | _, _ => none)
  | _, _ => none
/-- all fields are integers or bools, one behind the other. -/
def flatTy (T : TT) : Nat → List (Nat × Nat) → Bool
  | _, [] => true
  | j, (t, o) :: r => Nat.beq o j && (match (T.at_ t).d with
    | .int _ => true
    | .bool => true
    | _ => false) && flatTy T (j + 1) r
def eqB (T : TT) (t : Nat) (x y : V) (K : Bool → Prop) : Prop :=
  match x, y with
  | .bool a, .bool b => (match (T.at_ t).d with
    | .bool => K (a == b)
    | _ => False)
  | .str a, .str b => K (a == b)
  | .ptr p, .ptr none => (match (T.at_ t).d with
    | .ptr _ => K p.isNone
    | _ => False)
  | .ptr none, .ptr p => (match (T.at_ t).d with
    | .ptr _ => K p.isNone
    | _ => False)
  | .sl p _, .sl none _ => (match (T.at_ t).d with
    | .sl _ => K p.isNone
    | _ => False)
  | .mp p, .mp none => (match (T.at_ t).d with
    | .mp _ _ => K p.isNone
    | _ => False)
  | .agg xs, .agg ys => (match (T.at_ t).d with
    | .st fs => chk (flatTy T 0 fs) (∃ a b, flat T fs xs = some a ∧ flat T fs ys = some b ∧ K (a == b))
    | _ => False)
  | _, _ => False
def binO (T : TT) (op : BinOp) (t : Nat) (x y : V) (K : V → Prop) : Prop :=
  match x, y with
  | .int k a, .int k' b => intBin op k k' a b K
  | x, y => match op with
    | .eql => eqB T t x y fun b => K (.bool b)
    | .neq => eqB T t x y fun b => K (.bool (!b))
    | _ => False
def unO (op : UnOp) (x : V) (K : V → Prop) : Prop :=
  match op, x with
  | .neg, .int k n => K (.int k (k.wrap (0 - n)))
  | .xor, .int k n => K (.int k (k.wrap (BitVec.ofInt k.bits (if k.signed then -1 else k.max) ^^^ BitVec.ofInt k.bits n).toNat))
  | .not, .bool b => K (.bool !b)
  | _, _ => False
def partV (T : TT) (t : Nat) (cs : List V) (off : Nat) (K : V → Prop) : Prop :=
  match aggK T t with
  | .agg => off + (T.at_ t).size ≤ cs.length ∧ K (.agg ((cs.drop off).take (T.at_ t).size))
  | .one => ∃ v, cs[off]? = some v ∧ fv v K
  | .no => False
/-- off, size of a part. -/
def places (T : TT) (t : Nat) (i : Nat) : Option (Nat × Nat) :=
  match (T.at_ t).d with
  | .st fs => (match fs[i]? with
    | some f => (match has T f.1 with
      | true => some (f.2, (T.at_ f.1).size)
      | false => none)
    | none => none)
  | .arr _ e => (match has T e with
    | true => some (i * (T.at_ e).size, (T.at_ e).size)
    | false => none)
  | .sl e => (match has T e with
    | true => some (i * (T.at_ e).size, (T.at_ e).size)
    | false => none)
  | _ => none
def splice {α : Type} : List α → Nat → List α → List α
  | cs, _, [] => cs
  | cs, o, v :: vs => splice (cs.set o v) (o + 1) vs
def fillV (T : TT) (env : Env) (t : Nat) (cs : List V) : List (Nat × Operand) → (List V → Prop) → Prop
  | [], K => K cs
  | (i, x) :: r, K => match places T t i with
    | some (off, size) => fv (opv env x) fun v => chk (Nat.ble 1 size) <| chk (isV v) <| chk (Nat.beq (vcells v).length size) (chk (Nat.ble (off + size) cs.length) (fillV T env t (splice cs off (vcells v)) r K))
    | none => False
def zerosV (n : Nat) (z : List V) : List V := (List.range (n * z.length)).map fun i => z.getD (i % z.length) .undef
def slp (p : Option (Nat × Nat)) (d : Nat) : Option (Nat × Nat) :=
  match p with
  | some (i, o) => some (i, o + d)
  | none => none
def boundO (env : Env) (x : Option Operand) (d : Nat) (K : Nat → Prop) : Prop :=
  match x with
  | none => K d
  | some x => match opv env x with
    | .int _ n => ∃ m : Nat, n = (m : Int) ∧ K m
    | _ => False
def pCall (T : TT) (c : Call) (env : Env) (K : V → Prop) : Prop :=
  match c.callee, c.args.toList, c.argTypes.toList with
  | .builtin .len, [x], [t] => (match (T.at_ t).d, opv env x with
    | .sl _, .sl _ n => K (i64 n)
    | .str, .str s => K (i64 s.length)
    | .arr n _, _ => K (i64 n)
    | _, _ => False)
  | .builtin .min, [x, y], _ => (match opv env x, opv env y with
    | .int k a, .int _ b => K (.int k (if b < a then b else a))
    | _, _ => False)
  | .builtin .max, [x, y], _ => (match opv env x, opv env y with
    | .int k a, .int _ b => K (.int k (if b > a then b else a))
    | _, _ => False)
  | _, _, _ => False
/-- what a map holds: integers for keys -/
def mpE (k : IntKind) (ms : List (Int × V)) : List (V × V) := ms.map fun p => (.int k p.1, p.2)
/-- a pair of integers for a key -/
def pk (k : IntKind) (n : Int × Int) : V := .agg [.int k n.1, .int k n.2]
def mpP (k : IntKind) (ms : List ((Int × Int) × V)) : List (V × V) := ms.map fun p => (pk k p.1, p.2)
def pget {α : Type} (ms : List ((Int × Int) × α)) (n : Int × Int) : Option α := (ms.find? fun p => p.1 == n).map (·.2)
def pput {α : Type} : List ((Int × Int) × α) → Int × Int → α → List ((Int × Int) × α)
  | [], n, v => [(n, v)]
  | p :: ms, n, v => if p.1 = n then (n, v) :: ms else p :: pput ms n v
def pwf (k : IntKind) (n : Int × Int) : Prop := (Lit.int k n.1).wf = true ∧ (Lit.int k n.2).wf = true
def mget (ms : List (Int × V)) (n : Int) : Option V := (ms.find? fun p => p.1 == n).map (·.2)
def mput : List (Int × V) → Int → V → List (Int × V)
  | [], n, v => [(n, v)]
  | p :: ms, n, v => if p.1 = n then (p.1, v) :: ms else p :: mput ms n v
def mdel : List (Int × V) → Int → List (Int × V)
  | [], _ => []
  | p :: ms, n => if p.1 = n then ms else p :: mdel ms n
/-- the entries' numbers, behind a delete -/
def bdel : List (Int × V) → List Nat → Int → List Nat
  | p :: ms, b :: bs, n => if p.1 = n then bs else b :: bdel ms bs n
  | _, bs, _ => bs
def lookV (ok : Bool) (v : V) (b : Bool) : V :=
  match ok with
  | true => .tup [v, .bool b]
  | false => v
def pO (T : TT) (o : Oper) (env : Env) (K : V → Prop) : Prop :=
  match o.op with
  | .move x => fv (opv env x) K
  | .assign x => fv (opv env x) K
  | .pick c a b => (match opv env c with
    | .bool g => br g (fv (opv env a) K) (fv (opv env b) K)
    | _ => False)
  | .nilCheck x => (match opv env x with
    | .ptr (some p) => K (.ptr (some p))
    | _ => False)
  | .binOp op t x y _ => binO T op t (opv env x) (opv env y) K
  | .unOp op _ x => unO op (opv env x) K
  | .convert src dst x => (match (T.at_ dst).d, opv env x with
    | .int k, .int _ n => chk (has T src) (K (.int k (k.wrap n)))
    | _, _ => False)
  | .fieldAddr s x f => (match (T.at_ s).d, opv env x with
    | .st fs, .ptr (some (i, off)) => (match fs[f]? with
      | some (t, d) => chk (has T t) (chk (Nat.ble 1 (T.at_ t).size) (K (.ptr (some (i, off + d)))))
      | none => False)
    | _, _ => False)
  | .field s x f => (match (T.at_ s).d, opv env x with
    | .st fs, .agg cs => (match fs[f]? with
      | some (t, d) => partV T t cs d K
      | none => False)
    | _, _ => False)
  | .indexAddr t x ix => (match (T.at_ t).d, opv env x, opv env ix with
    | .sl e, .sl p n, .int _ z => chk (has T e) <| ∃ i off j : Nat, p = some (i, off) ∧ z = (j : Int) ∧ j < n ∧ K (.ptr (some (i, off + j * (T.at_ e).size)))
    | .arr n e, .ptr (some (i, off)), .int _ z => chk (has T e) <| ∃ j : Nat, z = (j : Int) ∧ j < n ∧ K (.ptr (some (i, off + j * (T.at_ e).size)))
    | _, _, _ => False)
  | .index t x ix => (match (T.at_ t).d, opv env x, opv env ix with
    | .arr n e, .agg cs, .int _ z => chk (has T e) <| ∃ j : Nat, z = (j : Int) ∧ j < n ∧ partV T e cs (j * (T.at_ e).size) K
    | .str, .str s, .int _ z => ∃ (j : Nat) (c : Int), z = (j : Int) ∧ s[j]? = some c ∧ K (.int .u8 c)
    | _, _, _ => False)
  | .slice t x lo hi mx => (match (T.at_ t).d, opv env x, mx with
    | .str, .str s, none => boundO env lo 0 fun l => boundO env hi s.length fun m => l ≤ m ∧ m ≤ s.length ∧ K (.str ((s.drop l).take (m - l)))
    | _, _, _ => False)
  | .build t parts => (match (T.at_ t).d with
    | .st fs => chk (fs.all fun f => has T f.1) <| fillV T env t (vcells (T.at_ t).zero) parts.toList fun cs => K (.agg cs)
    | .arr _ e => chk (has T e) <| fillV T env t (vcells (T.at_ t).zero) parts.toList fun cs => K (.agg cs)
    | _ => False)
  | .extract x i => (match opv env x with
    | .tup vs => ∃ v, vs[i]? = some v ∧ fv v K
    | _ => False)
  | .call c => pCall T c env K
  | .makeFunc (.func f) first caps => (match first.toList with
    | [] => K (.clo f (caps.toList.map (opv env)))
    | _ => False)
  | _ => False

/-! ### Operations that read memory -/
def rO (T : TT) (o : Oper) (env : Env) (h : H) (K : V → Prop) : Prop :=
  match o.op with
  | .load t x => (match opv env x, aggK T t with
    | .ptr (some (i, off)), .one => ∃ v, Cell h i off v ∧ fv v K
    | .ptr (some (i, off)), .agg => ∃ cs, Cells h i off (T.at_ t).size cs ∧ K (.agg cs)
    | _, _ => False)
  | .slice t x lo hi mx => (match (T.at_ t).d, opv env x, mx with
    | .sl e, .sl p n, none => chk (has T e) <| (∃ cs, SlIs h p n false (T.at_ e).size cs) ∧ boundO env lo 0 fun l => boundO env hi n fun m => l ≤ m ∧ m ≤ n ∧ K (.sl (slp p (l * (T.at_ e).size)) (m - l))
    | _, _, _ => False)
  | .convert src dst x => (match (T.at_ src).d, (T.at_ dst).d, opv env x with
    | .sl e, .str, .sl p n => (match (T.at_ e).d with
      | .int .u8 => ∃ xs, SlIs h p n false 1 (ints .u8 xs) ∧ (∀ x ∈ xs, 0 ≤ x ∧ x < 256) ∧ K (.str xs)
      | _ => False)
    | _, _, _ => False)
  | .lookup t x ix ok => (match (T.at_ t).d, opv env x, opv env ix with
    | .mp kt et, .mp none, .int k n => (match (T.at_ kt).d with
      | .int k' => chk (kEq k' k) <| chk (has T et) <| K (lookV ok (T.at_ et).zero false)
      | _ => False)
    | .mp kt et, .mp (some i), .int k n => (match (T.at_ kt).d with
      | .int k' => chk (kEq k' k) <| chk (has T et) <| ∃ own ms, h.obj i = some (.map own (mpE k ms)) ∧ K (lookV ok ((mget ms n).getD (T.at_ et).zero) (mget ms n).isSome)
      | _ => False)
    | .mp kt et, .mp (some i), .agg [.int k a, .int k2 b] => (match (T.at_ kt).d with
      | .arr m e => (match (T.at_ e).d with
        | .int k' => chk (kEq k' k) <| chk (kEq k' k2) <| chk (Nat.beq m 2) <| chk (Nat.beq (T.at_ kt).size 2) <| chk (Nat.beq (T.at_ e).size 1) <| chk (has T et) <| ∃ own ms, h.obj i = some (.map own (mpP k ms)) ∧ (ms.map (·.1)).Nodup ∧ (∀ p ∈ ms, pwf k p.1) ∧ pwf k (a, b) ∧ K (lookV ok ((pget ms (a, b)).getD (T.at_ et).zero) (pget ms (a, b)).isSome)
        | _ => False)
      | _ => False)
    | _, _, _ => False)
  | .call c => (match c.callee, c.args.toList, c.argTypes.toList with
    | .builtin .len, [x], [t] => (match (T.at_ t).d, opv env x with
      | .mp _ _, .mp none => K (i64 0)
      | .mp _ _, .mp (some i) => ∃ own es, h.obj i = some (.map own es) ∧ K (i64 es.length)
      | _, _ => False)
    | _, _, _ => False)
  | _ => False

/-! ### Operations that make or turn memory -/
def isFresh (h : H) (p : Option (Nat × Nat)) (p' : Option (Nat × Nat)) : Prop := ∀ i o, p' = some (i, o) → p' = p ∨ h.next ≤ i
def inSl (p : Option (Nat × Nat)) (i : Nat) : Prop := ∃ o, p = some (i, o)
def aO (T : TT) (o : Oper) (env : Env) (h : H) (K : V → H → Prop) : Prop :=
  match o.op with
  | .alloc e => chk (has T e) <| K (.ptr (some (h.next, 0))) (h.push (.row true (T.at_ e).size (vcells (T.at_ e).zero)))
  | .box e x => chk (has T e) <| fv (opv env x) fun v => chk (isV v) <| chk (Nat.beq (vcells v).length (T.at_ e).size) (K (.ptr (some (h.next, 0))) (h.push (.row true (T.at_ e).size (vcells v))))
  | .buildSlice t len parts => (match (T.at_ t).d with
    | .sl e => chk (has T e) <| chk (Nat.ble len 16777216) <| chk (Nat.ble (len * (T.at_ e).size) 16777216) <| fillV T env t (zerosV len (vcells (T.at_ e).zero)) parts.toList fun cs =>
        K (.sl (some (h.next, 0)) len) (h.push (.row true (T.at_ e).size cs))
    | _ => False)
  | .makeSlice t n c => (match (T.at_ t).d, opv env n, opv env c with
    | .sl e, .int _ n, .int _ c => chk (has T e) <| ∃ m : Nat, n = (m : Int) ∧ c = (m : Int) ∧ m ≤ 70368744177664 ∧ m * (T.at_ e).bytes ≤ 70368744177664 ∧
        K (.sl (some (h.next, 0)) m) (h.push (.row true (T.at_ e).size (zerosV m (vcells (T.at_ e).zero))))
    | _, _, _ => False)
  | .makeMap t none => (match (T.at_ t).d with
    | .mp _ _ => K (.mp (some h.next)) (h.push (.map true []))
    | _ => False)
  | _ => False
def keyOf (T : TT) (t : Nat) (v : V) : Option Int :=
  match (T.at_ t).d with
  | .mp k _ => (match (T.at_ k).d, v with
    | .int _, .int _ n => some n
    | _, _ => none)
  | _ => none
def cCall (P : Program) (T : TT) (c : Call) (env : Env) (h : H) (K : V → H → Prop) : Prop :=
  match c.callee, c.args.toList, c.argTypes.toList with
  | .builtin .append, [s, x], [t, t'] => (match (T.at_ t).d, (T.at_ t').d, opv env s, opv env x with
    | .sl e, .sl e', .sl p n, .sl q m => chk (has T e) <| chk (Nat.beq e e') <| ∃ xs ys, SlIs h p n true (T.at_ e).size xs ∧ SlIs h q m false (T.at_ e).size ys ∧ (n + m) * (T.at_ e).bytes ≤ 70368744177664 ∧ n + m ≤ 70368744177664 ∧
        ∀ p' h', SlIs h' p' (n + m) true (T.at_ e).size (xs ++ ys) → Mod (inSl p) h h' → isFresh h p p' → K (.sl p' (n + m)) h'
    | _, _, _, _ => False)
  | .value x, args, _ => (match opv env x with
    | .fn f => ACalls P f (args.map (opv env)) h K
    | .clo f caps => ACalls P f (args.map (opv env) ++ caps) h K
    | _ => False)
  | .builtin .delete, [x, kx], [t, _] => (match (T.at_ t).d, opv env x, opv env kx with
    | .mp kt _, .mp (some i), .int k n => (match (T.at_ kt).d with
      | .int k' => chk (kEq k' k) <| (∃ ms, h.obj i = some (.map true (mpE k ms)) ∧ K (.tup []) (h.set i (.map true (mpE k (mdel ms n))))) ∨ (∃ ms bs cl, h.obj i = some (.mapb (mpE k ms) bs cl) ∧ K (.tup []) (h.set i (.mapb (mpE k (mdel ms n)) (bdel ms bs n) cl)))
      | _ => False)
    | _, _, _ => False)
  | _, _, _ => False
def cO (P : Program) (T : TT) (o : Oper) (env : Env) (h : H) (K : V → H → Prop) : Prop :=
  match o.op with
  | .store t a x => (match opv env a with
    | .ptr (some (i, off)) => chk (has T t) <| fv (opv env x) fun v => chk (isV v) <| ∃ sz cs, h.obj i = some (.row true sz cs) ∧ chk (Nat.beq (vcells v).length (T.at_ t).size) (off + (T.at_ t).size ≤ cs.length ∧
        K .undef (h.set i (.row true sz (splice cs off (vcells v)))))
    | _ => False)
  | .call c => cCall P T c env h K
  | .mapUpdate t x kx vx => (match (T.at_ t).d, opv env x, opv env kx with
    | .mp kt _, .mp (some i), .int k n => (match (T.at_ kt).d with
      | .int k' => chk (kEq k' k) <| fv (opv env vx) fun v => ∃ ms, h.obj i = some (.map true (mpE k ms)) ∧ K .undef (h.set i (.map true (mpE k (mput ms n v))))
      | _ => False)
    | .mp kt _, .mp (some i), .agg [.int k a, .int k2 b] => (match (T.at_ kt).d with
      | .arr m e => (match (T.at_ e).d with
        | .int k' => chk (kEq k' k) <| chk (kEq k' k2) <| chk (Nat.beq m 2) <| chk (Nat.beq (T.at_ kt).size 2) <| chk (Nat.beq (T.at_ e).size 1) <| fv (opv env vx) fun v => ∃ ms, h.obj i = some (.map true (mpP k ms)) ∧ (ms.map (·.1)).Nodup ∧ (∀ p ∈ ms, pwf k p.1) ∧ pwf k (a, b) ∧ K .undef (h.set i (.map true (mpP k (pput ms (a, b) v))))
        | _ => False)
      | _ => False)
    | _, _, _ => False)
  | .mapEntry t x kx => (match (T.at_ t).d, opv env x, opv env kx with
    | .mp kt et, .mp (some i), .int k n => (match (T.at_ kt).d with
      | .int k' => chk (kEq k' k) <| chk (has T et) <| ∃ ms, h.obj i = some (.map true (mpE k ms)) ∧ ∀ (ms' : List (Int × V)) (bs : List Nat) (cl p b : Nat), bs.length = ms'.length → bs.Nodup → (∀ x ∈ bs, x < cl) → (ms'[p]?).map (·.1) = some n → bs[p]? = some b → (∀ v, ms'.set p (n, v) = mput ms n v) →
          K (.tup [.undef, .int .i64 (b : Int)]) (h.set i (.mapb (mpE k ms') bs cl))
      | _ => False)
    | _, _, _ => False)
  | .entryStore t x sx vx => (match opv env x, opv env sx with
    | .mp (some i), .int _ s => fv (opv env vx) fun v => ∃ (k : IntKind) (ms : List (Int × V)) (bs : List Nat) (cl p b : Nat) (n : Int), h.obj i = some (.mapb (mpE k ms) bs cl) ∧ s = (b : Int) ∧ bs[p]? = some b ∧ (ms[p]?).map (·.1) = some n ∧ K .undef (h.set i (.map true (mpE k (ms.set p (n, v)))))
    | _, _ => False)
  | .convert src dst x => (match (T.at_ src).d, (T.at_ dst).d, opv env x with
    | .sl e, .sl _, .sl (some (i, off)) n => (match (T.at_ e).d with
      | .int .u8 => chk (has T e) <| chk (Nat.beq src dst) <| chk (Nat.ble 1 n) (∃ sz cs, h.obj i = some (.row true sz cs) ∧ K (.sl (some (i, off)) n) h)
      | _ => False)
    | _, _, _ => False)
  | .range t x => (match (T.at_ t).d, opv env x with
    | .mp kt _, .mp (some i) => (match (T.at_ kt).d with
      | .int k => ∃ ms, h.obj i = some (.map true (mpE k ms)) ∧ ∀ (bs : List Nat) (cl : Nat), bs.length = ms.length → bs.Nodup → (∀ b ∈ bs, b < cl) → K (.ptr (some (h.next, 0))) ((h.set i (.mapb (mpE k ms) bs cl)).push (.itr i cl [] cl))
      | _ => False)
    | _, _ => False)
  | .next x false => (match opv env x with
    | .ptr (some (j, 0)) => ∃ (i cl : Nat) (seen : List Nat) (k : IntKind) (ms : List (Int × V)) (bs : List Nat), h.obj j = some (.itr i cl seen cl) ∧ h.obj i = some (.mapb (mpE k ms) bs cl) ∧
        (∀ (p : Nat) (n : Int) (v : V) (b : Nat), ms[p]? = some (n, v) → bs[p]? = some b → b ∉ seen → K (.tup [.bool true, .int k n, v]) (h.set j (.itr i cl (seen ++ [b]) cl))) ∧ ((∀ b ∈ bs, b ∈ seen) → K (.tup [.bool false]) h)
    | _ => False)
  | .entry x => (match opv env x with
    | .ptr (some (j, 0)) => ∃ (i cl : Nat) (seen : List Nat) (k : IntKind) (ms : List (Int × V)) (bs : List Nat) (p : Nat) (n : Int) (v : V) (b : Nat), h.obj j = some (.itr i cl (seen ++ [b]) cl) ∧ h.obj i = some (.mapb (mpE k ms) bs cl) ∧ bs[p]? = some b ∧ ms[p]? = some (n, v) ∧ K (.tup [.int k n, v]) h
    | _ => False)
  | _ => False

inductive Cls where
  | p | r | a | c
def cls (T : TT) : Op → Cls
  | .move _ | .assign _ | .pick .. | .nilCheck _ | .binOp .. | .unOp .. | .fieldAddr .. | .field .. | .indexAddr .. | .index .. | .build .. | .extract .. | .makeFunc .. => .p
  | .slice t _ _ _ _ => (match (T.at_ t).d with
    | .sl _ => .r
    | _ => .p)
  | .convert src dst _ => (match (T.at_ src).d, (T.at_ dst).d with
    | .sl _, .str => .r
    | .sl _, .sl _ => .c
    | _, _ => .p)
  | .call c => (match c.callee, c.argTypes.toList with
    | .builtin .len, [t] => (match (T.at_ t).d with
      | .mp _ _ => .r
      | _ => .p)
    | .builtin .min, _ => .p
    | .builtin .max, _ => .p
    | _, _ => .c)
  | .load .. | .lookup .. => .r
  | .alloc _ | .box .. | .buildSlice .. | .makeSlice .. | .makeMap .. => .a
  | _ => .c

/-! ### Regions -/
def guardW (ops : Array Oper) (o : Oper) (env : Env) (K : Env → Bool → Prop) : Prop :=
  match o.guard with
  | none => K env true
  | some (j, want) => match (ops[j]?).bind (·.dst) with
    | none => False
    | some t => match get env t with
      | .bool g => br g (K ((t, .bool true) :: env) want) (K ((t, .bool false) :: env) (!want))
      | .tup [] => K env false
      | _ => False
def opO (P : Program) (T : TT) (o : Oper) (env : Env) (h : H) (K : V → H → Prop) : Prop :=
  match cls T o.op with
  | .p => pO T o env fun v => K v h
  | .r => rO T o env h fun v => K v h
  | .a => aO T o env h K
  | .c => cO P T o env h K
def wpN (P : Program) (T : TT) (ops : Array Oper) : List Oper → Env → H → (Env → H → Prop) → Prop
  | [], env, h, K => K env h
  | o :: r, env, h, K => guardW ops o env fun env go => match go with
    | true => opO P T o env h fun v h' => put env o.dst v fun env => wpN P T ops r env h' K
    | false => put env o.dst (.tup []) fun env => wpN P T ops r env h K
structure Pend where
  j : Nat
  o : Oper
  env : Env
  v : V
/-- What has been read, and may be read later still, reads as it did. -/
def still (T : TT) (bef : Nat) (h' : H) : List Pend → Prop → Prop
  | [], X => X
  | ⟨j, o, env, v⟩ :: r, X => match Nat.testBit bef j with
    | true => still T bef h' r X
    | false => rO T o env h' (fun v' => v' = v) ∧ still T bef h' r X
/-- The temporaries that an operation looks at, and no others. -/
def restr (env : Env) : List Nat → Env
  | [] => []
  | t :: r => (t, get env t) :: restr env r
def wpD (P : Program) (T : TT) (ops : Array Oper) (B : List Nat) : List Nat → List Pend → Env → H → (Env → H → Prop) → Prop
  | [], _, env, h, K => K env h
  | i :: L, pend, env, h, K => match ops[i]? with
    | none => False
    | some o => guardW ops o env fun env go => match go with
      | false => put env o.dst (.tup []) fun env => wpD P T ops B L pend env h K
      | true => match cls T o.op with
        | .p => pO T o (restr env (o.looksAt ops)) fun v => put env o.dst v fun env => wpD P T ops B L pend env h K
        | .r => rO T o (restr env (o.looksAt ops)) h fun v => put env o.dst v fun env' => wpD P T ops B L (⟨i, o, restr env (o.looksAt ops), v⟩ :: pend) env' h K
        | .a => aO T o (restr env (o.looksAt ops)) h fun v h' => put env o.dst v fun env => wpD P T ops B L pend env h' K
        | .c => cO P T o (restr env (o.looksAt ops)) h fun v h' => put env o.dst v fun env => still T (B.getD i 0) h' pend (wpD P T ops B L pend env h' K)
def isChain (T : TT) (ops : Array Oper) (i : Nat) : Bool :=
  match ops[i]? with
  | some o => (match cls T o.op with
    | .a => true
    | .c => true
    | _ => false)
  | none => false
/-- may the two not be done in either order, by what they name? -/
def conf (ops : Array Oper) (x y : Oper) : Bool :=
  (match x.dst with
   | some d => (y.looksAt ops).contains d || y.dst == some d
   | none => false) ||
  (match y.dst with
   | some d => (x.looksAt ops).contains d
   | none => false)
def dStep (T : TT) (ops : Array Oper) (B : List Nat) (pre : List Nat) (i : Nat) (o : Oper) : Bool :=
  !pre.contains i && (o.after.toList.all fun e => !Region.binds .any e || pre.contains e.on) &&
  ((List.range ops.size).all fun j => !(B.getD i 0).testBit j || (pre.contains j && o.after.toList.any fun e => Region.binds .any e && (e.on == j || (B.getD e.on 0).testBit j))) &&
  (pre.all fun c => !isChain T ops c || (B.getD i 0).testBit c) &&
  (pre.all fun j => match ops[j]? with
    | some oj => !conf ops o oj || (B.getD i 0).testBit j
    | none => false)
def dChk (T : TT) (ops : Array Oper) (B : List Nat) : List Nat → List Nat → Bool
  | _, [] => true
  | pre, i :: r => (match ops[i]? with
    | some o => dStep T ops B pre i o
    | none => false) && dChk T ops B (pre ++ [i]) r
def dOk (T : TT) (ops : Array Oper) (L B : List Nat) : Bool :=
  dChk T ops B [] L && (List.range ops.size).all (fun i => L.contains i && Nat.ble (B.getD i 0 + 1) (2 ^ ops.size))

/-- o, and it waits for operation a. -/
def waitFor (o : Oper) (a : Nat) : Oper := { o with after := o.after.push ⟨a, .data⟩ }
def addL : List Oper → Nat → Nat → List Oper
  | [], _, _ => []
  | o :: r, a, 0 => waitFor o a :: r
  | o :: r, a, b + 1 => o :: addL r a b
/-- the region, its operation b waiting for a too -/
def addE (ops : Array Oper) (a b : Nat) : Array Oper := (addL ops.toList a b).toArray

/-- A drawn region: by an order L and a table B; or, of two operations that nothing orders, with either first. -/
def wpReg (P : Program) (T : TT) : Nat → Array Oper → Env → H → (Env → H → Prop) → Prop
  | 0, _, _, _, _ => False
  | f + 1, ops, env, h, K => ∃ L B, match L, B with
    | [], [a, b] => Nat.beq a b = false ∧ wpReg P T f (addE ops a b) env h K ∧ wpReg P T f (addE ops b a) env h K
    | L, B => dOk T ops L B = true ∧ wpD P T ops B L [] env h K

/-! ### Code -/
inductive X where
  | norm
  | exit (id : Nat)
  | ret
def thenX (next : Env → H → Prop) (Q : X → Env → H → Prop) : X → Env → H → Prop
  | .norm, env, h => next env h
  | x, env, h => Q x env h
def inBlk (id : Nat) (Q : X → Env → H → Prop) : X → Env → H → Prop
  | .exit j, env, h => match Nat.beq j id with
    | true => Q .norm env h
    | false => Q (.exit j) env h
  | x, env, h => Q x env h
def wpC (P : Program) (T : TT) : Code → (X → Env → H → Prop) → Env → H → Prop
  | .skip, Q, env, h => Q .norm env h
  | .region _ ops draw, Q, env, h => match draw with
    | false => wpN P T ops ops.toList env h fun env h => Q .norm env h
    | true => wpReg P T 6 ops env h fun env h => Q .norm env h
  | .seq a b, Q, env, h => wpC P T a (thenX (wpC P T b Q) Q) env h
  | .cond c x y, Q, env, h => match opv env c with
    | .bool g => br g (wpC P T x Q env h) (wpC P T y Q env h)
    | _ => False
  | .block id c, Q, env, h => wpC P T c (inBlk id Q) env h
  | .loop c, Q, env, h => ∃ (I : Env → H → Prop) (μ : Env → H → Nat), (∃ env0, Forget env env0 ∧ I env0 h) ∧ ∀ env h, I env h → wpC P T c (thenX (fun env' h' => ∃ env'', Forget env' env'' ∧ I env'' h' ∧ μ env'' h' < μ env h) Q) env h
  | .exit id, Q, env, h => Q (.exit id) env h
  | .ret, Q, env, h => Q .ret env h
  | _, _, _, _ => False
def resO (T : TT) (env : Env) (h : H) : List ResultVar → (List V → Prop) → Prop
  | [], K => K []
  | .tmp t :: r, K => fv (get env t) fun v => resO T env h r fun vs => K (v :: vs)
  | .cell a t :: r, K => (match get env a, aggK T t with
    | .ptr (some (i, off)), .one => ∃ v, Cell h i off v ∧ fv v fun v => resO T env h r fun vs => K (v :: vs)
    | .ptr (some (i, off)), .agg => ∃ cs, Cells h i off (T.at_ t).size cs ∧ resO T env h r fun vs => K (.agg cs :: vs)
    | _, _ => False)
def bodyX (T : TT) (rs : List ResultVar) (Q : V → H → Prop) : X → Env → H → Prop
  | .exit _, _, _ => False
  | _, env, h => resO T env h rs fun vs => match vs with
    | [v] => Q v h
    | vs => Q (.tup vs) h
def opsOk (N : Nat) (ops : Array Oper) : Bool := ops.toList.all fun o => match o.dst with
  | some d => Nat.blt d N
  | none => true
/-- all temporaries that are written lie in the frame. -/
def codeOk (N : Nat) : Code → Bool
  | .region _ ops _ => opsOk N ops
  | .seq a b => codeOk N a && codeOk N b
  | .cond _ a b => codeOk N a && codeOk N b
  | .block _ c => codeOk N c
  | .loop c => codeOk N c
  | _ => true
def argsE : Nat → List V → Env
  | _, [] => []
  | i, v :: vs => (i, v) :: argsE (i + 1) vs
end Go.Ab
