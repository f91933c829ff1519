/- Rows of numbers that are written one behind the other, by either make; messages. -/
import Derived.Test.YtnpfdppmpmnhbaaM4
set_option linter.unusedVariables false
namespace Go.Proofs.Ytnpfdppmpmnhbaa
open Go Go.Ab
/-! ### What is written -/
def fitP (ps : List (Nat × Int)) : Bool := ps.all fun q => decide (0 ≤ q.2 ∧ q.2 < 2 ^ (8 * q.1))
def bytesP (ps : List (Nat × Int)) : List Int := ps.flatMap fun q => be q.2 q.1
theorem fitP_append (ps qs : List (Nat × Int)) : fitP (ps ++ qs) = (fitP ps && fitP qs) := List.all_append
theorem bytesP_append (ps qs : List (Nat × Int)) : bytesP (ps ++ qs) = bytesP ps ++ bytesP qs := List.flatMap_append
theorem fitP_map (k : Nat) (vs : List Int) : fitP (vs.map fun v => (k, v)) = true ↔ Fit k vs := by
  simp [fitP, Fit]
theorem bytesP_map (k : Nat) (vs : List Int) : bytesP (vs.map fun v => (k, v)) = flatB k vs := by
  unfold bytesP flatB
  rw [List.flatMap_map]
theorem bytesP_bts (ps : List (Nat × Int)) : Bts (bytesP ps) := by
  intro x hx
  rw [bytesP, List.mem_flatMap] at hx
  obtain ⟨q, _, h⟩ := hx
  exact be_bts _ _ x h
/-- the state of a writer that wrote these -/
structure Wst (ps : List (Nat × Int)) (xs : List Int) (sp : Bool) : Prop where
  hsp : sp = !fitP ps
  hxs : sp = false → xs = bytesP ps
  len : xs.length ≤ 7 * ps.length
  bts : Bts xs
theorem Wst.nil : Wst [] [] false := ⟨rfl, fun _ => rfl, Nat.zero_le _, fun _ k => by cases k⟩
theorem bad_yes {k : Nat} (hk : k ≤ 7) {v : Int} (h : ¬ (0 ≤ v ∧ v < 2 ^ (8 * k))) : bad k v = true := by
  rw [bad, shr_eq hk]
  by_cases h0 : v < 0
  · simp [h0]
  · have h1 : 2 ^ (8 * k) ≤ v := by omega
    have hp : (0 : Int) < 2 ^ (8 * k) := (pow_le hk).1
    have : 0 < v / 2 ^ (8 * k) := by
      have := Int.ediv_le_ediv hp h1
      rw [Int.ediv_self (Int.ne_of_gt hp)] at this
      omega
    rw [decide_eq_true this, Bool.or_true]
theorem numsGo_unfit {k : Nat} (hk : k ≤ 7) : ∀ (vs xs : List Int) (sp : Bool), ¬ Fit k vs → (numsGo k vs xs sp).2 = true
  | [], _, _, h => absurd (fun _ k => by cases k) h
  | v :: vs, xs, sp, h => by
    rw [numsGo]
    by_cases hv : 0 ≤ v ∧ v < 2 ^ (8 * k)
    · rw [bad_no hk hv.1 hv.2, if_neg (by decide)]
      exact numsGo_unfit hk vs _ sp (fun hf => h (fun y hy => by
        rcases List.mem_cons.1 hy with rfl | hy
        · exact hv
        · exact hf y hy))
    · rw [bad_yes hk hv, if_pos rfl]
theorem Wst.prog {ps : List (Nat × Int)} {xs : List Int} {sp : Bool} (w : Wst ps xs sp) {k : Nat} (h1 : 1 ≤ k) (h7 : k ≤ 7) (vs : List Int) : Wst (ps ++ vs.map fun v => (k, v)) (numsV k vs xs sp).1 (numsV k vs xs sp).2 := by
  have hl := numsV_len k vs xs sp
  have hlen := w.len
  have key : (numsV k vs xs sp).2 = !fitP (ps ++ vs.map fun v => (k, v)) ∧ ((numsV k vs xs sp).2 = false → (numsV k vs xs sp).1 = bytesP (ps ++ vs.map fun v => (k, v))) := by
    rw [fitP_append, bytesP_append, bytesP_map]
    by_cases hf : Fit k vs
    · rw [(fitP_map k vs).2 hf, Bool.and_true]
      cases hs : sp with
      | true =>
        rw [numsV_spoilt, ← w.hsp, hs]
        exact ⟨rfl, fun e => by cases e⟩
      | false =>
        rw [numsV_all h1 h7 vs xs hf, ← w.hsp, hs, w.hxs hs]
        exact ⟨rfl, fun _ => rfl⟩
    · have e1 : fitP (vs.map fun v => (k, v)) = false := by
        cases e : fitP (vs.map fun v => (k, v)) with
        | false => rfl
        | true => exact absurd ((fitP_map k vs).1 e) hf
      have e2 : (numsV k vs xs sp).2 = true := by
        rw [numsV, small_no h1 h7, if_neg (by decide)]
        exact numsGo_unfit h7 vs xs sp hf
      rw [e1, e2, Bool.and_false]
      exact ⟨rfl, fun e => by cases e⟩
  refine ⟨key.1, key.2, ?_, hl.2 w.bts⟩
  rw [List.length_append, List.length_map]
  omega
theorem Wst.ref {ps : List (Nat × Int)} {xs : List Int} {sp : Bool} (w : Wst ps xs sp) {k : Nat} (h1 : 1 ≤ k) (h7 : k ≤ 7) (v : Int) : Wst (ps ++ [(k, v)]) (if misfit k v then xs else xs ++ be v (k : Int).toNat) (misfit k v || sp) := by
  have hb := bad_misfit (k := k) (v := v) (small_no h1 h7)
  have hlen := w.len
  have hf : fitP [(k, v)] = !misfit k v := by
    rw [← hb]
    by_cases hv : 0 ≤ v ∧ v < 2 ^ (8 * k)
    · rw [bad_no h7 hv.1 hv.2]
      simp [fitP, hv]
    · rw [bad_yes h7 hv]
      simp only [fitP, List.all_cons, List.all_nil, Bool.and_true, decide_eq_false hv]
      rfl
  refine ⟨?_, fun e => ?_, ?_, ?_⟩
  · rw [fitP_append, hf, w.hsp]
    cases misfit k v <;> cases fitP ps <;> rfl
  · rw [Bool.or_eq_false_iff] at e
    rw [e.1, bytesP_append, w.hxs e.2]
    simp [bytesP]
  · rw [List.length_append]
    split
    · omega
    · rw [List.length_append, be_length]
      have : [(k, v)].length = 1 := rfl
      omega
  · split
    · exact w.bts
    · exact w.bts.append (be_bts _ _)
theorem Wst.done {ps : List (Nat × Int)} {xs : List Int} {sp : Bool} (w : Wst ps xs sp) : (if sp then [] else xs) = (if fitP ps then bytesP ps else []) := by
  have h1 := w.hsp
  have h2 := w.hxs
  cases sp with
  | true =>
    have : fitP ps = false := by simpa using h1
    rw [this]
    rfl
  | false =>
    have : fitP ps = true := by simpa using h1
    rw [this]
    exact h2 rfl
/-! ### A writer, and what lies beside it -/
/-- object i, beside the writer -/
def Kp (h : H) (g : Nat) (p : Option (Nat × Nat)) (i : Nat) (ob : Ab.Obj) : Prop := h.obj i = some ob ∧ ¬ foot g p i
theorem Kp.step {h h' : H} {g : Nat} {p p' : Option (Nat × Nat)} {i : Nat} {ob : Ab.Obj} (k : Kp h g p i ob) (f : isFresh h p p') (m : Ab.Mod (foot g p) h h') : Kp h' g p' i ob :=
  ⟨m.get k.1 (.inl k.2), fun c => k.2 (foot_fresh f i (h.lt _ _ k.1) c)⟩
theorem Kp.keep {h h' : H} {g : Nat} {p : Option (Nat × Nat)} {i : Nat} {ob : Ab.Obj} (k : Kp h g p i ob) (m : Ab.Mod none_ h h') : Kp h' g p i ob :=
  ⟨m.get k.1 (.inl (fun k => k)), k.2⟩
theorem Kp.push {h : H} {g : Nat} {p : Option (Nat × Nat)} {xs : List Int} {sp : Bool} (w : WtrP h g p xs sp) (ob : Ab.Obj) : Kp (h.push ob) g p h.next ob :=
  ⟨H.obj_push_new _ _, fun c => by
    have := w.foot_lt c
    omega⟩
theorem Kp.nums {h : H} {g : Nat} {p : Option (Nat × Nat)} {i n : Nat} {vs : List Int} {o : Bool} (k : Kp h g p i (.row o 1 (ints .i64 vs))) (hn : vs.length = n) : Nums (foot g p) h (some (i, 0)) n vs := row_nums k.1 hn k.2
theorem NewW.step' {h0 h h' : H} {g : Nat} {p p' : Option (Nat × Nat)} {xs ys : List Int} {sp sp' : Bool} (w : NewW h0 h g p xs sp) (w' : WtrP h' g p' ys sp') (f : isFresh h p p') (m : Ab.Mod (foot g p) h h') : NewW h0 h' g p' ys sp' := by
  have hn := w.2.2.trans' m (S2 := none_) (fun _ _ k => k) (fun i hi k => by
    have := w.2.1 i k
    omega)
  refine ⟨w', fun i k => ?_, hn⟩
  by_cases hi : i < h.next
  · exact w.2.1 i (foot_fresh f i hi k)
  · have := w.2.2.next
    omega
/-- a slice that was there ahead of the writer -/
theorem NewW.nums {h0 h : H} {g : Nat} {p q : Option (Nat × Nat)} {n : Nat} {xs vs : List Int} {sp : Bool} (w : NewW h0 h g p xs sp) (s : SlIs h0 q n false 1 (ints .i64 vs)) : Nums (foot g p) h q n vs := by
  refine ⟨SlIs.old s w.2.2 (fun _ _ k => k), ?_⟩
  rcases s.2 with ⟨k, _⟩ | ⟨i, o, o', r, rfl, e2, _⟩
  · exact .inl k
  · refine .inr (fun i' o2 e => .inl (fun c => ?_))
    injection e with e
    injection e with e
    subst e
    have := w.2.1 _ c
    have := h0.lt _ _ e2
    omega
theorem twoNum (v u : Int) : Obj.row true (T.at_ 3).size (splice (splice (zerosV 2 (vcells (T.at_ 3).zero)) (0 * (T.at_ 3).size) (vcells (V.int .i64 v))) (1 * (T.at_ 3).size) (vcells (V.int .i64 u))) = .row true 1 (ints .i64 [v, u]) := rfl
/-! ### Messages -/
structure Msg where
  k : Int
  p : Int
  d : Int
  ep : Option (Nat × Nat)
  es : List Int
  w : Int
  c : Int
  e : Int
  f : Int
  l : Int
def Msg.cells (m : Msg) : List V := [i64 m.k, i64 m.p, i64 m.d, .sl m.ep m.es.length, i64 m.w, i64 m.c, i64 m.e, i64 m.f, i64 m.l]
def Msg.ok (h : H) (m : Msg) : Prop := SlIs h m.ep m.es.length false 1 (ints .i64 m.es) ∧ -9223372036854775808 ≤ m.e ∧ m.e ≤ 9223372036854775807 ∧ m.es.length ≤ 100000
def tailP (m : Msg) : List (Nat × Int) :=
  if m.k = 1 then [(2, m.p), (2, m.d)]
  else if m.k = 2 ∨ m.k = 9 then [(2, m.p)]
  else if m.k = 5 then (5, m.w) :: (2, (m.es.length : Int)) :: m.es.map fun v => (2, v)
  else if m.k = 7 then [(1, m.c), (2, IntKind.i64.wrap (m.e + 1)), (5, m.f), (5, m.l)]
  else []
def parts (m : Msg) : List (Nat × Int) := (1, m.k) :: tailP m
def knd (m : Msg) : Bool := decide (1 ≤ m.k ∧ m.k ≤ 9) && (m.k != 5 || decide (m.es.length ≤ 512))
def encOk (m : Msg) : Bool := knd m && fitP (parts m)
def encB (m : Msg) : List Int := if encOk m then bytesP (parts m) else []
theorem encB_bts (m : Msg) : Bts (encB m) := by
  unfold encB
  split
  · exact bytesP_bts _
  · exact fun _ k => by cases k
theorem parts_len (m : Msg) : (parts m).length ≤ 5 + m.es.length := by
  unfold parts tailP
  split
  · simp only [List.length_cons, List.length_nil]
    omega
  · split
    · simp only [List.length_cons, List.length_nil]
      omega
    · split
      · simp only [List.length_cons, List.length_map]
        omega
      · split
        · simp only [List.length_cons, List.length_nil]
          omega
        · simp only [List.length_cons, List.length_nil]
          omega
end Go.Proofs.Ytnpfdppmpmnhbaa
