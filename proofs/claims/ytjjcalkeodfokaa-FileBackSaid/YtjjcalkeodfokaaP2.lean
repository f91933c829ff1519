/- P2: texts of another seat, turned to this one. -/
import Derived.Test.YtjjcalkeodfokaaP1
set_option linter.unusedVariables false
namespace Go.Proofs.Ytjjcalkeodfokaa
open Go Go.Ab
def fitP (ps : List (Nat × Int)) : Bool := ps.all fun q => decide (0 ≤ q.2 ∧ q.2 < 2 ^ (8 * q.1))
def bytesP (ps : List (Nat × Int)) : List Int := ps.flatMap fun q => be q.2 q.1
theorem fitP_append (ps qs : List (Nat × Int)) : fitP (ps ++ qs) = (fitP ps && fitP qs) := List.all_append
theorem bytesP_append (ps qs : List (Nat × Int)) : bytesP (ps ++ qs) = bytesP ps ++ bytesP qs := List.flatMap_append
theorem fitP_map (k : Nat) (vs : List Int) : fitP (vs.map fun v => (k, v)) = true ↔ Fit k vs := by
  simp [fitP, Fit]
theorem bytesP_map (k : Nat) (vs : List Int) : bytesP (vs.map fun v => (k, v)) = flatB k vs := by
  unfold bytesP flatB
  rw [List.flatMap_map]
theorem bytesP_bts (ps : List (Nat × Int)) : Bts (bytesP ps) := by
  intro x hx
  rw [bytesP, List.mem_flatMap] at hx
  obtain ⟨q, _, h⟩ := hx
  exact be_bts _ _ x h
/-- the state of a writer that wrote these -/
structure Wst (ps : List (Nat × Int)) (xs : List Int) (sp : Bool) : Prop where
  hsp : sp = !fitP ps
  hxs : sp = false → xs = bytesP ps
  len : xs.length ≤ 7 * ps.length
  bts : Bts xs
theorem Wst.nil : Wst [] [] false := ⟨rfl, fun _ => rfl, Nat.zero_le _, fun _ k => by cases k⟩
theorem bad_yes {k : Nat} (hk : k ≤ 7) {v : Int} (h : ¬ (0 ≤ v ∧ v < 2 ^ (8 * k))) : bad k v = true := by
  rw [bad, shr_eq hk]
  by_cases h0 : v < 0
  · simp [h0]
  · have h1 : 2 ^ (8 * k) ≤ v := by omega
    have hp : (0 : Int) < 2 ^ (8 * k) := (pow_le hk).1
    have : 0 < v / 2 ^ (8 * k) := by
      have := Int.ediv_le_ediv hp h1
      rw [Int.ediv_self (Int.ne_of_gt hp)] at this
      omega
    rw [decide_eq_true this, Bool.or_true]
theorem numsGo_unfit {k : Nat} (hk : k ≤ 7) : ∀ (vs xs : List Int) (sp : Bool), ¬ Fit k vs → (numsGo k vs xs sp).2 = true
  | [], _, _, h => absurd (fun _ k => by cases k) h
  | v :: vs, xs, sp, h => by
    rw [numsGo]
    by_cases hv : 0 ≤ v ∧ v < 2 ^ (8 * k)
    · rw [bad_no hk hv.1 hv.2, if_neg (by decide)]
      exact numsGo_unfit hk vs _ sp (fun hf => h (fun y hy => by
        rcases List.mem_cons.1 hy with rfl | hy
        · exact hv
        · exact hf y hy))
    · rw [bad_yes hk hv, if_pos rfl]
theorem Wst.prog {ps : List (Nat × Int)} {xs : List Int} {sp : Bool} (w : Wst ps xs sp) {k : Nat} (h1 : 1 ≤ k) (h7 : k ≤ 7) (vs : List Int) : Wst (ps ++ vs.map fun v => (k, v)) (numsV k vs xs sp).1 (numsV k vs xs sp).2 := by
  have hl := numsV_len k vs xs sp
  have hlen := w.len
  have key : (numsV k vs xs sp).2 = !fitP (ps ++ vs.map fun v => (k, v)) ∧ ((numsV k vs xs sp).2 = false → (numsV k vs xs sp).1 = bytesP (ps ++ vs.map fun v => (k, v))) := by
    rw [fitP_append, bytesP_append, bytesP_map]
    by_cases hf : Fit k vs
    · rw [(fitP_map k vs).2 hf, Bool.and_true]
      cases hs : sp with
      | true =>
        rw [numsV_spoilt, ← w.hsp, hs]
        exact ⟨rfl, fun e => by cases e⟩
      | false =>
        rw [numsV_all h1 h7 vs xs hf, ← w.hsp, hs, w.hxs hs]
        exact ⟨rfl, fun _ => rfl⟩
    · have e1 : fitP (vs.map fun v => (k, v)) = false := by
        cases e : fitP (vs.map fun v => (k, v)) with
        | false => rfl
        | true => exact absurd ((fitP_map k vs).1 e) hf
      have e2 : (numsV k vs xs sp).2 = true := by
        rw [numsV, small_no h1 h7, if_neg (by decide)]
        exact numsGo_unfit h7 vs xs sp hf
      rw [e1, e2, Bool.and_false]
      exact ⟨rfl, fun e => by cases e⟩
  refine ⟨key.1, key.2, ?_, hl.2 w.bts⟩
  rw [List.length_append, List.length_map]
  omega
theorem Wst.ref {ps : List (Nat × Int)} {xs : List Int} {sp : Bool} (w : Wst ps xs sp) {k : Nat} (h1 : 1 ≤ k) (h7 : k ≤ 7) (v : Int) : Wst (ps ++ [(k, v)]) (if misfit k v then xs else xs ++ be v (k : Int).toNat) (misfit k v || sp) := by
  have hb := bad_misfit (k := k) (v := v) (small_no h1 h7)
  have hlen := w.len
  have hf : fitP [(k, v)] = !misfit k v := by
    rw [← hb]
    by_cases hv : 0 ≤ v ∧ v < 2 ^ (8 * k)
    · rw [bad_no h7 hv.1 hv.2]
      simp [fitP, hv]
    · rw [bad_yes h7 hv]
      simp only [fitP, List.all_cons, List.all_nil, Bool.and_true, decide_eq_false hv]
      rfl
  refine ⟨?_, fun e => ?_, ?_, ?_⟩
  · rw [fitP_append, hf, w.hsp]
    cases misfit k v <;> cases fitP ps <;> rfl
  · rw [Bool.or_eq_false_iff] at e
    rw [e.1, bytesP_append, w.hxs e.2]
    simp [bytesP]
  · rw [List.length_append]
    split
    · omega
    · rw [List.length_append, be_length]
      have : [(k, v)].length = 1 := rfl
      omega
  · split
    · exact w.bts
    · exact w.bts.append (be_bts _ _)
theorem Wst.done {ps : List (Nat × Int)} {xs : List Int} {sp : Bool} (w : Wst ps xs sp) : (if sp then [] else xs) = (if fitP ps then bytesP ps else []) := by
  have h1 := w.hsp
  have h2 := w.hxs
  cases sp with
  | true =>
    have : fitP ps = false := by simpa using h1
    rw [this]
    rfl
  | false =>
    have : fitP ps = true := by simpa using h1
    rw [this]
    exact h2 rfl
/-- object i, beside the writer -/
def Kp (h : H) (g : Nat) (p : Option (Nat × Nat)) (i : Nat) (ob : Ab.Obj) : Prop := h.obj i = some ob ∧ ¬ foot g p i
theorem Kp.step {h h' : H} {g : Nat} {p p' : Option (Nat × Nat)} {i : Nat} {ob : Ab.Obj} (k : Kp h g p i ob) (f : isFresh h p p') (m : Ab.Mod (foot g p) h h') : Kp h' g p' i ob :=
  ⟨m.get k.1 (.inl k.2), fun c => k.2 (foot_fresh f i (h.lt _ _ k.1) c)⟩
theorem Kp.keep {h h' : H} {g : Nat} {p : Option (Nat × Nat)} {i : Nat} {ob : Ab.Obj} (k : Kp h g p i ob) (m : Ab.Mod none_ h h') : Kp h' g p i ob :=
  ⟨m.get k.1 (.inl (fun k => k)), k.2⟩
theorem Kp.push {h : H} {g : Nat} {p : Option (Nat × Nat)} {xs : List Int} {sp : Bool} (w : WtrP h g p xs sp) (ob : Ab.Obj) : Kp (h.push ob) g p h.next ob :=
  ⟨H.obj_push_new _ _, fun c => by
    have := w.foot_lt c
    omega⟩
theorem Kp.nums {h : H} {g : Nat} {p : Option (Nat × Nat)} {i n : Nat} {vs : List Int} {o : Bool} (k : Kp h g p i (.row o 1 (ints .i64 vs))) (hn : vs.length = n) : Nums (foot g p) h (some (i, 0)) n vs := row_nums k.1 hn k.2
theorem NewW.step' {h0 h h' : H} {g : Nat} {p p' : Option (Nat × Nat)} {xs ys : List Int} {sp sp' : Bool} (w : NewW h0 h g p xs sp) (w' : WtrP h' g p' ys sp') (f : isFresh h p p') (m : Ab.Mod (foot g p) h h') : NewW h0 h' g p' ys sp' := by
  have hn := w.2.2.trans' m (S2 := none_) (fun _ _ k => k) (fun i hi k => by
    have := w.2.1 i k
    omega)
  refine ⟨w', fun i k => ?_, hn⟩
  by_cases hi : i < h.next
  · exact w.2.1 i (foot_fresh f i hi k)
  · have := w.2.2.next
    omega
/-- a slice that was there ahead of the writer -/
theorem NewW.nums {h0 h : H} {g : Nat} {p q : Option (Nat × Nat)} {n : Nat} {xs vs : List Int} {sp : Bool} (w : NewW h0 h g p xs sp) (s : SlIs h0 q n false 1 (ints .i64 vs)) : Nums (foot g p) h q n vs := by
  refine ⟨SlIs.old s w.2.2 (fun _ _ k => k), ?_⟩
  rcases s.2 with ⟨k, _⟩ | ⟨i, o, o', r, rfl, e2, _⟩
  · exact .inl k
  · refine .inr (fun i' o2 e => .inl (fun c => ?_))
    injection e with e
    injection e with e
    subst e
    have := w.2.1 _ c
    have := h0.lt _ _ e2
    omega
theorem twoNum (v u : Int) : Obj.row true (T.at_ 3).size (splice (splice (zerosV 2 (vcells (T.at_ 3).zero)) (0 * (T.at_ 3).size) (vcells (V.int .i64 v))) (1 * (T.at_ 3).size) (vcells (V.int .i64 u))) = .row true 1 (ints .i64 [v, u]) := rfl
structure Msg where
  k : Int
  p : Int
  d : Int
  ep : Option (Nat × Nat)
  es : List Int
  w : Int
  c : Int
  e : Int
  f : Int
  l : Int
def Msg.cells (m : Msg) : List V := [i64 m.k, i64 m.p, i64 m.d, .sl m.ep m.es.length, i64 m.w, i64 m.c, i64 m.e, i64 m.f, i64 m.l]
def Msg.ok (h : H) (m : Msg) : Prop := SlIs h m.ep m.es.length false 1 (ints .i64 m.es) ∧ -9223372036854775808 ≤ m.e ∧ m.e ≤ 9223372036854775807 ∧ m.es.length ≤ 100000
def tailP (m : Msg) : List (Nat × Int) :=
  if m.k = 1 then [(2, m.p), (2, m.d)]
  else if m.k = 2 ∨ m.k = 9 then [(2, m.p)]
  else if m.k = 5 then (5, m.w) :: (2, (m.es.length : Int)) :: m.es.map fun v => (2, v)
  else if m.k = 7 then [(1, m.c), (2, IntKind.i64.wrap (m.e + 1)), (5, m.f), (5, m.l)]
  else []
def parts (m : Msg) : List (Nat × Int) := (1, m.k) :: tailP m
def knd (m : Msg) : Bool := decide (1 ≤ m.k ∧ m.k ≤ 9) && (m.k != 5 || decide (m.es.length ≤ 512))
def encOk (m : Msg) : Bool := knd m && fitP (parts m)
def encB (m : Msg) : List Int := if encOk m then bytesP (parts m) else []
theorem encB_bts (m : Msg) : Bts (encB m) := by
  unfold encB
  split
  · exact bytesP_bts _
  · exact fun _ k => by cases k
theorem parts_len (m : Msg) : (parts m).length ≤ 5 + m.es.length := by
  unfold parts tailP
  split
  · simp only [List.length_cons, List.length_nil]
    omega
  · split
    · simp only [List.length_cons, List.length_nil]
      omega
    · split
      · simp only [List.length_cons, List.length_map]
        omega
      · split
        · simp only [List.length_cons, List.length_nil]
          omega
        · simp only [List.length_cons, List.length_nil]
          omega
theorem Msg.ok.old {S : Nat → Prop} {h h' : H} {m : Msg} (o : m.ok h) (k : Ab.Mod S h h') (hS : ∀ i, i < h.next → ¬ S i) : m.ok h' := ⟨SlIs.old o.1 k hS, o.2⟩
def EncQ (m : Msg) (h : H) (r : V) (h' : H) : Prop := ∃ q, r = .tup [.sl q (encB m).length, i64 (if encOk m then 0 else 1)] ∧ Oct h' q (encB m).length (encB m) ∧ Ab.Mod none_ h h'
theorem equal58 {h : H} {p q : Option (Nat × Nat)} {n m : Nat} {xs ys : List Int} (o1 : SlIs h p n false 1 (ints .u8 xs)) (b1 : Bts xs) (o2 : SlIs h q m false 1 (ints .u8 ys)) (b2 : Bts ys) : ACalls Try.prog 28 [.sl p n, .sl q m] h (fun r h' => h' = h ∧ r = .bool (xs == ys)) := by
  refine call_ Try.func28 rfl rfl (by kernel_rfl) ?_
  conv => whnf
  refine ⟨_, o1, b1, ?_⟩
  conv => whnf
  refine ⟨_, o2, b2, ?_⟩
  conv => whnf
  exact ⟨rfl, rfl⟩
theorem beq_len_ne {xs ys : List Int} (h : xs.length ≠ ys.length) : (xs == ys) = false := by
  cases e : xs == ys with
  | false => rfl
  | true => exact absurd (congrArg List.length (beq_iff_eq.1 e)) h
theorem beq_get_ne {xs ys : List Int} {j : Nat} (h : xs.getD j 0 ≠ ys.getD j 0) : (xs == ys) = false := by
  cases e : xs == ys with
  | false => rfl
  | true => exact absurd (by rw [beq_iff_eq.1 e]) h
theorem take_succ_eq {xs ys : List Int} {j : Nat} (hx : j < xs.length) (hy : j < ys.length) (h : xs.take j = ys.take j) (e : xs.getD j 0 = ys.getD j 0) : xs.take (j + 1) = ys.take (j + 1) := by
  rw [List.take_add_one, List.take_add_one, h, get_getD hx, get_getD hy, e]
def hintL (m : Msg) : List Int := [m.c, m.e, m.f, m.l]
def sameM (a b : Msg) : Bool := a.k == b.k && (a.p == b.p && (a.d == b.d && (a.es == b.es && (a.w == b.w && hintL a == hintL b))))
structure Canon (m : Msg) : Prop where
  r : m.k ≠ 5 → m.es = [] ∧ m.w = 0
  n : m.k ≠ 7 → m.c = 0 ∧ m.e = 0 ∧ m.f = 0 ∧ m.l = 0
  d : m.k ≠ 1 → m.d = 0
  p : m.k ≠ 1 → m.k ≠ 2 → m.k ≠ 9 → m.p = 0
/-- b is m's bytes, and m has nothing that its kind does not name -/
structure Enc (b : List Int) (m : Msg) : Prop where
  can : Canon m
  ok : encOk m = true
  is : bytesP (parts m) = b
  e1 : -9223372036854775808 ≤ m.e
  e2 : m.e ≤ 9223372036854775807
def eqM (m m1 : Msg) : Prop := m1 = { m with ep := m1.ep }
theorem eqM.mk {m m1 : Msg} (k : m1.k = m.k) (p : m1.p = m.p) (d : m1.d = m.d) (es : m1.es = m.es) (w : m1.w = m.w) (c : m1.c = m.c) (e : m1.e = m.e) (f : m1.f = m.f) (l : m1.l = m.l) : eqM m m1 := by
  cases m
  cases m1
  simp only at k p d es w c e f l
  subst k p d es w c e f l
  rfl
theorem eqM.parts {m m1 : Msg} (h : eqM m m1) : parts m1 = parts m := by
  rw [h]
  rfl
theorem eqM.encOk {m m1 : Msg} (h : eqM m m1) : encOk m1 = encOk m := by
  rw [h]
  rfl
theorem eqM.encB {m m1 : Msg} (h : eqM m m1) : encB m1 = encB m := by
  rw [h]
  rfl
theorem eqM.same {m m1 m2 : Msg} (h1 : eqM m m1) (h2 : eqM m m2) : sameM m1 m2 = true := by
  rw [h1, h2]
  simp [sameM, hintL]
theorem sameM_refl (m : Msg) : sameM m m = true := by simp [sameM]
theorem Enc.encB {b : List Int} {m : Msg} (e : Enc b m) : encB m = b := by
  unfold Proofs.Ytjjcalkeodfokaa.encB
  rw [e.ok, if_pos rfl]
  exact e.is
structure KnR (b xs : List Int) (sp : Bool) (R : Msg → List (Nat × Int)) : Prop where
  bts : Bts xs
  kn : ∀ m, Enc b m → sp = false ∧ xs = bytesP (R m) ∧ fitP (R m) = true
theorem fold_bound : ∀ (ys : List Int) (a : Nat), Bts ys → (a + 1) * 256 ^ ys.length ≤ 72057594037927936 → ∃ n : Nat, ys.foldl shOr (a : Int) = n ∧ n < (a + 1) * 256 ^ ys.length
  | [], a, _, _ => ⟨a, rfl, by simp⟩
  | y :: ys, a, hb, h => by
    have hy := hb y (by simp)
    obtain ⟨z, rfl⟩ := Int.eq_ofNat_of_zero_le hy.1
    have hz : z < 256 := by omega
    rw [List.length_cons, Nat.pow_succ] at h
    have h2 : (a + 1) * 256 ≤ 72057594037927936 := by
      refine Nat.le_trans ?_ h
      rw [Nat.mul_comm (256 ^ ys.length), ← Nat.mul_assoc]
      exact Nat.le_mul_of_pos_right _ (Nat.pow_pos (by decide))
    have e := shOr_eq (n := a) (b := z) (by omega) hz
    have h3 : (a * 256 + z + 1) * 256 ^ ys.length ≤ (a + 1) * (256 ^ ys.length * 256) := by
      rw [Nat.mul_comm (256 ^ ys.length), ← Nat.mul_assoc]
      exact Nat.mul_le_mul_right _ (by omega)
    obtain ⟨n, h4, h5⟩ := fold_bound ys (a * 256 + z) (fun x hx => hb x (by simp [hx])) (Nat.le_trans h3 h)
    refine ⟨n, ?_, ?_⟩
    · rw [List.foldl_cons]
      show ys.foldl shOr (shOr (a : Int) (z : Int)) = n
      rw [e, h4]
    · rw [List.length_cons, Nat.pow_succ]
      exact Nat.lt_of_lt_of_le h5 h3
theorem rawV_len {xs : List Int} {sp : Bool} {k : Nat} : (rawV xs sp (k : Int)).length ≤ k ∧ (Bts xs → Bts (rawV xs sp (k : Int))) ∧ (Bts xs → Bts (rawX xs sp (k : Int))) ∧ (rawX xs sp (k : Int)).length ≤ xs.length := by
  unfold rawV rawX
  split
  · rw [Int.toNat_natCast]
    exact ⟨by rw [List.length_take]; omega, fun h => bts_take h k, fun h => bts_drop h k, by rw [List.length_drop]; omega⟩
  · exact ⟨Nat.zero_le _, fun _ _ k => (by cases k), id, Nat.le_refl _⟩
theorem KnR.num {b xs : List Int} {sp : Bool} {R R' : Msg → List (Nat × Int)} (kr : KnR b xs sp R) {k : Nat} (h1 : 1 ≤ k) (h7 : k ≤ 7) {val : Msg → Int} (hR : ∀ m, Enc b m → R m = (k, val m) :: R' m) {g : Nat} {h h' : H} {v : V} (q : NumQ g xs sp (k : Int) h v h') :
    ∃ (n : Int) (xs' : List Int) (sp' : Bool), v = i64 n ∧ (∀ m, Enc b m → n = val m) ∧ (0 ≤ n ∧ n < 256 ^ k) ∧ Rdr h' g xs' sp' ∧ KnR b xs' sp' R' ∧ xs'.length ≤ xs.length ∧ Ab.Mod (one g) h h' := by
  obtain ⟨e, r, m⟩ := q
  rw [numK_id h1 h7] at e r
  obtain ⟨l1, l2, l3, l4⟩ := rawV_len (xs := xs) (sp := sp) (k := k)
  have hp : 256 ^ k ≤ 256 ^ 7 := Nat.pow_le_pow_right (by decide) h7
  have hp2 : 256 ^ (rawV xs sp (k : Int)).length ≤ 256 ^ k := Nat.pow_le_pow_right (by decide) l1
  have h256 : (256 : Nat) ^ 7 = 72057594037927936 := by decide
  obtain ⟨n, f1, f2⟩ := fold_bound (rawV xs sp (k : Int)) 0 (l2 kr.bts) (by omega)
  have f1 : (rawV xs sp (k : Int)).foldl shOr 0 = (n : Int) := f1
  refine ⟨_, _, _, e, fun m hm => ?_, ?_, r, ⟨l3 kr.bts, fun m hm => ?_⟩, l4, m⟩
  · obtain ⟨s, x, f⟩ := kr.kn m hm
    rw [hR m hm] at x f
    simp only [fitP, List.all_cons, Bool.and_eq_true, decide_eq_true_eq] at f
    have x : xs = be (val m) k ++ bytesP (R' m) := x
    subst x
    subst s
    have := (read_num h1 h7 f.1.1 f.1.2 (bytesP (R' m))).2.2
    rw [numK_id h1 h7] at this
    exact this
  · rw [f1]
    have e2 : (256 : Int) ^ k = ((256 ^ k : Nat) : Int) := by rw [Int.natCast_pow]; rfl
    rw [e2]
    omega
  · obtain ⟨s, x, f⟩ := kr.kn m hm
    rw [hR m hm] at x f
    simp only [fitP, List.all_cons, Bool.and_eq_true, decide_eq_true_eq] at f
    have x : xs = be (val m) k ++ bytesP (R' m) := x
    subst x
    subst s
    obtain ⟨t1, t2, _⟩ := read_num h1 h7 f.1.1 f.1.2 (bytesP (R' m))
    rw [numK_id h1 h7] at t1 t2
    refine ⟨by rw [t1]; rfl, t2, ?_⟩
    exact f.2
theorem KnR.start {b : List Int} (hb : Bts b) : KnR b b false parts := ⟨hb, fun m hm => ⟨rfl, hm.is.symm, by
  have := hm.ok
  rw [encOk, Bool.and_eq_true] at this
  exact this.2⟩⟩
def msg0 : Msg := ⟨0, 0, 0, none, [], 0, 0, 0, 0, 0⟩
/-- what both makes tell of bytes -/
def DecA (b : List Int) (m1 : Msg) (ok : Bool) : Prop := (ok = true ∧ Enc b m1 ∧ ∀ m, Enc b m → eqM m m1) ∨ (ok = false ∧ m1 = msg0 ∧ ∀ m, ¬ Enc b m)
theorem DecA.alike {b : List Int} {m1 m2 : Msg} {o1 o2 : Bool} (a : DecA b m1 o1) (c : DecA b m2 o2) : o1 = o2 ∧ sameM m1 m2 = true := by
  rcases a with ⟨rfl, a1, a2⟩ | ⟨rfl, rfl, a2⟩ <;> rcases c with ⟨rfl, c1, c2⟩ | ⟨rfl, rfl, c2⟩
  · exact ⟨rfl, eqM.same (a2 _ a1) (c2 _ a1)⟩
  · exact absurd a1 (c2 _)
  · exact absurd c1 (a2 _)
  · exact ⟨rfl, sameM_refl _⟩
/-- taken, or not: by what it is written as again -/
theorem decA_yes {b : List Int} {m1 : Msg} (hc : Canon m1) (he : encOk m1 = true) (hb : encB m1 = b) (r1 : -9223372036854775808 ≤ m1.e) (r2 : m1.e ≤ 9223372036854775807) (hk : ∀ m, Enc b m → eqM m m1) : DecA b m1 true := by
  refine .inl ⟨rfl, ⟨hc, he, ?_, r1, r2⟩, hk⟩
  rw [encB, he, if_pos rfl] at hb
  exact hb
theorem decA_no {b : List Int} {m1 : Msg} (h : encOk m1 = false ∨ encB m1 ≠ b) (hk : ∀ m, Enc b m → eqM m m1) : DecA b msg0 false := by
  refine .inr ⟨rfl, rfl, fun m hm => ?_⟩
  have e := hk m hm
  rcases h with h | h
  · rw [e.encOk, hm.ok] at h
    cases h
  · rw [e.encB] at h
    exact h hm.encB
theorem DecA.yes {b : List Int} {m m1 : Msg} {ok : Bool} (a : DecA b m1 ok) (e : Enc b m) : ok = true ∧ eqM m m1 ∧ Enc b m1 := by
  rcases a with ⟨rfl, a1, a2⟩ | ⟨_, _, a2⟩
  · exact ⟨rfl, a2 m e, a1⟩
  · exact absurd e (a2 m)
theorem DecA.no {b : List Int} {m1 : Msg} {ok : Bool} (a : DecA b m1 ok) (e : ∀ m, ¬ Enc b m) : ok = false ∧ m1 = msg0 := by
  rcases a with ⟨rfl, a1, a2⟩ | ⟨a1, a2, _⟩
  · exact absurd a1 (e _)
  · exact ⟨a1, a2⟩
theorem bytesP_length : ∀ ps : List (Nat × Int), (bytesP ps).length = (ps.map (·.1)).sum
  | [] => rfl
  | q :: ps => by
    show (be q.2 q.1 ++ bytesP ps).length = _
    rw [List.length_append, be_length, bytesP_length ps]
    rfl
theorem enc_pos {b : List Int} {m : Msg} (e : Enc b m) : 0 < b.length := by
  rw [← e.is]
  show 0 < (be m.k 1 ++ bytesP (tailP m)).length
  rw [List.length_append, be_length]
  omega
theorem enc_nil (m : Msg) : ¬ Enc [] m := fun e => by
  have := enc_pos e
  cases this
/-- a message that is laid by -/
theorem lay_ {h : H} (m : Msg) : ∃ gm : (h.push (.row true 9 msg0.cells)).obj h.next = some (.row true 9 msg0.cells), ((h.push (.row true 9 msg0.cells)).set h.next (.row true 9 m.cells)).obj h.next = some (.row true 9 m.cells) ∧ Ab.Mod none_ h ((h.push (.row true 9 msg0.cells)).set h.next (.row true 9 m.cells)) := by
  have mp := Mod.push none_ h (.row true 9 msg0.cells)
  have gm : (h.push (.row true 9 msg0.cells)).obj h.next = some (.row true 9 msg0.cells) := H.obj_push_new _ _
  refine ⟨gm, H.obj_set_same gm, ?_⟩
  have ms := Mod.set (S := one h.next) (ob := .row true 9 m.cells) rfl gm rfl
  exact mp.trans' ms (S2 := none_) (fun _ _ k => k) (fun i hi k => absurd hi (by unfold one at k; omega))
def msgA : Msg := ⟨1, 1, 258, none, [], 0, 0, 0, 0, 0⟩
def msgN : Msg := ⟨7, 0, 0, none, [], 0, 9, -1, 0, 0⟩
theorem ok_nil {h : H} {k p d w c e f l : Int} (h1 : -9223372036854775808 ≤ e) (h2 : e ≤ 9223372036854775807) : Msg.ok h ⟨k, p, d, none, [], w, c, e, f, l⟩ := ⟨SlIs.nil _ _ _, h1, h2, Nat.zero_le _⟩
theorem encA : encB msgA = [1, 0, 1, 1, 2] ∧ encOk msgA = true := by decide +kernel
theorem enc0 : encB msg0 = [] ∧ encOk msg0 = false := by decide +kernel
theorem encN : (encB msgN).length = 14 ∧ encOk msgN = true := by decide +kernel
theorem encA' : Enc [1, 0, 1, 1, 2] msgA := by
  refine ⟨⟨fun _ => ⟨rfl, rfl⟩, fun _ => ⟨rfl, rfl, rfl, rfl⟩, fun h => absurd rfl h, fun h => absurd rfl h⟩, encA.2, ?_, by decide, by decide⟩
  have := encA.1
  rw [encB, encA.2, if_pos rfl] at this
  exact this
structure Grm where
  cn : Int
  k : Int
  sq : Int
  ak : Int
  cd : Int
  bp : Option (Nat × Nat)
  bd : List Int
def Grm.cells (m : Grm) : List V := [i64 m.cn, i64 m.k, i64 m.sq, i64 m.ak, i64 m.cd, .sl m.bp m.bd.length]
def Grm.ok (h : H) (m : Grm) : Prop := SlIs h m.bp m.bd.length false 1 (ints .u8 m.bd) ∧ Bts m.bd ∧ m.bd.length ≤ 100000
theorem Grm.ok.old {S : Nat → Prop} {h h' : H} {m : Grm} (o : m.ok h) (k : Ab.Mod S h h') (hS : ∀ i, i < h.next → ¬ S i) : m.ok h' := ⟨SlIs.old o.1 k hS, o.2⟩
theorem Grm.ok.by {S : Nat → Prop} {h h' : H} {m : Grm} (o : m.ok h) (k : Ab.Mod S h h') (hS : ∀ i o, m.bp = some (i, o) → ¬ S i ∨ m.bd.length = 0) : m.ok h' := by
  refine ⟨?_, o.2⟩
  obtain ⟨⟨l, r⟩, _⟩ := o
  refine ⟨l, ?_⟩
  rcases r with r | ⟨i, c, b, cs, e1, e2, e3⟩
  · exact .inl r
  · rcases hS i c e1 with s | s
    · exact .inr ⟨i, c, b, cs, e1, k.get e2 (.inl s), e3⟩
    · exact .inl ⟨s, .inr rfl⟩
theorem Grm.ok.lt {h : H} {m : Grm} (o : m.ok h) : ∀ i c, m.bp = some (i, c) → i < h.next ∨ m.bd.length = 0 := fun i c e => by
  rcases o.1.2 with ⟨r, _⟩ | ⟨i', c', b, cs, e1, e2, _⟩
  · exact .inr r
  · rw [e] at e1
    injection e1 with e1
    injection e1 with e1
    subst e1
    exact .inl (h.lt _ _ e2)
def gtail (m : Grm) : List (Nat × Int) :=
  if m.k = 1 then [(4, m.sq), (4, m.ak)] else if m.k = 2 then [(4, m.ak)] else if m.k = 3 then [(1, m.cd)] else []
def gparts (m : Grm) : List (Nat × Int) := (4, m.cn) :: gtail m
def gbody (m : Grm) : List Int := if m.k = 1 then m.bd else []
def gpay (m : Grm) : List Int := bytesP (gparts m) ++ gbody m
def gknd (m : Grm) : Bool := decide (1 ≤ m.k ∧ m.k ≤ 3)
def gOk (m : Grm) : Bool := gknd m && fitP (gparts m) && decide ((gpay m).length ≤ 2000)
def encG (m : Grm) : List Int := if gOk m then frm 77 3 m.k (gpay m) else []
theorem gtail_1 {m : Grm} (h : m.k = 1) : gtail m = [(4, m.sq), (4, m.ak)] := by rw [gtail, if_pos h]
theorem gtail_2 {m : Grm} (h : m.k = 2) : gtail m = [(4, m.ak)] := by rw [gtail, if_neg (by omega), if_pos h]
theorem gtail_3 {m : Grm} (h : m.k = 3) : gtail m = [(1, m.cd)] := by rw [gtail, if_neg (by omega), if_neg (by omega), if_pos h]
theorem gbody_1 {m : Grm} (h : m.k = 1) : gbody m = m.bd := by rw [gbody, if_pos h]
theorem gbody_n {m : Grm} (h : m.k ≠ 1) : gbody m = [] := by rw [gbody, if_neg h]
theorem gpay_bts {m : Grm} (hb : Bts m.bd) : Bts (gpay m) := by
  refine (bytesP_bts _).append ?_
  unfold gbody
  split
  · exact hb
  · exact fun _ k => by cases k
theorem gparts_len (m : Grm) : (gparts m).length ≤ 3 ∧ (bytesP (gparts m)).length ≤ 12 := by
  rw [bytesP_length]
  unfold gparts gtail
  split
  · exact ⟨show (3 : Nat) ≤ 3 by decide, show (12 : Nat) ≤ 12 by decide⟩
  · split
    · exact ⟨show (2 : Nat) ≤ 3 by decide, show (8 : Nat) ≤ 12 by decide⟩
    · split
      · exact ⟨show (2 : Nat) ≤ 3 by decide, show (5 : Nat) ≤ 12 by decide⟩
      · exact ⟨show (1 : Nat) ≤ 3 by decide, show (4 : Nat) ≤ 12 by decide⟩
theorem gpay_len (m : Grm) : (gpay m).length ≤ 12 + m.bd.length := by
  have := (gparts_len m).2
  rw [gpay, List.length_append]
  unfold gbody
  split
  · omega
  · simp only [List.length_nil]
    omega
theorem gk_byte {m : Grm} (h : gknd m = true) : 0 ≤ m.k ∧ m.k < 256 := by
  simp only [gknd, decide_eq_true_eq] at h
  omega
theorem encG_bts {m : Grm} (hb : Bts m.bd) : Bts (encG m) := by
  unfold encG
  split
  · rename_i h
    simp only [gOk, Bool.and_eq_true] at h
    exact frm_bts (by decide) (by decide) (gk_byte h.1.1) (gpay_bts hb)
  · exact fun _ k => by cases k
theorem encG_len (m : Grm) : (encG m).length ≤ 21 + m.bd.length := by
  unfold encG
  split
  · rw [frm_length]
    have := gpay_len m
    omega
  · exact Nat.zero_le _
theorem un_encG {m : Grm} (h : gOk m = true) : unV (encG m) = (m.k, gpay m, 0) := by
  rw [encG, h, if_pos rfl]
  simp only [gOk, Bool.and_eq_true, decide_eq_true_eq] at h
  rw [un_frm h.2]
  rfl
theorem un_inv {b : List Int} (bb : Bts b) {k : Int} {xs : List Int} (h : unV b = (k, xs, 0)) : b = frm 77 3 k xs ∧ xs.length ≤ 2000 ∧ Bts xs ∧ 0 ≤ k ∧ k < 256 := by
  unfold unV at h
  split at h
  · cases h
  · rename_i h1
    split at h
    · cases h
    · rename_i h2
      split at h
      · cases h
      · rename_i h3
        injection h with hk h
        injection h with hx _
        simp only [Bool.or_eq_true, not_or, bne_iff_ne, ne_eq, Decidable.not_not, decide_eq_true_eq] at h1 h2
        obtain ⟨⟨⟨h9, h77⟩, hl⟩, hs⟩ := h1
        have b3 := bts_getD bb 3
        have b4 := bts_getD bb 4
        have b2 := bts_getD bb 2
        have hN : (unN b : Int) = b.getD 3 0 * 256 + b.getD 4 0 := by
          unfold unN
          omega
        have hxl : xs.length = unN b := by
          rw [← hx, List.length_take, List.length_drop]
          omega
        have e5 : b.take 5 = hd 77 3 k xs.length := by
          obtain ⟨a0, a1, a2, a3, a4, rest, rfl⟩ := split5 (xs := b) (by omega)
          have g0 : a0 = 77 := h77
          have g1 : a1 = 3 := h2
          have g2 : a2 = k := hk
          have hN : (unN (a0 :: a1 :: a2 :: a3 :: a4 :: rest) : Int) = a3 * 256 + a4 := hN
          have b3 : 0 ≤ a3 ∧ a3 < 256 := b3
          have b4 : 0 ≤ a4 ∧ a4 < 256 := b4
          rw [g0, g1, g2, hxl]
          show [77, 3, k, a3, a4] = _
          unfold hd
          have e : ((unN (a0 :: a1 :: a2 :: a3 :: a4 :: rest) : Nat) : Int).fdiv (2 ^ (min (8 : Int).toNat IntKind.i64.bits)) = ((unN (a0 :: a1 :: a2 :: a3 :: a4 :: rest) : Nat) : Int) / 256 := Int.fdiv_eq_ediv_of_nonneg _ (by decide)
          rw [wrap_u8_eq, wrap_u8_eq, ← g0, ← g1, ← g2, e, hN]
          have q1 : (a3 * 256 + a4) / 256 % 256 = a3 := by omega
          have q2 : (a3 * 256 + a4) % 256 = a4 := by omega
          rw [q1, q2]
        have e6 : b.take (unN b + 5) = hd 77 3 k xs.length ++ xs := by
          rw [← e5, ← hx, Nat.add_comm, List.take_add]
        refine ⟨?_, by omega, ?_, by omega, by omega⟩
        · rw [frm, ← e6, hs, List.take_append_drop]
        · rw [← hx]
          exact bts_take (bts_drop bb 5) _
theorem be_of_fold : ∀ (ys : List Int) (a : Nat), Bts ys → (a + 1) * 256 ^ ys.length ≤ 72057594037927936 → ∃ n : Nat, ys.foldl shOr (a : Int) = n ∧ n < (a + 1) * 256 ^ ys.length ∧ n / 256 ^ ys.length = a ∧ be (n : Int) ys.length = ys
  | [], a, _, _ => ⟨a, rfl, by simp, by simp, rfl⟩
  | y :: ys, a, hb, h => by
    have hy := hb y (by simp)
    obtain ⟨z, rfl⟩ := Int.eq_ofNat_of_zero_le hy.1
    have hz : z < 256 := by omega
    have hP : 0 < 256 ^ ys.length := Nat.pow_pos (by decide)
    rw [List.length_cons, Nat.pow_succ] at h
    have h2 : (a + 1) * 256 ≤ 72057594037927936 := by
      refine Nat.le_trans ?_ h
      rw [Nat.mul_comm (256 ^ ys.length), ← Nat.mul_assoc]
      exact Nat.le_mul_of_pos_right _ hP
    have e := shOr_eq (n := a) (b := z) (by omega) hz
    have h3 : (a * 256 + z + 1) * 256 ^ ys.length ≤ (a + 1) * (256 ^ ys.length * 256) := by
      rw [Nat.mul_comm (256 ^ ys.length), ← Nat.mul_assoc]
      exact Nat.mul_le_mul_right _ (by omega)
    obtain ⟨n, h4, h5, h6, h7⟩ := be_of_fold ys (a * 256 + z) (fun x hx => hb x (by simp [hx])) (Nat.le_trans h3 h)
    have h8 : n / 256 ^ (ys.length + 1) = a := by
      rw [Nat.pow_succ, ← Nat.div_div_eq_div_mul, h6]
      omega
    refine ⟨n, ?_, ?_, ?_, ?_⟩
    · rw [List.foldl_cons]
      show ys.foldl shOr (shOr (a : Int) (z : Int)) = n
      rw [e, h4]
    · rw [List.length_cons, Nat.pow_succ]
      exact Nat.lt_of_lt_of_le h5 h3
    · rw [List.length_cons]
      exact h8
    · rw [List.length_cons]
      have hl : ys.length ≤ 7 := by
        rcases Nat.lt_or_ge 7 ys.length with hlt | hge
        · have : 256 ^ 8 ≤ 256 ^ ys.length := Nat.pow_le_pow_right (by decide) hlt
          have e8 : (256 : Nat) ^ 8 = 18446744073709551616 := by decide
          have : 256 ^ ys.length ≤ (a + 1) * (256 ^ ys.length * 256) := by
            rw [Nat.mul_comm (256 ^ ys.length), ← Nat.mul_assoc]
            exact Nat.le_mul_of_pos_left _ (by omega)
          omega
        · exact hge
      show oct (n : Int) (ys.length : Nat) :: be (n : Int) ys.length = _
      rw [oct_eq hl, h6, h7]
      congr 1
      omega
/-- a number that was read, with nothing wrong -/
theorem back_pure {xs : List Int} {sp : Bool} (hb : Bts xs) {k : Nat} (h7 : k ≤ 7) :
    (0 ≤ (rawV xs sp (k : Int)).foldl shOr 0 ∧ (rawV xs sp (k : Int)).foldl shOr 0 < 2 ^ (8 * k)) ∧ ((!rawOk xs sp (k : Int)) = false → sp = false ∧ xs = be ((rawV xs sp (k : Int)).foldl shOr 0) k ++ rawX xs sp (k : Int)) := by
  obtain ⟨l1, l2, l3, l4⟩ := rawV_len (xs := xs) (sp := sp) (k := k)
  have hp : 256 ^ k ≤ 256 ^ 7 := Nat.pow_le_pow_right (by decide) h7
  have hp2 : 256 ^ (rawV xs sp (k : Int)).length ≤ 256 ^ k := Nat.pow_le_pow_right (by decide) l1
  have h256 : (256 : Nat) ^ 7 = 72057594037927936 := by decide
  obtain ⟨n, f1, f2, _, f4⟩ := be_of_fold (rawV xs sp (k : Int)) 0 (l2 hb) (by omega)
  have f1 : (rawV xs sp (k : Int)).foldl shOr 0 = (n : Int) := f1
  have e2 : (2 : Int) ^ (8 * k) = ((256 ^ k : Nat) : Int) := by
    rw [Int.pow_mul, Int.natCast_pow]
    rfl
  refine ⟨?_, fun hs => ?_⟩
  · rw [f1, e2]
    omega
  · have hr : rawOk xs sp (k : Int) = true := by simpa using hs
    rw [f1]
    rw [rawV, hr, if_pos rfl, Int.toNat_natCast] at f4
    rw [rawX, hr, if_pos rfl, Int.toNat_natCast]
    simp only [rawOk, Bool.and_eq_true, Bool.not_eq_true', decide_eq_true_eq] at hr
    have hl : (xs.take k).length = k := by
      rw [List.length_take]
      omega
    rw [hl] at f4
    exact ⟨hr.1.1, by rw [f4, List.take_append_drop]⟩
end Go.Proofs.Ytjjcalkeodfokaa
