/- GE3: texts of another seat, turned to this one. -/
import Derived.Test.YtmififfaljihgaaGreatGE2
set_option linter.unusedVariables false
set_option linter.unusedSimpArgs false
namespace Go.Proofs.YtmififfaljihgaaGreat
open Go Go.Ab Go.Shelf
def fitP (ps : List (Nat × Int)) : Bool := ps.all fun q => decide (0 ≤ q.2 ∧ q.2 < 2 ^ (8 * q.1))
def bytesP (ps : List (Nat × Int)) : List Int := ps.flatMap fun q => be q.2 q.1
theorem fitP_append (ps qs : List (Nat × Int)) : fitP (ps ++ qs) = (fitP ps && fitP qs) := List.all_append
theorem bytesP_append (ps qs : List (Nat × Int)) : bytesP (ps ++ qs) = bytesP ps ++ bytesP qs := List.flatMap_append
theorem fitP_map (k : Nat) (vs : List Int) : fitP (vs.map fun v => (k, v)) = true ↔ Fit k vs := by
  simp [fitP, Fit]
theorem bytesP_map (k : Nat) (vs : List Int) : bytesP (vs.map fun v => (k, v)) = flatB k vs := by
  unfold bytesP flatB
  rw [List.flatMap_map]
theorem bytesP_bts (ps : List (Nat × Int)) : Bts (bytesP ps) := by
  intro x hx
  rw [bytesP, List.mem_flatMap] at hx
  obtain ⟨q, _, h⟩ := hx
  exact be_bts _ _ x h
/-- the state of a writer that wrote these -/
structure Wst (ps : List (Nat × Int)) (xs : List Int) (sp : Bool) : Prop where
  hsp : sp = !fitP ps
  hxs : sp = false → xs = bytesP ps
  len : xs.length ≤ 7 * ps.length
  bts : Bts xs
theorem Wst.nil : Wst [] [] false := ⟨rfl, fun _ => rfl, Nat.zero_le _, fun _ k => by cases k⟩
theorem bad_yes {k : Nat} (hk : k ≤ 7) {v : Int} (h : ¬ (0 ≤ v ∧ v < 2 ^ (8 * k))) : bad k v = true := by
  rw [bad, shr_eq hk]
  by_cases h0 : v < 0
  · simp [h0]
  · have h1 : 2 ^ (8 * k) ≤ v := by omega
    have hp : (0 : Int) < 2 ^ (8 * k) := (pow_le hk).1
    have : 0 < v / 2 ^ (8 * k) := by
      have := Int.ediv_le_ediv hp h1
      rw [Int.ediv_self (Int.ne_of_gt hp)] at this
      omega
    rw [decide_eq_true this, Bool.or_true]
theorem numsGo_unfit {k : Nat} (hk : k ≤ 7) : ∀ (vs xs : List Int) (sp : Bool), ¬ Fit k vs → (numsGo k vs xs sp).2 = true
  | [], _, _, h => absurd (fun _ k => by cases k) h
  | v :: vs, xs, sp, h => by
    rw [numsGo]
    by_cases hv : 0 ≤ v ∧ v < 2 ^ (8 * k)
    · rw [bad_no hk hv.1 hv.2, if_neg (by decide)]
      exact numsGo_unfit hk vs _ sp (fun hf => h (fun y hy => by
        rcases List.mem_cons.1 hy with rfl | hy
        · exact hv
        · exact hf y hy))
    · rw [bad_yes hk hv, if_pos rfl]
theorem Wst.prog {ps : List (Nat × Int)} {xs : List Int} {sp : Bool} (w : Wst ps xs sp) {k : Nat} (h1 : 1 ≤ k) (h7 : k ≤ 7) (vs : List Int) : Wst (ps ++ vs.map fun v => (k, v)) (numsV k vs xs sp).1 (numsV k vs xs sp).2 := by
  have hl := numsV_len k vs xs sp
  have hlen := w.len
  have key : (numsV k vs xs sp).2 = !fitP (ps ++ vs.map fun v => (k, v)) ∧ ((numsV k vs xs sp).2 = false → (numsV k vs xs sp).1 = bytesP (ps ++ vs.map fun v => (k, v))) := by
    rw [fitP_append, bytesP_append, bytesP_map]
    by_cases hf : Fit k vs
    · rw [(fitP_map k vs).2 hf, Bool.and_true]
      cases hs : sp with
      | true =>
        rw [numsV_spoilt, ← w.hsp, hs]
        exact ⟨rfl, fun e => by cases e⟩
      | false =>
        rw [numsV_all h1 h7 vs xs hf, ← w.hsp, hs, w.hxs hs]
        exact ⟨rfl, fun _ => rfl⟩
    · have e1 : fitP (vs.map fun v => (k, v)) = false := by
        cases e : fitP (vs.map fun v => (k, v)) with
        | false => rfl
        | true => exact absurd ((fitP_map k vs).1 e) hf
      have e2 : (numsV k vs xs sp).2 = true := by
        rw [numsV, small_no h1 h7, if_neg (by decide)]
        exact numsGo_unfit h7 vs xs sp hf
      rw [e1, e2, Bool.and_false]
      exact ⟨rfl, fun e => by cases e⟩
  refine ⟨key.1, key.2, ?_, hl.2 w.bts⟩
  rw [List.length_append, List.length_map]
  omega
theorem Wst.ref {ps : List (Nat × Int)} {xs : List Int} {sp : Bool} (w : Wst ps xs sp) {k : Nat} (h1 : 1 ≤ k) (h7 : k ≤ 7) (v : Int) : Wst (ps ++ [(k, v)]) (if misfit k v then xs else xs ++ be v (k : Int).toNat) (misfit k v || sp) := by
  have hb := bad_misfit (k := k) (v := v) (small_no h1 h7)
  have hlen := w.len
  have hf : fitP [(k, v)] = !misfit k v := by
    rw [← hb]
    by_cases hv : 0 ≤ v ∧ v < 2 ^ (8 * k)
    · rw [bad_no h7 hv.1 hv.2]
      simp [fitP, hv]
    · rw [bad_yes h7 hv]
      simp only [fitP, List.all_cons, List.all_nil, Bool.and_true, decide_eq_false hv]
      rfl
  refine ⟨?_, fun e => ?_, ?_, ?_⟩
  · rw [fitP_append, hf, w.hsp]
    cases misfit k v <;> cases fitP ps <;> rfl
  · rw [Bool.or_eq_false_iff] at e
    rw [e.1, bytesP_append, w.hxs e.2]
    simp [bytesP]
  · rw [List.length_append]
    split
    · omega
    · rw [List.length_append, be_length]
      have : [(k, v)].length = 1 := rfl
      omega
  · split
    · exact w.bts
    · exact w.bts.append (be_bts _ _)
theorem Wst.done {ps : List (Nat × Int)} {xs : List Int} {sp : Bool} (w : Wst ps xs sp) : (if sp then [] else xs) = (if fitP ps then bytesP ps else []) := by
  have h1 := w.hsp
  have h2 := w.hxs
  cases sp with
  | true =>
    have : fitP ps = false := by simpa using h1
    rw [this]
    rfl
  | false =>
    have : fitP ps = true := by simpa using h1
    rw [this]
    exact h2 rfl
/-- object i, beside the writer -/
def Kp (h : H) (g : Nat) (p : Option (Nat × Nat)) (i : Nat) (ob : Ab.Obj) : Prop := h.obj i = some ob ∧ ¬ foot g p i
theorem Kp.step {h h' : H} {g : Nat} {p p' : Option (Nat × Nat)} {i : Nat} {ob : Ab.Obj} (k : Kp h g p i ob) (f : isFresh h p p') (m : Ab.Mod (foot g p) h h') : Kp h' g p' i ob :=
  ⟨m.get k.1 (.inl k.2), fun c => k.2 (foot_fresh f i (h.lt _ _ k.1) c)⟩
theorem Kp.keep {h h' : H} {g : Nat} {p : Option (Nat × Nat)} {i : Nat} {ob : Ab.Obj} (k : Kp h g p i ob) (m : Ab.Mod none_ h h') : Kp h' g p i ob :=
  ⟨m.get k.1 (.inl (fun k => k)), k.2⟩
theorem Kp.push {h : H} {g : Nat} {p : Option (Nat × Nat)} {xs : List Int} {sp : Bool} (w : WtrP h g p xs sp) (ob : Ab.Obj) : Kp (h.push ob) g p h.next ob :=
  ⟨H.obj_push_new _ _, fun c => by
    have := w.foot_lt c
    omega⟩
theorem Kp.nums {h : H} {g : Nat} {p : Option (Nat × Nat)} {i n : Nat} {vs : List Int} {o : Bool} (k : Kp h g p i (.row o 1 (ints .i64 vs))) (hn : vs.length = n) : Nums (foot g p) h (some (i, 0)) n vs := row_nums k.1 hn k.2
theorem NewW.step' {h0 h h' : H} {g : Nat} {p p' : Option (Nat × Nat)} {xs ys : List Int} {sp sp' : Bool} (w : NewW h0 h g p xs sp) (w' : WtrP h' g p' ys sp') (f : isFresh h p p') (m : Ab.Mod (foot g p) h h') : NewW h0 h' g p' ys sp' := by
  have hn := w.2.2.trans' m (S2 := none_) (fun _ _ k => k) (fun i hi k => by
    have := w.2.1 i k
    omega)
  refine ⟨w', fun i k => ?_, hn⟩
  by_cases hi : i < h.next
  · exact w.2.1 i (foot_fresh f i hi k)
  · have := w.2.2.next
    omega
/-- a slice that was there ahead of the writer -/
theorem NewW.nums {h0 h : H} {g : Nat} {p q : Option (Nat × Nat)} {n : Nat} {xs vs : List Int} {sp : Bool} (w : NewW h0 h g p xs sp) (s : SlIs h0 q n false 1 (ints .i64 vs)) : Nums (foot g p) h q n vs := by
  refine ⟨SlIs.old s w.2.2 (fun _ _ k => k), ?_⟩
  rcases s.2 with ⟨k, _⟩ | ⟨i, o, o', r, rfl, e2, _⟩
  · exact .inl k
  · refine .inr (fun i' o2 e => .inl (fun c => ?_))
    injection e with e
    injection e with e
    subst e
    have := w.2.1 _ c
    have := h0.lt _ _ e2
    omega
theorem twoNum (v u : Int) : Obj.row true (T.at_ 3).size (splice (splice (zerosV 2 (vcells (T.at_ 3).zero)) (0 * (T.at_ 3).size) (vcells (V.int .i64 v))) (1 * (T.at_ 3).size) (vcells (V.int .i64 u))) = .row true 1 (ints .i64 [v, u]) := rfl
structure Msg where
  k : Int
  p : Int
  d : Int
  ep : Option (Nat × Nat)
  es : List Int
  w : Int
  c : Int
  e : Int
  f : Int
  l : Int
def Msg.cells (m : Msg) : List V := [i64 m.k, i64 m.p, i64 m.d, .sl m.ep m.es.length, i64 m.w, i64 m.c, i64 m.e, i64 m.f, i64 m.l]
def Msg.ok (h : H) (m : Msg) : Prop := SlIs h m.ep m.es.length false 1 (ints .i64 m.es) ∧ -9223372036854775808 ≤ m.e ∧ m.e ≤ 9223372036854775807 ∧ m.es.length ≤ 100000
def tailP (m : Msg) : List (Nat × Int) :=
  if m.k = 1 then [(2, m.p), (2, m.d)]
  else if m.k = 2 ∨ m.k = 9 then [(2, m.p)]
  else if m.k = 5 then (5, m.w) :: (2, (m.es.length : Int)) :: m.es.map fun v => (2, v)
  else if m.k = 7 then [(1, m.c), (2, IntKind.i64.wrap (m.e + 1)), (5, m.f), (5, m.l)]
  else []
def parts (m : Msg) : List (Nat × Int) := (1, m.k) :: tailP m
def knd (m : Msg) : Bool := decide (1 ≤ m.k ∧ m.k ≤ 9) && (m.k != 5 || decide (m.es.length ≤ 512))
def encOk (m : Msg) : Bool := knd m && fitP (parts m)
def encB (m : Msg) : List Int := if encOk m then bytesP (parts m) else []
theorem encB_bts (m : Msg) : Bts (encB m) := by
  unfold encB
  split
  · exact bytesP_bts _
  · exact fun _ k => by cases k
theorem parts_len (m : Msg) : (parts m).length ≤ 5 + m.es.length := by
  unfold parts tailP
  split
  · simp only [List.length_cons, List.length_nil]
    omega
  · split
    · simp only [List.length_cons, List.length_nil]
      omega
    · split
      · simp only [List.length_cons, List.length_map]
        omega
      · split
        · simp only [List.length_cons, List.length_nil]
          omega
        · simp only [List.length_cons, List.length_nil]
          omega
theorem tailP_1 {m : Msg} (h : m.k = 1) : tailP m = [(2, m.p), (2, m.d)] := by simp [tailP, h]
theorem tailP_2 {m : Msg} (h : m.k = 2 ∨ m.k = 9) : tailP m = [(2, m.p)] := by
  rw [tailP, if_neg (by omega), if_pos h]
theorem tailP_5 {m : Msg} (h : m.k = 5) : tailP m = (5, m.w) :: (2, (m.es.length : Int)) :: m.es.map fun v => (2, v) := by
  rw [tailP, if_neg (by omega), if_neg (by omega), if_pos h]
theorem tailP_7 {m : Msg} (h : m.k = 7) : tailP m = [(1, m.c), (2, IntKind.i64.wrap (m.e + 1)), (5, m.f), (5, m.l)] := by
  rw [tailP, if_neg (by omega), if_neg (by omega), if_neg (by omega), if_pos h]
theorem tailP_0 {m : Msg} (h1 : m.k ≠ 1) (h2 : m.k ≠ 2) (h9 : m.k ≠ 9) (h5 : m.k ≠ 5) (h7 : m.k ≠ 7) : tailP m = [] := by
  rw [tailP, if_neg (by omega), if_neg (by omega), if_neg (by omega), if_neg (by omega)]
theorem knd_ne {m : Msg} (h1 : 1 ≤ m.k) (h2 : m.k ≤ 9) (h5 : m.k ≠ 5) : knd m = true := by
  have e : (m.k != 5) = true := by simp [h5]
  rw [knd, e, Bool.true_or, Bool.and_true]
  simp [h1, h2]
theorem knd_5 {m : Msg} (h : m.k = 5) : knd m = decide (m.es.length ≤ 512) := by
  simp [knd, h]
theorem knd_no {m : Msg} (h : ¬ (1 ≤ m.k ∧ m.k ≤ 9)) : knd m = false := by
  rw [knd, decide_eq_false h, Bool.false_and]
def WritesQ (h0 : H) (g : Nat) (m : Msg) (r : V) (h' : H) : Prop := r = .bool (knd m) ∧ ∃ p' xs sp, NewW h0 h' g p' xs sp ∧ (knd m = true → Wst (parts m) xs sp)
theorem writes57 {h0 h : H} {g : Nat} {p : Option (Nat × Nat)} (w : NewW h0 h g p [] false) (m : Msg) (ok : m.ok h0) : ACalls Tryz.prog 92 [.ptr (some (g, 0)), .agg m.cells] h (WritesQ h0 g m) := by
  refine call_ Tryz.func92 rfl rfl (by kernel_rfl) ?_
  conv => whnf
  have kb : Kp _ g p h.next (.row true 9 m.cells) := Kp.push w.1 (.row true 9 m.cells)
  have w := w.keep (Mod.push none_ h (.row true 9 m.cells))
  have st := Wst.nil
  generalize h.next = bx at *
  refine ⟨_, Cell.mk kb.1 rfl, ?_⟩
  conv => whnf
  rw [oneNum]
  have s1 := Kp.push w.1 (.row true 1 (ints .i64 [m.k]))
  have kb := kb.keep (Mod.push none_ _ (.row true 1 (ints .i64 [m.k])))
  have w := w.keep (Mod.push none_ _ (.row true 1 (ints .i64 [m.k])))
  refine (nums19 w.1 (s1.nums rfl) (by
    refine Nat.le_trans st.len ?_
    simp) (by simp) (1 : Nat)).mono ?_
  rintro _ _ ⟨rfl, q, wq, fq, mq⟩
  have kb := kb.step fq mq
  have w := w.step' wq fq mq
  have st := st.prog (k := 1) (by decide) (by decide) [m.k]
  conv => whnf
  refine ⟨_, Cell.mk kb.1 rfl, ?_⟩
  conv => whnf
  refine br_mk (fun h1 => ?_) (fun h1 => ?_)
  · conv => whnf
    simp at h1
    refine ⟨_, Cell.mk kb.1 rfl, ?_⟩
    conv => whnf
    refine ⟨_, Cell.mk kb.1 rfl, ?_⟩
    conv => whnf
    rw [twoNum]
    have s1 := Kp.push w.1 (.row true 1 (ints .i64 [m.p, m.d]))
    have kb := kb.keep (Mod.push none_ _ (.row true 1 (ints .i64 [m.p, m.d])))
    have w := w.keep (Mod.push none_ _ (.row true 1 (ints .i64 [m.p, m.d])))
    refine (nums19 w.1 (s1.nums rfl) (by
      refine Nat.le_trans st.len ?_
      simp) (by simp) (2 : Nat)).mono ?_
    rintro _ _ ⟨rfl, q, wq, fq, mq⟩
    have kb := kb.step fq mq
    have w := w.step' wq fq mq
    have st := st.prog (k := 2) (by decide) (by decide) [m.p, m.d]
    conv => whnf
    refine ⟨_, Cell.mk kb.1 rfl, ?_⟩
    conv => whnf
    refine br_mk (fun hz => ?_) (fun hz => ?_)
    rotate_left
    · simp [h1] at hz
    conv => whnf
    exact ⟨by rw [knd_ne (by omega) (by omega) (by omega)], _, _, _, w, fun _ => by rw [parts, tailP_1 h1]; exact st⟩
  conv => whnf
  refine br_mk (fun h2 => ?_) (fun h2 => ?_)
  · conv => whnf
    simp at h2
    refine br_mk (fun _ => ?_) (fun hz => ?_)
    rotate_left
    · simp [h2] at hz
    conv => whnf
    refine ⟨_, Cell.mk kb.1 rfl, ?_⟩
    conv => whnf
    rw [oneNum]
    have s1 := Kp.push w.1 (.row true 1 (ints .i64 [m.p]))
    have kb := kb.keep (Mod.push none_ _ (.row true 1 (ints .i64 [m.p])))
    have w := w.keep (Mod.push none_ _ (.row true 1 (ints .i64 [m.p])))
    refine (nums19 w.1 (s1.nums rfl) (by
      refine Nat.le_trans st.len ?_
      simp) (by simp) (2 : Nat)).mono ?_
    rintro _ _ ⟨rfl, q, wq, fq, mq⟩
    have kb := kb.step fq mq
    have w := w.step' wq fq mq
    have st := st.prog (k := 2) (by decide) (by decide) [m.p]
    conv => whnf
    refine ⟨_, Cell.mk kb.1 rfl, ?_⟩
    conv => whnf
    refine br_mk (fun hz => ?_) (fun hz => ?_)
    rotate_left
    · simp [h2] at hz
    conv => whnf
    exact ⟨by rw [knd_ne (by omega) (by omega) (by omega)], _, _, _, w, fun _ => by rw [parts, tailP_2 (.inl h2)]; exact st⟩
  conv => whnf
  refine br_mk (fun h9 => ?_) (fun h9 => ?_)
  · conv => whnf
    simp at h9
    refine ⟨_, Cell.mk kb.1 rfl, ?_⟩
    conv => whnf
    rw [oneNum]
    have s1 := Kp.push w.1 (.row true 1 (ints .i64 [m.p]))
    have kb := kb.keep (Mod.push none_ _ (.row true 1 (ints .i64 [m.p])))
    have w := w.keep (Mod.push none_ _ (.row true 1 (ints .i64 [m.p])))
    refine (nums19 w.1 (s1.nums rfl) (by
      refine Nat.le_trans st.len ?_
      simp) (by simp) (2 : Nat)).mono ?_
    rintro _ _ ⟨rfl, q, wq, fq, mq⟩
    have kb := kb.step fq mq
    have w := w.step' wq fq mq
    have st := st.prog (k := 2) (by decide) (by decide) [m.p]
    conv => whnf
    refine ⟨_, Cell.mk kb.1 rfl, ?_⟩
    conv => whnf
    refine br_mk (fun hz => ?_) (fun hz => ?_)
    rotate_left
    · simp [h9] at hz
    conv => whnf
    exact ⟨by rw [knd_ne (by omega) (by omega) (by omega)], _, _, _, w, fun _ => by rw [parts, tailP_2 (.inr h9)]; exact st⟩
  conv => whnf
  refine br_mk (fun h5 => ?_) (fun h5 => ?_)
  · conv => whnf
    simp at h5
    refine ⟨[], [3, 8], rfl, ?_, ?_⟩
    conv => whnf
    refine ⟨[], [4, 8], rfl, ?_, ?_⟩
    conv => whnf
    refine ⟨[0, 1, 2, 5, 6, 7, 10, 11, 3, 4, 8, 9, 12], [0, 0, 2, 6, 15, 0, 32, 96, 255, 511, 0, 1024, 4095], by kernel_rfl, ?_⟩
    conv => whnf
    refine ⟨_, Cell.mk kb.1 rfl, ?_⟩
    conv => whnf
    refine ⟨_, Cell.mk kb.1 rfl, ?_⟩
    conv => whnf
    refine ⟨_, Cell.mk kb.1 rfl, ?_⟩
    conv => whnf
    rw [oneNum]
    have s3 := Kp.push w.1 (.row true 1 (ints .i64 [m.w]))
    have kb := kb.keep (Mod.push none_ _ (.row true 1 (ints .i64 [m.w])))
    have w := w.keep (Mod.push none_ _ (.row true 1 (ints .i64 [m.w])))
    conv => whnf
    refine (nums19 w.1 (s3.nums rfl) (by
      refine Nat.le_trans st.len ?_
      simp <;> omega) (by simp) (5 : Nat)).mono ?_
    rintro _ _ ⟨rfl, q, wq, fq, mq⟩
    have kb := kb.step fq mq
    have w := w.step' wq fq mq
    have st := st.prog (k := 5) (by decide) (by decide) [m.w]
    refine ⟨?_, ?_⟩
    · conv => whnf
      exact ⟨_, Cell.mk kb.1 rfl, rfl⟩
    refine ⟨?_, ?_⟩
    · conv => whnf
      exact ⟨_, Cell.mk kb.1 rfl, rfl⟩
    conv => whnf
    rw [oneNum]
    have s8 := Kp.push w.1 (.row true 1 (ints .i64 [(m.es.length : Int)]))
    have kb := kb.keep (Mod.push none_ _ (.row true 1 (ints .i64 [(m.es.length : Int)])))
    have w := w.keep (Mod.push none_ _ (.row true 1 (ints .i64 [(m.es.length : Int)])))
    conv => whnf
    refine (nums19 w.1 (s8.nums rfl) (by
      refine Nat.le_trans st.len ?_
      simp <;> omega) (by simp) (2 : Nat)).mono ?_
    rintro _ _ ⟨rfl, q, wq, fq, mq⟩
    have kb := kb.step fq mq
    have w := w.step' wq fq mq
    have st := st.prog (k := 2) (by decide) (by decide) [(m.es.length : Int)]
    refine ⟨?_, ?_⟩
    · conv => whnf
      exact ⟨_, Cell.mk kb.1 rfl, rfl⟩
    conv => whnf
    refine (nums19 w.1 (w.nums ok.1) (by
      refine Nat.le_trans st.len ?_
      simp <;> omega) (by have := ok.2.2.2; omega) (2 : Nat)).mono ?_
    rintro _ _ ⟨rfl, q, wq, fq, mq⟩
    have kb := kb.step fq mq
    have w := w.step' wq fq mq
    have st := st.prog (k := 2) (by decide) (by decide) m.es
    conv => whnf
    rotate_left
    conv => whnf
    refine ⟨[0, 1, 2, 5, 6, 7, 10, 11, 3, 8, 4, 9, 12], [0, 0, 2, 6, 495, 0, 32, 96, 238, 511, 0, 1024, 4095], by kernel_rfl, ?_⟩
    conv => whnf
    refine ⟨_, Cell.mk kb.1 rfl, ?_⟩
    conv => whnf
    refine ⟨_, Cell.mk kb.1 rfl, ?_⟩
    conv => whnf
    refine ⟨_, Cell.mk kb.1 rfl, ?_⟩
    conv => whnf
    rw [oneNum]
    have s3 := Kp.push w.1 (.row true 1 (ints .i64 [m.w]))
    have kb := kb.keep (Mod.push none_ _ (.row true 1 (ints .i64 [m.w])))
    have w := w.keep (Mod.push none_ _ (.row true 1 (ints .i64 [m.w])))
    conv => whnf
    rw [oneNum]
    have s8 := Kp.push w.1 (.row true 1 (ints .i64 [(m.es.length : Int)]))
    have s3 := s3.keep (Mod.push none_ _ (.row true 1 (ints .i64 [(m.es.length : Int)])))
    have kb := kb.keep (Mod.push none_ _ (.row true 1 (ints .i64 [(m.es.length : Int)])))
    have w := w.keep (Mod.push none_ _ (.row true 1 (ints .i64 [(m.es.length : Int)])))
    conv => whnf
    refine (nums19 w.1 (s3.nums rfl) (by
      refine Nat.le_trans st.len ?_
      simp <;> omega) (by simp) (5 : Nat)).mono ?_
    rintro _ _ ⟨rfl, q, wq, fq, mq⟩
    have s8 := s8.step fq mq
    have kb := kb.step fq mq
    have w := w.step' wq fq mq
    have st := st.prog (k := 5) (by decide) (by decide) [m.w]
    refine ⟨?_, ?_⟩
    · conv => whnf
      exact ⟨_, Cell.mk kb.1 rfl, rfl⟩
    conv => whnf
    refine (nums19 w.1 (s8.nums rfl) (by
      refine Nat.le_trans st.len ?_
      simp <;> omega) (by simp) (2 : Nat)).mono ?_
    rintro _ _ ⟨rfl, q, wq, fq, mq⟩
    have kb := kb.step fq mq
    have w := w.step' wq fq mq
    have st := st.prog (k := 2) (by decide) (by decide) [(m.es.length : Int)]
    refine ⟨?_, ?_⟩
    · conv => whnf
      exact ⟨_, Cell.mk kb.1 rfl, rfl⟩
    conv => whnf
    refine (nums19 w.1 (w.nums ok.1) (by
      refine Nat.le_trans st.len ?_
      simp <;> omega) (by have := ok.2.2.2; omega) (2 : Nat)).mono ?_
    rintro _ _ ⟨rfl, q, wq, fq, mq⟩
    have kb := kb.step fq mq
    have w := w.step' wq fq mq
    have st := st.prog (k := 2) (by decide) (by decide) m.es
    conv => whnf
    rotate_left
    conv => whnf
    refine ⟨[0, 1, 2, 5, 6, 7, 10, 11, 8, 3, 4, 9, 12], [0, 0, 2, 486, 495, 0, 32, 96, 224, 511, 0, 1024, 4095], by kernel_rfl, ?_⟩
    conv => whnf
    refine ⟨_, Cell.mk kb.1 rfl, ?_⟩
    conv => whnf
    refine ⟨_, Cell.mk kb.1 rfl, ?_⟩
    conv => whnf
    refine ⟨_, Cell.mk kb.1 rfl, ?_⟩
    conv => whnf
    rw [oneNum]
    have s8 := Kp.push w.1 (.row true 1 (ints .i64 [(m.es.length : Int)]))
    have kb := kb.keep (Mod.push none_ _ (.row true 1 (ints .i64 [(m.es.length : Int)])))
    have w := w.keep (Mod.push none_ _ (.row true 1 (ints .i64 [(m.es.length : Int)])))
    conv => whnf
    rw [oneNum]
    have s3 := Kp.push w.1 (.row true 1 (ints .i64 [m.w]))
    have s8 := s8.keep (Mod.push none_ _ (.row true 1 (ints .i64 [m.w])))
    have kb := kb.keep (Mod.push none_ _ (.row true 1 (ints .i64 [m.w])))
    have w := w.keep (Mod.push none_ _ (.row true 1 (ints .i64 [m.w])))
    conv => whnf
    refine (nums19 w.1 (s3.nums rfl) (by
      refine Nat.le_trans st.len ?_
      simp <;> omega) (by simp) (5 : Nat)).mono ?_
    rintro _ _ ⟨rfl, q, wq, fq, mq⟩
    have s8 := s8.step fq mq
    have kb := kb.step fq mq
    have w := w.step' wq fq mq
    have st := st.prog (k := 5) (by decide) (by decide) [m.w]
    refine ⟨?_, ?_⟩
    · conv => whnf
      exact ⟨_, Cell.mk kb.1 rfl, rfl⟩
    conv => whnf
    refine (nums19 w.1 (s8.nums rfl) (by
      refine Nat.le_trans st.len ?_
      simp <;> omega) (by simp) (2 : Nat)).mono ?_
    rintro _ _ ⟨rfl, q, wq, fq, mq⟩
    have kb := kb.step fq mq
    have w := w.step' wq fq mq
    have st := st.prog (k := 2) (by decide) (by decide) [(m.es.length : Int)]
    refine ⟨?_, ?_⟩
    · conv => whnf
      exact ⟨_, Cell.mk kb.1 rfl, rfl⟩
    conv => whnf
    refine (nums19 w.1 (w.nums ok.1) (by
      refine Nat.le_trans st.len ?_
      simp <;> omega) (by have := ok.2.2.2; omega) (2 : Nat)).mono ?_
    rintro _ _ ⟨rfl, q, wq, fq, mq⟩
    have kb := kb.step fq mq
    have w := w.step' wq fq mq
    have st := st.prog (k := 2) (by decide) (by decide) m.es
    conv => whnf
    rotate_left
    all_goals
      refine ⟨_, Cell.mk kb.1 rfl, ?_⟩
      conv => whnf
      refine br_mk (fun hz => ?_) (fun hz => ?_)
      · simp [h5] at hz
      conv => whnf
      refine ⟨_, Cell.mk kb.1 rfl, ?_⟩
      conv => whnf
      refine ⟨?_, _, _, _, w, fun _ => by rw [parts, tailP_5 h5]; exact st⟩
      rw [knd_5 h5]
      exact congrArg V.bool (by
        rw [Bool.eq_iff_iff, decide_eq_true_iff, decide_eq_true_iff]
        omega)
  conv => whnf
  refine br_mk (fun h7 => ?_) (fun h7 => ?_)
  · conv => whnf
    simp at h7
    refine ⟨[], [5, 18], rfl, ?_, ?_⟩
    conv => whnf
    refine ⟨[], [5, 10], rfl, ?_, ?_⟩
    conv => whnf
    refine ⟨[], [10, 18], rfl, ?_, ?_⟩
    conv => whnf
    refine ⟨[], [11, 18], rfl, ?_, ?_⟩
    conv => whnf
    refine ⟨[0, 1, 2, 3, 6, 7, 8, 9, 12, 13, 14, 15, 16, 17, 4, 5, 10, 11, 18, 19], [0, 0, 2, 6, 14, 31, 0, 64, 192, 448, 1023, 2047, 0, 4096, 12288, 0, 32768, 98304, 262143, 524287], by kernel_rfl, ?_⟩
    conv => whnf
    refine ⟨_, Cell.mk kb.1 rfl, ?_⟩
    conv => whnf
    refine ⟨_, Cell.mk kb.1 rfl, ?_⟩
    conv => whnf
    refine ⟨_, Cell.mk kb.1 rfl, ?_⟩
    conv => whnf
    refine ⟨_, Cell.mk kb.1 rfl, ?_⟩
    conv => whnf
    rw [oneNum]
    have s4 := Kp.push w.1 (.row true 1 (ints .i64 [m.c]))
    have kb := kb.keep (Mod.push none_ _ (.row true 1 (ints .i64 [m.c])))
    have w := w.keep (Mod.push none_ _ (.row true 1 (ints .i64 [m.c])))
    conv => whnf
    refine (nums19 w.1 (s4.nums rfl) (by
      refine Nat.le_trans st.len ?_
      simp <;> omega) (by simp) (1 : Nat)).mono ?_
    rintro _ _ ⟨rfl, q, wq, fq, mq⟩
    have kb := kb.step fq mq
    have w := w.step' wq fq mq
    have st := st.prog (k := 1) (by decide) (by decide) [m.c]
    refine ⟨?_, ?_⟩
    · conv => whnf
      exact ⟨_, Cell.mk kb.1 rfl, rfl⟩
    refine ⟨?_, ?_⟩
    · conv => whnf
      exact ⟨_, Cell.mk kb.1 rfl, rfl⟩
    refine ⟨?_, ?_⟩
    · conv => whnf
      exact ⟨_, Cell.mk kb.1 rfl, rfl⟩
    conv => whnf
    rw [oneNum]
    have s10 := Kp.push w.1 (.row true 1 (ints .i64 [IntKind.i64.wrap (m.e + 1)]))
    have kb := kb.keep (Mod.push none_ _ (.row true 1 (ints .i64 [IntKind.i64.wrap (m.e + 1)])))
    have w := w.keep (Mod.push none_ _ (.row true 1 (ints .i64 [IntKind.i64.wrap (m.e + 1)])))
    conv => whnf
    refine (nums19 w.1 (s10.nums rfl) (by
      refine Nat.le_trans st.len ?_
      simp <;> omega) (by simp) (2 : Nat)).mono ?_
    rintro _ _ ⟨rfl, q, wq, fq, mq⟩
    have kb := kb.step fq mq
    have w := w.step' wq fq mq
    have st := st.prog (k := 2) (by decide) (by decide) [IntKind.i64.wrap (m.e + 1)]
    refine ⟨?_, ?_⟩
    · conv => whnf
      exact ⟨_, Cell.mk kb.1 rfl, rfl⟩
    refine ⟨?_, ?_⟩
    · conv => whnf
      exact ⟨_, Cell.mk kb.1 rfl, rfl⟩
    conv => whnf
    rw [twoNum]
    have s18 := Kp.push w.1 (.row true 1 (ints .i64 [m.f, m.l]))
    have kb := kb.keep (Mod.push none_ _ (.row true 1 (ints .i64 [m.f, m.l])))
    have w := w.keep (Mod.push none_ _ (.row true 1 (ints .i64 [m.f, m.l])))
    conv => whnf
    refine (nums19 w.1 (s18.nums rfl) (by
      refine Nat.le_trans st.len ?_
      simp <;> omega) (by simp) (5 : Nat)).mono ?_
    rintro _ _ ⟨rfl, q, wq, fq, mq⟩
    have kb := kb.step fq mq
    have w := w.step' wq fq mq
    have st := st.prog (k := 5) (by decide) (by decide) [m.f, m.l]
    conv => whnf
    rotate_left
    conv => whnf
    refine ⟨[0, 1, 2, 3, 6, 7, 8, 9, 12, 13, 14, 15, 16, 17, 4, 5, 10, 18, 11, 19], [0, 0, 2, 6, 14, 31, 0, 64, 192, 448, 1023, 522239, 0, 4096, 12288, 0, 32768, 98304, 260095, 524287], by kernel_rfl, ?_⟩
    conv => whnf
    refine ⟨_, Cell.mk kb.1 rfl, ?_⟩
    conv => whnf
    refine ⟨_, Cell.mk kb.1 rfl, ?_⟩
    conv => whnf
    refine ⟨_, Cell.mk kb.1 rfl, ?_⟩
    conv => whnf
    refine ⟨_, Cell.mk kb.1 rfl, ?_⟩
    conv => whnf
    rw [oneNum]
    have s4 := Kp.push w.1 (.row true 1 (ints .i64 [m.c]))
    have kb := kb.keep (Mod.push none_ _ (.row true 1 (ints .i64 [m.c])))
    have w := w.keep (Mod.push none_ _ (.row true 1 (ints .i64 [m.c])))
    conv => whnf
    refine (nums19 w.1 (s4.nums rfl) (by
      refine Nat.le_trans st.len ?_
      simp <;> omega) (by simp) (1 : Nat)).mono ?_
    rintro _ _ ⟨rfl, q, wq, fq, mq⟩
    have kb := kb.step fq mq
    have w := w.step' wq fq mq
    have st := st.prog (k := 1) (by decide) (by decide) [m.c]
    refine ⟨?_, ?_⟩
    · conv => whnf
      exact ⟨_, Cell.mk kb.1 rfl, rfl⟩
    refine ⟨?_, ?_⟩
    · conv => whnf
      exact ⟨_, Cell.mk kb.1 rfl, rfl⟩
    refine ⟨?_, ?_⟩
    · conv => whnf
      exact ⟨_, Cell.mk kb.1 rfl, rfl⟩
    conv => whnf
    rw [oneNum]
    have s10 := Kp.push w.1 (.row true 1 (ints .i64 [IntKind.i64.wrap (m.e + 1)]))
    have kb := kb.keep (Mod.push none_ _ (.row true 1 (ints .i64 [IntKind.i64.wrap (m.e + 1)])))
    have w := w.keep (Mod.push none_ _ (.row true 1 (ints .i64 [IntKind.i64.wrap (m.e + 1)])))
    conv => whnf
    rw [twoNum]
    have s18 := Kp.push w.1 (.row true 1 (ints .i64 [m.f, m.l]))
    have s10 := s10.keep (Mod.push none_ _ (.row true 1 (ints .i64 [m.f, m.l])))
    have kb := kb.keep (Mod.push none_ _ (.row true 1 (ints .i64 [m.f, m.l])))
    have w := w.keep (Mod.push none_ _ (.row true 1 (ints .i64 [m.f, m.l])))
    conv => whnf
    refine (nums19 w.1 (s10.nums rfl) (by
      refine Nat.le_trans st.len ?_
      simp <;> omega) (by simp) (2 : Nat)).mono ?_
    rintro _ _ ⟨rfl, q, wq, fq, mq⟩
    have s18 := s18.step fq mq
    have kb := kb.step fq mq
    have w := w.step' wq fq mq
    have st := st.prog (k := 2) (by decide) (by decide) [IntKind.i64.wrap (m.e + 1)]
    conv => whnf
    refine (nums19 w.1 (s18.nums rfl) (by
      refine Nat.le_trans st.len ?_
      simp <;> omega) (by simp) (5 : Nat)).mono ?_
    rintro _ _ ⟨rfl, q, wq, fq, mq⟩
    have kb := kb.step fq mq
    have w := w.step' wq fq mq
    have st := st.prog (k := 5) (by decide) (by decide) [m.f, m.l]
    conv => whnf
    rotate_left
    conv => whnf
    refine ⟨[0, 1, 2, 3, 6, 7, 8, 9, 12, 13, 14, 15, 16, 17, 4, 5, 18, 10, 11, 19], [0, 0, 2, 6, 14, 31, 0, 64, 192, 448, 521215, 522239, 0, 4096, 12288, 0, 32768, 98304, 258111, 524287], by kernel_rfl, ?_⟩
    conv => whnf
    refine ⟨_, Cell.mk kb.1 rfl, ?_⟩
    conv => whnf
    refine ⟨_, Cell.mk kb.1 rfl, ?_⟩
    conv => whnf
    refine ⟨_, Cell.mk kb.1 rfl, ?_⟩
    conv => whnf
    refine ⟨_, Cell.mk kb.1 rfl, ?_⟩
    conv => whnf
    rw [oneNum]
    have s4 := Kp.push w.1 (.row true 1 (ints .i64 [m.c]))
    have kb := kb.keep (Mod.push none_ _ (.row true 1 (ints .i64 [m.c])))
    have w := w.keep (Mod.push none_ _ (.row true 1 (ints .i64 [m.c])))
    conv => whnf
    refine (nums19 w.1 (s4.nums rfl) (by
      refine Nat.le_trans st.len ?_
      simp <;> omega) (by simp) (1 : Nat)).mono ?_
    rintro _ _ ⟨rfl, q, wq, fq, mq⟩
    have kb := kb.step fq mq
    have w := w.step' wq fq mq
    have st := st.prog (k := 1) (by decide) (by decide) [m.c]
    refine ⟨?_, ?_⟩
    · conv => whnf
      exact ⟨_, Cell.mk kb.1 rfl, rfl⟩
    refine ⟨?_, ?_⟩
    · conv => whnf
      exact ⟨_, Cell.mk kb.1 rfl, rfl⟩
    refine ⟨?_, ?_⟩
    · conv => whnf
      exact ⟨_, Cell.mk kb.1 rfl, rfl⟩
    conv => whnf
    rw [twoNum]
    have s18 := Kp.push w.1 (.row true 1 (ints .i64 [m.f, m.l]))
    have kb := kb.keep (Mod.push none_ _ (.row true 1 (ints .i64 [m.f, m.l])))
    have w := w.keep (Mod.push none_ _ (.row true 1 (ints .i64 [m.f, m.l])))
    conv => whnf
    rw [oneNum]
    have s10 := Kp.push w.1 (.row true 1 (ints .i64 [IntKind.i64.wrap (m.e + 1)]))
    have s18 := s18.keep (Mod.push none_ _ (.row true 1 (ints .i64 [IntKind.i64.wrap (m.e + 1)])))
    have kb := kb.keep (Mod.push none_ _ (.row true 1 (ints .i64 [IntKind.i64.wrap (m.e + 1)])))
    have w := w.keep (Mod.push none_ _ (.row true 1 (ints .i64 [IntKind.i64.wrap (m.e + 1)])))
    conv => whnf
    refine (nums19 w.1 (s10.nums rfl) (by
      refine Nat.le_trans st.len ?_
      simp <;> omega) (by simp) (2 : Nat)).mono ?_
    rintro _ _ ⟨rfl, q, wq, fq, mq⟩
    have s18 := s18.step fq mq
    have kb := kb.step fq mq
    have w := w.step' wq fq mq
    have st := st.prog (k := 2) (by decide) (by decide) [IntKind.i64.wrap (m.e + 1)]
    conv => whnf
    refine (nums19 w.1 (s18.nums rfl) (by
      refine Nat.le_trans st.len ?_
      simp <;> omega) (by simp) (5 : Nat)).mono ?_
    rintro _ _ ⟨rfl, q, wq, fq, mq⟩
    have kb := kb.step fq mq
    have w := w.step' wq fq mq
    have st := st.prog (k := 5) (by decide) (by decide) [m.f, m.l]
    conv => whnf
    rotate_left
    conv => whnf
    refine ⟨[], [4, 10], rfl, ?_, ?_⟩
    conv => whnf
    refine ⟨[], [11, 18], rfl, ?_, ?_⟩
    conv => whnf
    refine ⟨[0, 1, 2, 3, 6, 7, 8, 9, 12, 13, 14, 15, 16, 17, 4, 10, 5, 11, 18, 19], [0, 0, 2, 6, 14, 2015, 0, 64, 192, 448, 990, 2047, 0, 4096, 12288, 0, 32768, 98304, 262143, 524287], by kernel_rfl, ?_⟩
    conv => whnf
    refine ⟨_, Cell.mk kb.1 rfl, ?_⟩
    conv => whnf
    refine ⟨_, Cell.mk kb.1 rfl, ?_⟩
    conv => whnf
    refine ⟨_, Cell.mk kb.1 rfl, ?_⟩
    conv => whnf
    refine ⟨_, Cell.mk kb.1 rfl, ?_⟩
    conv => whnf
    rw [oneNum]
    have s4 := Kp.push w.1 (.row true 1 (ints .i64 [m.c]))
    have kb := kb.keep (Mod.push none_ _ (.row true 1 (ints .i64 [m.c])))
    have w := w.keep (Mod.push none_ _ (.row true 1 (ints .i64 [m.c])))
    conv => whnf
    rw [oneNum]
    have s10 := Kp.push w.1 (.row true 1 (ints .i64 [IntKind.i64.wrap (m.e + 1)]))
    have s4 := s4.keep (Mod.push none_ _ (.row true 1 (ints .i64 [IntKind.i64.wrap (m.e + 1)])))
    have kb := kb.keep (Mod.push none_ _ (.row true 1 (ints .i64 [IntKind.i64.wrap (m.e + 1)])))
    have w := w.keep (Mod.push none_ _ (.row true 1 (ints .i64 [IntKind.i64.wrap (m.e + 1)])))
    conv => whnf
    refine (nums19 w.1 (s4.nums rfl) (by
      refine Nat.le_trans st.len ?_
      simp <;> omega) (by simp) (1 : Nat)).mono ?_
    rintro _ _ ⟨rfl, q, wq, fq, mq⟩
    have s10 := s10.step fq mq
    have kb := kb.step fq mq
    have w := w.step' wq fq mq
    have st := st.prog (k := 1) (by decide) (by decide) [m.c]
    refine ⟨?_, ?_⟩
    · conv => whnf
      exact ⟨_, Cell.mk kb.1 rfl, rfl⟩
    refine ⟨?_, ?_⟩
    · conv => whnf
      exact ⟨_, Cell.mk kb.1 rfl, rfl⟩
    conv => whnf
    refine (nums19 w.1 (s10.nums rfl) (by
      refine Nat.le_trans st.len ?_
      simp <;> omega) (by simp) (2 : Nat)).mono ?_
    rintro _ _ ⟨rfl, q, wq, fq, mq⟩
    have kb := kb.step fq mq
    have w := w.step' wq fq mq
    have st := st.prog (k := 2) (by decide) (by decide) [IntKind.i64.wrap (m.e + 1)]
    refine ⟨?_, ?_⟩
    · conv => whnf
      exact ⟨_, Cell.mk kb.1 rfl, rfl⟩
    refine ⟨?_, ?_⟩
    · conv => whnf
      exact ⟨_, Cell.mk kb.1 rfl, rfl⟩
    conv => whnf
    rw [twoNum]
    have s18 := Kp.push w.1 (.row true 1 (ints .i64 [m.f, m.l]))
    have kb := kb.keep (Mod.push none_ _ (.row true 1 (ints .i64 [m.f, m.l])))
    have w := w.keep (Mod.push none_ _ (.row true 1 (ints .i64 [m.f, m.l])))
    conv => whnf
    refine (nums19 w.1 (s18.nums rfl) (by
      refine Nat.le_trans st.len ?_
      simp <;> omega) (by simp) (5 : Nat)).mono ?_
    rintro _ _ ⟨rfl, q, wq, fq, mq⟩
    have kb := kb.step fq mq
    have w := w.step' wq fq mq
    have st := st.prog (k := 5) (by decide) (by decide) [m.f, m.l]
    conv => whnf
    rotate_left
    conv => whnf
    refine ⟨[0, 1, 2, 3, 6, 7, 8, 9, 12, 13, 14, 15, 16, 17, 4, 10, 5, 18, 11, 19], [0, 0, 2, 6, 14, 2015, 0, 64, 192, 448, 990, 522239, 0, 4096, 12288, 0, 32768, 98304, 260095, 524287], by kernel_rfl, ?_⟩
    conv => whnf
    refine ⟨_, Cell.mk kb.1 rfl, ?_⟩
    conv => whnf
    refine ⟨_, Cell.mk kb.1 rfl, ?_⟩
    conv => whnf
    refine ⟨_, Cell.mk kb.1 rfl, ?_⟩
    conv => whnf
    refine ⟨_, Cell.mk kb.1 rfl, ?_⟩
    conv => whnf
    rw [oneNum]
    have s4 := Kp.push w.1 (.row true 1 (ints .i64 [m.c]))
    have kb := kb.keep (Mod.push none_ _ (.row true 1 (ints .i64 [m.c])))
    have w := w.keep (Mod.push none_ _ (.row true 1 (ints .i64 [m.c])))
    conv => whnf
    rw [oneNum]
    have s10 := Kp.push w.1 (.row true 1 (ints .i64 [IntKind.i64.wrap (m.e + 1)]))
    have s4 := s4.keep (Mod.push none_ _ (.row true 1 (ints .i64 [IntKind.i64.wrap (m.e + 1)])))
    have kb := kb.keep (Mod.push none_ _ (.row true 1 (ints .i64 [IntKind.i64.wrap (m.e + 1)])))
    have w := w.keep (Mod.push none_ _ (.row true 1 (ints .i64 [IntKind.i64.wrap (m.e + 1)])))
    conv => whnf
    refine (nums19 w.1 (s4.nums rfl) (by
      refine Nat.le_trans st.len ?_
      simp <;> omega) (by simp) (1 : Nat)).mono ?_
    rintro _ _ ⟨rfl, q, wq, fq, mq⟩
    have s10 := s10.step fq mq
    have kb := kb.step fq mq
    have w := w.step' wq fq mq
    have st := st.prog (k := 1) (by decide) (by decide) [m.c]
    refine ⟨?_, ?_⟩
    · conv => whnf
      exact ⟨_, Cell.mk kb.1 rfl, rfl⟩
    refine ⟨?_, ?_⟩
    · conv => whnf
      exact ⟨_, Cell.mk kb.1 rfl, rfl⟩
    conv => whnf
    rw [twoNum]
    have s18 := Kp.push w.1 (.row true 1 (ints .i64 [m.f, m.l]))
    have s10 := s10.keep (Mod.push none_ _ (.row true 1 (ints .i64 [m.f, m.l])))
    have kb := kb.keep (Mod.push none_ _ (.row true 1 (ints .i64 [m.f, m.l])))
    have w := w.keep (Mod.push none_ _ (.row true 1 (ints .i64 [m.f, m.l])))
    conv => whnf
    refine (nums19 w.1 (s10.nums rfl) (by
      refine Nat.le_trans st.len ?_
      simp <;> omega) (by simp) (2 : Nat)).mono ?_
    rintro _ _ ⟨rfl, q, wq, fq, mq⟩
    have s18 := s18.step fq mq
    have kb := kb.step fq mq
    have w := w.step' wq fq mq
    have st := st.prog (k := 2) (by decide) (by decide) [IntKind.i64.wrap (m.e + 1)]
    conv => whnf
    refine (nums19 w.1 (s18.nums rfl) (by
      refine Nat.le_trans st.len ?_
      simp <;> omega) (by simp) (5 : Nat)).mono ?_
    rintro _ _ ⟨rfl, q, wq, fq, mq⟩
    have kb := kb.step fq mq
    have w := w.step' wq fq mq
    have st := st.prog (k := 5) (by decide) (by decide) [m.f, m.l]
    conv => whnf
    rotate_left
    conv => whnf
    refine ⟨[], [11, 18], rfl, ?_, ?_⟩
    conv => whnf
    refine ⟨[0, 1, 2, 3, 6, 7, 8, 9, 12, 13, 14, 15, 16, 17, 10, 4, 5, 11, 18, 19], [0, 0, 2, 6, 1998, 2015, 0, 64, 192, 448, 960, 2047, 0, 4096, 12288, 0, 32768, 98304, 262143, 524287], by kernel_rfl, ?_⟩
    conv => whnf
    refine ⟨_, Cell.mk kb.1 rfl, ?_⟩
    conv => whnf
    refine ⟨_, Cell.mk kb.1 rfl, ?_⟩
    conv => whnf
    refine ⟨_, Cell.mk kb.1 rfl, ?_⟩
    conv => whnf
    refine ⟨_, Cell.mk kb.1 rfl, ?_⟩
    conv => whnf
    rw [oneNum]
    have s10 := Kp.push w.1 (.row true 1 (ints .i64 [IntKind.i64.wrap (m.e + 1)]))
    have kb := kb.keep (Mod.push none_ _ (.row true 1 (ints .i64 [IntKind.i64.wrap (m.e + 1)])))
    have w := w.keep (Mod.push none_ _ (.row true 1 (ints .i64 [IntKind.i64.wrap (m.e + 1)])))
    conv => whnf
    rw [oneNum]
    have s4 := Kp.push w.1 (.row true 1 (ints .i64 [m.c]))
    have s10 := s10.keep (Mod.push none_ _ (.row true 1 (ints .i64 [m.c])))
    have kb := kb.keep (Mod.push none_ _ (.row true 1 (ints .i64 [m.c])))
    have w := w.keep (Mod.push none_ _ (.row true 1 (ints .i64 [m.c])))
    conv => whnf
    refine (nums19 w.1 (s4.nums rfl) (by
      refine Nat.le_trans st.len ?_
      simp <;> omega) (by simp) (1 : Nat)).mono ?_
    rintro _ _ ⟨rfl, q, wq, fq, mq⟩
    have s10 := s10.step fq mq
    have kb := kb.step fq mq
    have w := w.step' wq fq mq
    have st := st.prog (k := 1) (by decide) (by decide) [m.c]
    refine ⟨?_, ?_⟩
    · conv => whnf
      exact ⟨_, Cell.mk kb.1 rfl, rfl⟩
    refine ⟨?_, ?_⟩
    · conv => whnf
      exact ⟨_, Cell.mk kb.1 rfl, rfl⟩
    conv => whnf
    refine (nums19 w.1 (s10.nums rfl) (by
      refine Nat.le_trans st.len ?_
      simp <;> omega) (by simp) (2 : Nat)).mono ?_
    rintro _ _ ⟨rfl, q, wq, fq, mq⟩
    have kb := kb.step fq mq
    have w := w.step' wq fq mq
    have st := st.prog (k := 2) (by decide) (by decide) [IntKind.i64.wrap (m.e + 1)]
    refine ⟨?_, ?_⟩
    · conv => whnf
      exact ⟨_, Cell.mk kb.1 rfl, rfl⟩
    refine ⟨?_, ?_⟩
    · conv => whnf
      exact ⟨_, Cell.mk kb.1 rfl, rfl⟩
    conv => whnf
    rw [twoNum]
    have s18 := Kp.push w.1 (.row true 1 (ints .i64 [m.f, m.l]))
    have kb := kb.keep (Mod.push none_ _ (.row true 1 (ints .i64 [m.f, m.l])))
    have w := w.keep (Mod.push none_ _ (.row true 1 (ints .i64 [m.f, m.l])))
    conv => whnf
    refine (nums19 w.1 (s18.nums rfl) (by
      refine Nat.le_trans st.len ?_
      simp <;> omega) (by simp) (5 : Nat)).mono ?_
    rintro _ _ ⟨rfl, q, wq, fq, mq⟩
    have kb := kb.step fq mq
    have w := w.step' wq fq mq
    have st := st.prog (k := 5) (by decide) (by decide) [m.f, m.l]
    conv => whnf
    rotate_left
    conv => whnf
    refine ⟨[0, 1, 2, 3, 6, 7, 8, 9, 12, 13, 14, 15, 16, 17, 10, 4, 5, 18, 11, 19], [0, 0, 2, 6, 1998, 2015, 0, 64, 192, 448, 960, 522239, 0, 4096, 12288, 0, 32768, 98304, 260095, 524287], by kernel_rfl, ?_⟩
    conv => whnf
    refine ⟨_, Cell.mk kb.1 rfl, ?_⟩
    conv => whnf
    refine ⟨_, Cell.mk kb.1 rfl, ?_⟩
    conv => whnf
    refine ⟨_, Cell.mk kb.1 rfl, ?_⟩
    conv => whnf
    refine ⟨_, Cell.mk kb.1 rfl, ?_⟩
    conv => whnf
    rw [oneNum]
    have s10 := Kp.push w.1 (.row true 1 (ints .i64 [IntKind.i64.wrap (m.e + 1)]))
    have kb := kb.keep (Mod.push none_ _ (.row true 1 (ints .i64 [IntKind.i64.wrap (m.e + 1)])))
    have w := w.keep (Mod.push none_ _ (.row true 1 (ints .i64 [IntKind.i64.wrap (m.e + 1)])))
    conv => whnf
    rw [oneNum]
    have s4 := Kp.push w.1 (.row true 1 (ints .i64 [m.c]))
    have s10 := s10.keep (Mod.push none_ _ (.row true 1 (ints .i64 [m.c])))
    have kb := kb.keep (Mod.push none_ _ (.row true 1 (ints .i64 [m.c])))
    have w := w.keep (Mod.push none_ _ (.row true 1 (ints .i64 [m.c])))
    conv => whnf
    refine (nums19 w.1 (s4.nums rfl) (by
      refine Nat.le_trans st.len ?_
      simp <;> omega) (by simp) (1 : Nat)).mono ?_
    rintro _ _ ⟨rfl, q, wq, fq, mq⟩
    have s10 := s10.step fq mq
    have kb := kb.step fq mq
    have w := w.step' wq fq mq
    have st := st.prog (k := 1) (by decide) (by decide) [m.c]
    refine ⟨?_, ?_⟩
    · conv => whnf
      exact ⟨_, Cell.mk kb.1 rfl, rfl⟩
    refine ⟨?_, ?_⟩
    · conv => whnf
      exact ⟨_, Cell.mk kb.1 rfl, rfl⟩
    conv => whnf
    rw [twoNum]
    have s18 := Kp.push w.1 (.row true 1 (ints .i64 [m.f, m.l]))
    have s10 := s10.keep (Mod.push none_ _ (.row true 1 (ints .i64 [m.f, m.l])))
    have kb := kb.keep (Mod.push none_ _ (.row true 1 (ints .i64 [m.f, m.l])))
    have w := w.keep (Mod.push none_ _ (.row true 1 (ints .i64 [m.f, m.l])))
    conv => whnf
    refine (nums19 w.1 (s10.nums rfl) (by
      refine Nat.le_trans st.len ?_
      simp <;> omega) (by simp) (2 : Nat)).mono ?_
    rintro _ _ ⟨rfl, q, wq, fq, mq⟩
    have s18 := s18.step fq mq
    have kb := kb.step fq mq
    have w := w.step' wq fq mq
    have st := st.prog (k := 2) (by decide) (by decide) [IntKind.i64.wrap (m.e + 1)]
    conv => whnf
    refine (nums19 w.1 (s18.nums rfl) (by
      refine Nat.le_trans st.len ?_
      simp <;> omega) (by simp) (5 : Nat)).mono ?_
    rintro _ _ ⟨rfl, q, wq, fq, mq⟩
    have kb := kb.step fq mq
    have w := w.step' wq fq mq
    have st := st.prog (k := 5) (by decide) (by decide) [m.f, m.l]
    conv => whnf
    rotate_left
    conv => whnf
    refine ⟨[], [4, 18], rfl, ?_, ?_⟩
    conv => whnf
    refine ⟨[], [10, 18], rfl, ?_, ?_⟩
    conv => whnf
    refine ⟨[], [4, 10], rfl, ?_, ?_⟩
    conv => whnf
    refine ⟨[0, 1, 2, 3, 6, 7, 8, 9, 12, 13, 14, 15, 16, 17, 4, 10, 18, 5, 11, 19], [0, 0, 2, 6, 14, 522207, 0, 64, 192, 448, 990, 522239, 0, 4096, 12288, 0, 32768, 98304, 260062, 524287], by kernel_rfl, ?_⟩
    conv => whnf
    refine ⟨_, Cell.mk kb.1 rfl, ?_⟩
    conv => whnf
    refine ⟨_, Cell.mk kb.1 rfl, ?_⟩
    conv => whnf
    refine ⟨_, Cell.mk kb.1 rfl, ?_⟩
    conv => whnf
    refine ⟨_, Cell.mk kb.1 rfl, ?_⟩
    conv => whnf
    rw [oneNum]
    have s4 := Kp.push w.1 (.row true 1 (ints .i64 [m.c]))
    have kb := kb.keep (Mod.push none_ _ (.row true 1 (ints .i64 [m.c])))
    have w := w.keep (Mod.push none_ _ (.row true 1 (ints .i64 [m.c])))
    conv => whnf
    rw [oneNum]
    have s10 := Kp.push w.1 (.row true 1 (ints .i64 [IntKind.i64.wrap (m.e + 1)]))
    have s4 := s4.keep (Mod.push none_ _ (.row true 1 (ints .i64 [IntKind.i64.wrap (m.e + 1)])))
    have kb := kb.keep (Mod.push none_ _ (.row true 1 (ints .i64 [IntKind.i64.wrap (m.e + 1)])))
    have w := w.keep (Mod.push none_ _ (.row true 1 (ints .i64 [IntKind.i64.wrap (m.e + 1)])))
    conv => whnf
    rw [twoNum]
    have s18 := Kp.push w.1 (.row true 1 (ints .i64 [m.f, m.l]))
    have s4 := s4.keep (Mod.push none_ _ (.row true 1 (ints .i64 [m.f, m.l])))
    have s10 := s10.keep (Mod.push none_ _ (.row true 1 (ints .i64 [m.f, m.l])))
    have kb := kb.keep (Mod.push none_ _ (.row true 1 (ints .i64 [m.f, m.l])))
    have w := w.keep (Mod.push none_ _ (.row true 1 (ints .i64 [m.f, m.l])))
    conv => whnf
    refine (nums19 w.1 (s4.nums rfl) (by
      refine Nat.le_trans st.len ?_
      simp <;> omega) (by simp) (1 : Nat)).mono ?_
    rintro _ _ ⟨rfl, q, wq, fq, mq⟩
    have s10 := s10.step fq mq
    have s18 := s18.step fq mq
    have kb := kb.step fq mq
    have w := w.step' wq fq mq
    have st := st.prog (k := 1) (by decide) (by decide) [m.c]
    conv => whnf
    refine (nums19 w.1 (s10.nums rfl) (by
      refine Nat.le_trans st.len ?_
      simp <;> omega) (by simp) (2 : Nat)).mono ?_
    rintro _ _ ⟨rfl, q, wq, fq, mq⟩
    have s18 := s18.step fq mq
    have kb := kb.step fq mq
    have w := w.step' wq fq mq
    have st := st.prog (k := 2) (by decide) (by decide) [IntKind.i64.wrap (m.e + 1)]
    conv => whnf
    refine (nums19 w.1 (s18.nums rfl) (by
      refine Nat.le_trans st.len ?_
      simp <;> omega) (by simp) (5 : Nat)).mono ?_
    rintro _ _ ⟨rfl, q, wq, fq, mq⟩
    have kb := kb.step fq mq
    have w := w.step' wq fq mq
    have st := st.prog (k := 5) (by decide) (by decide) [m.f, m.l]
    conv => whnf
    rotate_left
    conv => whnf
    refine ⟨[0, 1, 2, 3, 6, 7, 8, 9, 12, 13, 14, 15, 16, 17, 10, 4, 18, 5, 11, 19], [0, 0, 2, 6, 1998, 522207, 0, 64, 192, 448, 960, 522239, 0, 4096, 12288, 0, 32768, 98304, 260062, 524287], by kernel_rfl, ?_⟩
    conv => whnf
    refine ⟨_, Cell.mk kb.1 rfl, ?_⟩
    conv => whnf
    refine ⟨_, Cell.mk kb.1 rfl, ?_⟩
    conv => whnf
    refine ⟨_, Cell.mk kb.1 rfl, ?_⟩
    conv => whnf
    refine ⟨_, Cell.mk kb.1 rfl, ?_⟩
    conv => whnf
    rw [oneNum]
    have s10 := Kp.push w.1 (.row true 1 (ints .i64 [IntKind.i64.wrap (m.e + 1)]))
    have kb := kb.keep (Mod.push none_ _ (.row true 1 (ints .i64 [IntKind.i64.wrap (m.e + 1)])))
    have w := w.keep (Mod.push none_ _ (.row true 1 (ints .i64 [IntKind.i64.wrap (m.e + 1)])))
    conv => whnf
    rw [oneNum]
    have s4 := Kp.push w.1 (.row true 1 (ints .i64 [m.c]))
    have s10 := s10.keep (Mod.push none_ _ (.row true 1 (ints .i64 [m.c])))
    have kb := kb.keep (Mod.push none_ _ (.row true 1 (ints .i64 [m.c])))
    have w := w.keep (Mod.push none_ _ (.row true 1 (ints .i64 [m.c])))
    conv => whnf
    rw [twoNum]
    have s18 := Kp.push w.1 (.row true 1 (ints .i64 [m.f, m.l]))
    have s4 := s4.keep (Mod.push none_ _ (.row true 1 (ints .i64 [m.f, m.l])))
    have s10 := s10.keep (Mod.push none_ _ (.row true 1 (ints .i64 [m.f, m.l])))
    have kb := kb.keep (Mod.push none_ _ (.row true 1 (ints .i64 [m.f, m.l])))
    have w := w.keep (Mod.push none_ _ (.row true 1 (ints .i64 [m.f, m.l])))
    conv => whnf
    refine (nums19 w.1 (s4.nums rfl) (by
      refine Nat.le_trans st.len ?_
      simp <;> omega) (by simp) (1 : Nat)).mono ?_
    rintro _ _ ⟨rfl, q, wq, fq, mq⟩
    have s10 := s10.step fq mq
    have s18 := s18.step fq mq
    have kb := kb.step fq mq
    have w := w.step' wq fq mq
    have st := st.prog (k := 1) (by decide) (by decide) [m.c]
    conv => whnf
    refine (nums19 w.1 (s10.nums rfl) (by
      refine Nat.le_trans st.len ?_
      simp <;> omega) (by simp) (2 : Nat)).mono ?_
    rintro _ _ ⟨rfl, q, wq, fq, mq⟩
    have s18 := s18.step fq mq
    have kb := kb.step fq mq
    have w := w.step' wq fq mq
    have st := st.prog (k := 2) (by decide) (by decide) [IntKind.i64.wrap (m.e + 1)]
    conv => whnf
    refine (nums19 w.1 (s18.nums rfl) (by
      refine Nat.le_trans st.len ?_
      simp <;> omega) (by simp) (5 : Nat)).mono ?_
    rintro _ _ ⟨rfl, q, wq, fq, mq⟩
    have kb := kb.step fq mq
    have w := w.step' wq fq mq
    have st := st.prog (k := 5) (by decide) (by decide) [m.f, m.l]
    conv => whnf
    rotate_left
    conv => whnf
    refine ⟨[], [5, 10], rfl, ?_, ?_⟩
    conv => whnf
    refine ⟨[0, 1, 2, 3, 6, 7, 8, 9, 12, 13, 14, 15, 16, 17, 4, 18, 5, 10, 11, 19], [0, 0, 2, 6, 14, 520223, 0, 64, 192, 448, 521215, 522239, 0, 4096, 12288, 0, 32768, 98304, 258078, 524287], by kernel_rfl, ?_⟩
    conv => whnf
    refine ⟨_, Cell.mk kb.1 rfl, ?_⟩
    conv => whnf
    refine ⟨_, Cell.mk kb.1 rfl, ?_⟩
    conv => whnf
    refine ⟨_, Cell.mk kb.1 rfl, ?_⟩
    conv => whnf
    refine ⟨_, Cell.mk kb.1 rfl, ?_⟩
    conv => whnf
    rw [oneNum]
    have s4 := Kp.push w.1 (.row true 1 (ints .i64 [m.c]))
    have kb := kb.keep (Mod.push none_ _ (.row true 1 (ints .i64 [m.c])))
    have w := w.keep (Mod.push none_ _ (.row true 1 (ints .i64 [m.c])))
    conv => whnf
    rw [twoNum]
    have s18 := Kp.push w.1 (.row true 1 (ints .i64 [m.f, m.l]))
    have s4 := s4.keep (Mod.push none_ _ (.row true 1 (ints .i64 [m.f, m.l])))
    have kb := kb.keep (Mod.push none_ _ (.row true 1 (ints .i64 [m.f, m.l])))
    have w := w.keep (Mod.push none_ _ (.row true 1 (ints .i64 [m.f, m.l])))
    conv => whnf
    refine (nums19 w.1 (s4.nums rfl) (by
      refine Nat.le_trans st.len ?_
      simp <;> omega) (by simp) (1 : Nat)).mono ?_
    rintro _ _ ⟨rfl, q, wq, fq, mq⟩
    have s18 := s18.step fq mq
    have kb := kb.step fq mq
    have w := w.step' wq fq mq
    have st := st.prog (k := 1) (by decide) (by decide) [m.c]
    refine ⟨?_, ?_⟩
    · conv => whnf
      exact ⟨_, Cell.mk kb.1 rfl, rfl⟩
    conv => whnf
    rw [oneNum]
    have s10 := Kp.push w.1 (.row true 1 (ints .i64 [IntKind.i64.wrap (m.e + 1)]))
    have s18 := s18.keep (Mod.push none_ _ (.row true 1 (ints .i64 [IntKind.i64.wrap (m.e + 1)])))
    have kb := kb.keep (Mod.push none_ _ (.row true 1 (ints .i64 [IntKind.i64.wrap (m.e + 1)])))
    have w := w.keep (Mod.push none_ _ (.row true 1 (ints .i64 [IntKind.i64.wrap (m.e + 1)])))
    conv => whnf
    refine (nums19 w.1 (s10.nums rfl) (by
      refine Nat.le_trans st.len ?_
      simp <;> omega) (by simp) (2 : Nat)).mono ?_
    rintro _ _ ⟨rfl, q, wq, fq, mq⟩
    have s18 := s18.step fq mq
    have kb := kb.step fq mq
    have w := w.step' wq fq mq
    have st := st.prog (k := 2) (by decide) (by decide) [IntKind.i64.wrap (m.e + 1)]
    conv => whnf
    refine (nums19 w.1 (s18.nums rfl) (by
      refine Nat.le_trans st.len ?_
      simp <;> omega) (by simp) (5 : Nat)).mono ?_
    rintro _ _ ⟨rfl, q, wq, fq, mq⟩
    have kb := kb.step fq mq
    have w := w.step' wq fq mq
    have st := st.prog (k := 5) (by decide) (by decide) [m.f, m.l]
    conv => whnf
    rotate_left
    conv => whnf
    refine ⟨[0, 1, 2, 3, 6, 7, 8, 9, 12, 13, 14, 15, 16, 17, 4, 18, 10, 5, 11, 19], [0, 0, 2, 6, 14, 522207, 0, 64, 192, 448, 521182, 522239, 0, 4096, 12288, 0, 32768, 98304, 258078, 524287], by kernel_rfl, ?_⟩
    conv => whnf
    refine ⟨_, Cell.mk kb.1 rfl, ?_⟩
    conv => whnf
    refine ⟨_, Cell.mk kb.1 rfl, ?_⟩
    conv => whnf
    refine ⟨_, Cell.mk kb.1 rfl, ?_⟩
    conv => whnf
    refine ⟨_, Cell.mk kb.1 rfl, ?_⟩
    conv => whnf
    rw [oneNum]
    have s4 := Kp.push w.1 (.row true 1 (ints .i64 [m.c]))
    have kb := kb.keep (Mod.push none_ _ (.row true 1 (ints .i64 [m.c])))
    have w := w.keep (Mod.push none_ _ (.row true 1 (ints .i64 [m.c])))
    conv => whnf
    rw [twoNum]
    have s18 := Kp.push w.1 (.row true 1 (ints .i64 [m.f, m.l]))
    have s4 := s4.keep (Mod.push none_ _ (.row true 1 (ints .i64 [m.f, m.l])))
    have kb := kb.keep (Mod.push none_ _ (.row true 1 (ints .i64 [m.f, m.l])))
    have w := w.keep (Mod.push none_ _ (.row true 1 (ints .i64 [m.f, m.l])))
    conv => whnf
    rw [oneNum]
    have s10 := Kp.push w.1 (.row true 1 (ints .i64 [IntKind.i64.wrap (m.e + 1)]))
    have s4 := s4.keep (Mod.push none_ _ (.row true 1 (ints .i64 [IntKind.i64.wrap (m.e + 1)])))
    have s18 := s18.keep (Mod.push none_ _ (.row true 1 (ints .i64 [IntKind.i64.wrap (m.e + 1)])))
    have kb := kb.keep (Mod.push none_ _ (.row true 1 (ints .i64 [IntKind.i64.wrap (m.e + 1)])))
    have w := w.keep (Mod.push none_ _ (.row true 1 (ints .i64 [IntKind.i64.wrap (m.e + 1)])))
    conv => whnf
    refine (nums19 w.1 (s4.nums rfl) (by
      refine Nat.le_trans st.len ?_
      simp <;> omega) (by simp) (1 : Nat)).mono ?_
    rintro _ _ ⟨rfl, q, wq, fq, mq⟩
    have s10 := s10.step fq mq
    have s18 := s18.step fq mq
    have kb := kb.step fq mq
    have w := w.step' wq fq mq
    have st := st.prog (k := 1) (by decide) (by decide) [m.c]
    conv => whnf
    refine (nums19 w.1 (s10.nums rfl) (by
      refine Nat.le_trans st.len ?_
      simp <;> omega) (by simp) (2 : Nat)).mono ?_
    rintro _ _ ⟨rfl, q, wq, fq, mq⟩
    have s18 := s18.step fq mq
    have kb := kb.step fq mq
    have w := w.step' wq fq mq
    have st := st.prog (k := 2) (by decide) (by decide) [IntKind.i64.wrap (m.e + 1)]
    conv => whnf
    refine (nums19 w.1 (s18.nums rfl) (by
      refine Nat.le_trans st.len ?_
      simp <;> omega) (by simp) (5 : Nat)).mono ?_
    rintro _ _ ⟨rfl, q, wq, fq, mq⟩
    have kb := kb.step fq mq
    have w := w.step' wq fq mq
    have st := st.prog (k := 5) (by decide) (by decide) [m.f, m.l]
    conv => whnf
    rotate_left
    conv => whnf
    refine ⟨[], [4, 10], rfl, ?_, ?_⟩
    conv => whnf
    refine ⟨[], [5, 10], rfl, ?_, ?_⟩
    conv => whnf
    refine ⟨[0, 1, 2, 3, 6, 7, 8, 9, 12, 13, 14, 15, 16, 17, 18, 4, 5, 10, 11, 19], [0, 0, 2, 6, 520206, 520223, 0, 64, 192, 448, 521215, 522239, 0, 4096, 12288, 0, 32768, 98304, 258048, 524287], by kernel_rfl, ?_⟩
    conv => whnf
    refine ⟨_, Cell.mk kb.1 rfl, ?_⟩
    conv => whnf
    refine ⟨_, Cell.mk kb.1 rfl, ?_⟩
    conv => whnf
    refine ⟨_, Cell.mk kb.1 rfl, ?_⟩
    conv => whnf
    refine ⟨_, Cell.mk kb.1 rfl, ?_⟩
    conv => whnf
    rw [twoNum]
    have s18 := Kp.push w.1 (.row true 1 (ints .i64 [m.f, m.l]))
    have kb := kb.keep (Mod.push none_ _ (.row true 1 (ints .i64 [m.f, m.l])))
    have w := w.keep (Mod.push none_ _ (.row true 1 (ints .i64 [m.f, m.l])))
    conv => whnf
    rw [oneNum]
    have s4 := Kp.push w.1 (.row true 1 (ints .i64 [m.c]))
    have s18 := s18.keep (Mod.push none_ _ (.row true 1 (ints .i64 [m.c])))
    have kb := kb.keep (Mod.push none_ _ (.row true 1 (ints .i64 [m.c])))
    have w := w.keep (Mod.push none_ _ (.row true 1 (ints .i64 [m.c])))
    conv => whnf
    refine (nums19 w.1 (s4.nums rfl) (by
      refine Nat.le_trans st.len ?_
      simp <;> omega) (by simp) (1 : Nat)).mono ?_
    rintro _ _ ⟨rfl, q, wq, fq, mq⟩
    have s18 := s18.step fq mq
    have kb := kb.step fq mq
    have w := w.step' wq fq mq
    have st := st.prog (k := 1) (by decide) (by decide) [m.c]
    refine ⟨?_, ?_⟩
    · conv => whnf
      exact ⟨_, Cell.mk kb.1 rfl, rfl⟩
    conv => whnf
    rw [oneNum]
    have s10 := Kp.push w.1 (.row true 1 (ints .i64 [IntKind.i64.wrap (m.e + 1)]))
    have s18 := s18.keep (Mod.push none_ _ (.row true 1 (ints .i64 [IntKind.i64.wrap (m.e + 1)])))
    have kb := kb.keep (Mod.push none_ _ (.row true 1 (ints .i64 [IntKind.i64.wrap (m.e + 1)])))
    have w := w.keep (Mod.push none_ _ (.row true 1 (ints .i64 [IntKind.i64.wrap (m.e + 1)])))
    conv => whnf
    refine (nums19 w.1 (s10.nums rfl) (by
      refine Nat.le_trans st.len ?_
      simp <;> omega) (by simp) (2 : Nat)).mono ?_
    rintro _ _ ⟨rfl, q, wq, fq, mq⟩
    have s18 := s18.step fq mq
    have kb := kb.step fq mq
    have w := w.step' wq fq mq
    have st := st.prog (k := 2) (by decide) (by decide) [IntKind.i64.wrap (m.e + 1)]
    conv => whnf
    refine (nums19 w.1 (s18.nums rfl) (by
      refine Nat.le_trans st.len ?_
      simp <;> omega) (by simp) (5 : Nat)).mono ?_
    rintro _ _ ⟨rfl, q, wq, fq, mq⟩
    have kb := kb.step fq mq
    have w := w.step' wq fq mq
    have st := st.prog (k := 5) (by decide) (by decide) [m.f, m.l]
    conv => whnf
    rotate_left
    conv => whnf
    refine ⟨[0, 1, 2, 3, 6, 7, 8, 9, 12, 13, 14, 15, 16, 17, 18, 4, 10, 5, 11, 19], [0, 0, 2, 6, 520206, 522207, 0, 64, 192, 448, 521182, 522239, 0, 4096, 12288, 0, 32768, 98304, 258048, 524287], by kernel_rfl, ?_⟩
    conv => whnf
    refine ⟨_, Cell.mk kb.1 rfl, ?_⟩
    conv => whnf
    refine ⟨_, Cell.mk kb.1 rfl, ?_⟩
    conv => whnf
    refine ⟨_, Cell.mk kb.1 rfl, ?_⟩
    conv => whnf
    refine ⟨_, Cell.mk kb.1 rfl, ?_⟩
    conv => whnf
    rw [twoNum]
    have s18 := Kp.push w.1 (.row true 1 (ints .i64 [m.f, m.l]))
    have kb := kb.keep (Mod.push none_ _ (.row true 1 (ints .i64 [m.f, m.l])))
    have w := w.keep (Mod.push none_ _ (.row true 1 (ints .i64 [m.f, m.l])))
    conv => whnf
    rw [oneNum]
    have s4 := Kp.push w.1 (.row true 1 (ints .i64 [m.c]))
    have s18 := s18.keep (Mod.push none_ _ (.row true 1 (ints .i64 [m.c])))
    have kb := kb.keep (Mod.push none_ _ (.row true 1 (ints .i64 [m.c])))
    have w := w.keep (Mod.push none_ _ (.row true 1 (ints .i64 [m.c])))
    conv => whnf
    rw [oneNum]
    have s10 := Kp.push w.1 (.row true 1 (ints .i64 [IntKind.i64.wrap (m.e + 1)]))
    have s4 := s4.keep (Mod.push none_ _ (.row true 1 (ints .i64 [IntKind.i64.wrap (m.e + 1)])))
    have s18 := s18.keep (Mod.push none_ _ (.row true 1 (ints .i64 [IntKind.i64.wrap (m.e + 1)])))
    have kb := kb.keep (Mod.push none_ _ (.row true 1 (ints .i64 [IntKind.i64.wrap (m.e + 1)])))
    have w := w.keep (Mod.push none_ _ (.row true 1 (ints .i64 [IntKind.i64.wrap (m.e + 1)])))
    conv => whnf
    refine (nums19 w.1 (s4.nums rfl) (by
      refine Nat.le_trans st.len ?_
      simp <;> omega) (by simp) (1 : Nat)).mono ?_
    rintro _ _ ⟨rfl, q, wq, fq, mq⟩
    have s10 := s10.step fq mq
    have s18 := s18.step fq mq
    have kb := kb.step fq mq
    have w := w.step' wq fq mq
    have st := st.prog (k := 1) (by decide) (by decide) [m.c]
    conv => whnf
    refine (nums19 w.1 (s10.nums rfl) (by
      refine Nat.le_trans st.len ?_
      simp <;> omega) (by simp) (2 : Nat)).mono ?_
    rintro _ _ ⟨rfl, q, wq, fq, mq⟩
    have s18 := s18.step fq mq
    have kb := kb.step fq mq
    have w := w.step' wq fq mq
    have st := st.prog (k := 2) (by decide) (by decide) [IntKind.i64.wrap (m.e + 1)]
    conv => whnf
    refine (nums19 w.1 (s18.nums rfl) (by
      refine Nat.le_trans st.len ?_
      simp <;> omega) (by simp) (5 : Nat)).mono ?_
    rintro _ _ ⟨rfl, q, wq, fq, mq⟩
    have kb := kb.step fq mq
    have w := w.step' wq fq mq
    have st := st.prog (k := 5) (by decide) (by decide) [m.f, m.l]
    conv => whnf
    rotate_left
    conv => whnf
    refine ⟨[], [10, 18], rfl, ?_, ?_⟩
    conv => whnf
    refine ⟨[0, 1, 2, 3, 6, 7, 8, 9, 12, 13, 14, 15, 16, 17, 10, 18, 4, 5, 11, 19], [0, 0, 2, 6, 522190, 522207, 0, 64, 192, 448, 960, 522239, 0, 4096, 12288, 0, 32768, 98304, 260032, 524287], by kernel_rfl, ?_⟩
    conv => whnf
    refine ⟨_, Cell.mk kb.1 rfl, ?_⟩
    conv => whnf
    refine ⟨_, Cell.mk kb.1 rfl, ?_⟩
    conv => whnf
    refine ⟨_, Cell.mk kb.1 rfl, ?_⟩
    conv => whnf
    refine ⟨_, Cell.mk kb.1 rfl, ?_⟩
    conv => whnf
    rw [oneNum]
    have s10 := Kp.push w.1 (.row true 1 (ints .i64 [IntKind.i64.wrap (m.e + 1)]))
    have kb := kb.keep (Mod.push none_ _ (.row true 1 (ints .i64 [IntKind.i64.wrap (m.e + 1)])))
    have w := w.keep (Mod.push none_ _ (.row true 1 (ints .i64 [IntKind.i64.wrap (m.e + 1)])))
    conv => whnf
    rw [twoNum]
    have s18 := Kp.push w.1 (.row true 1 (ints .i64 [m.f, m.l]))
    have s10 := s10.keep (Mod.push none_ _ (.row true 1 (ints .i64 [m.f, m.l])))
    have kb := kb.keep (Mod.push none_ _ (.row true 1 (ints .i64 [m.f, m.l])))
    have w := w.keep (Mod.push none_ _ (.row true 1 (ints .i64 [m.f, m.l])))
    conv => whnf
    rw [oneNum]
    have s4 := Kp.push w.1 (.row true 1 (ints .i64 [m.c]))
    have s10 := s10.keep (Mod.push none_ _ (.row true 1 (ints .i64 [m.c])))
    have s18 := s18.keep (Mod.push none_ _ (.row true 1 (ints .i64 [m.c])))
    have kb := kb.keep (Mod.push none_ _ (.row true 1 (ints .i64 [m.c])))
    have w := w.keep (Mod.push none_ _ (.row true 1 (ints .i64 [m.c])))
    conv => whnf
    refine (nums19 w.1 (s4.nums rfl) (by
      refine Nat.le_trans st.len ?_
      simp <;> omega) (by simp) (1 : Nat)).mono ?_
    rintro _ _ ⟨rfl, q, wq, fq, mq⟩
    have s10 := s10.step fq mq
    have s18 := s18.step fq mq
    have kb := kb.step fq mq
    have w := w.step' wq fq mq
    have st := st.prog (k := 1) (by decide) (by decide) [m.c]
    conv => whnf
    refine (nums19 w.1 (s10.nums rfl) (by
      refine Nat.le_trans st.len ?_
      simp <;> omega) (by simp) (2 : Nat)).mono ?_
    rintro _ _ ⟨rfl, q, wq, fq, mq⟩
    have s18 := s18.step fq mq
    have kb := kb.step fq mq
    have w := w.step' wq fq mq
    have st := st.prog (k := 2) (by decide) (by decide) [IntKind.i64.wrap (m.e + 1)]
    conv => whnf
    refine (nums19 w.1 (s18.nums rfl) (by
      refine Nat.le_trans st.len ?_
      simp <;> omega) (by simp) (5 : Nat)).mono ?_
    rintro _ _ ⟨rfl, q, wq, fq, mq⟩
    have kb := kb.step fq mq
    have w := w.step' wq fq mq
    have st := st.prog (k := 5) (by decide) (by decide) [m.f, m.l]
    conv => whnf
    rotate_left
    conv => whnf
    refine ⟨[0, 1, 2, 3, 6, 7, 8, 9, 12, 13, 14, 15, 16, 17, 18, 10, 4, 5, 11, 19], [0, 0, 2, 6, 522190, 522207, 0, 64, 192, 448, 521152, 522239, 0, 4096, 12288, 0, 32768, 98304, 258048, 524287], by kernel_rfl, ?_⟩
    conv => whnf
    refine ⟨_, Cell.mk kb.1 rfl, ?_⟩
    conv => whnf
    refine ⟨_, Cell.mk kb.1 rfl, ?_⟩
    conv => whnf
    refine ⟨_, Cell.mk kb.1 rfl, ?_⟩
    conv => whnf
    refine ⟨_, Cell.mk kb.1 rfl, ?_⟩
    conv => whnf
    rw [twoNum]
    have s18 := Kp.push w.1 (.row true 1 (ints .i64 [m.f, m.l]))
    have kb := kb.keep (Mod.push none_ _ (.row true 1 (ints .i64 [m.f, m.l])))
    have w := w.keep (Mod.push none_ _ (.row true 1 (ints .i64 [m.f, m.l])))
    conv => whnf
    rw [oneNum]
    have s10 := Kp.push w.1 (.row true 1 (ints .i64 [IntKind.i64.wrap (m.e + 1)]))
    have s18 := s18.keep (Mod.push none_ _ (.row true 1 (ints .i64 [IntKind.i64.wrap (m.e + 1)])))
    have kb := kb.keep (Mod.push none_ _ (.row true 1 (ints .i64 [IntKind.i64.wrap (m.e + 1)])))
    have w := w.keep (Mod.push none_ _ (.row true 1 (ints .i64 [IntKind.i64.wrap (m.e + 1)])))
    conv => whnf
    rw [oneNum]
    have s4 := Kp.push w.1 (.row true 1 (ints .i64 [m.c]))
    have s10 := s10.keep (Mod.push none_ _ (.row true 1 (ints .i64 [m.c])))
    have s18 := s18.keep (Mod.push none_ _ (.row true 1 (ints .i64 [m.c])))
    have kb := kb.keep (Mod.push none_ _ (.row true 1 (ints .i64 [m.c])))
    have w := w.keep (Mod.push none_ _ (.row true 1 (ints .i64 [m.c])))
    conv => whnf
    refine (nums19 w.1 (s4.nums rfl) (by
      refine Nat.le_trans st.len ?_
      simp <;> omega) (by simp) (1 : Nat)).mono ?_
    rintro _ _ ⟨rfl, q, wq, fq, mq⟩
    have s10 := s10.step fq mq
    have s18 := s18.step fq mq
    have kb := kb.step fq mq
    have w := w.step' wq fq mq
    have st := st.prog (k := 1) (by decide) (by decide) [m.c]
    conv => whnf
    refine (nums19 w.1 (s10.nums rfl) (by
      refine Nat.le_trans st.len ?_
      simp <;> omega) (by simp) (2 : Nat)).mono ?_
    rintro _ _ ⟨rfl, q, wq, fq, mq⟩
    have s18 := s18.step fq mq
    have kb := kb.step fq mq
    have w := w.step' wq fq mq
    have st := st.prog (k := 2) (by decide) (by decide) [IntKind.i64.wrap (m.e + 1)]
    conv => whnf
    refine (nums19 w.1 (s18.nums rfl) (by
      refine Nat.le_trans st.len ?_
      simp <;> omega) (by simp) (5 : Nat)).mono ?_
    rintro _ _ ⟨rfl, q, wq, fq, mq⟩
    have kb := kb.step fq mq
    have w := w.step' wq fq mq
    have st := st.prog (k := 5) (by decide) (by decide) [m.f, m.l]
    conv => whnf
    rotate_left
    all_goals
      refine ⟨_, Cell.mk kb.1 rfl, ?_⟩
      conv => whnf
      refine br_mk (fun hz => ?_) (fun hz => ?_)
      rotate_left
      · simp [h7] at hz
      conv => whnf
      exact ⟨by rw [knd_ne (by omega) (by omega) (by omega)], _, _, _, w, fun _ => by rw [parts, tailP_7 h7]; exact st⟩
  conv => whnf
  simp at h1 h2 h9 h5 h7
  have tp := tailP_0 h1 h2 h9 h5 h7
  refine br_mk (fun h3 => ?_) (fun h3 => ?_)
  · conv => whnf
    simp at h3
    refine br_mk (fun _ => ?_) (fun hz => ?_)
    rotate_left
    · simp [h3] at hz
    conv => whnf
    refine ⟨_, Cell.mk kb.1 rfl, ?_⟩
    conv => whnf
    refine br_mk (fun hz => ?_) (fun hz => ?_)
    rotate_left
    · simp [h3] at hz
    conv => whnf
    exact ⟨by rw [knd_ne (by omega) (by omega) (by omega)], _, _, _, w, fun _ => by rw [parts, tp]; exact st⟩
  conv => whnf
  refine br_mk (fun h4 => ?_) (fun h4 => ?_)
  · conv => whnf
    simp at h4
    refine br_mk (fun _ => ?_) (fun hz => ?_)
    rotate_left
    · simp [h4] at hz
    conv => whnf
    refine ⟨_, Cell.mk kb.1 rfl, ?_⟩
    conv => whnf
    refine br_mk (fun hz => ?_) (fun hz => ?_)
    rotate_left
    · simp [h4] at hz
    conv => whnf
    exact ⟨by rw [knd_ne (by omega) (by omega) (by omega)], _, _, _, w, fun _ => by rw [parts, tp]; exact st⟩
  conv => whnf
  refine br_mk (fun h6 => ?_) (fun h6 => ?_)
  · conv => whnf
    simp at h6
    refine br_mk (fun _ => ?_) (fun hz => ?_)
    rotate_left
    · simp [h6] at hz
    conv => whnf
    refine ⟨_, Cell.mk kb.1 rfl, ?_⟩
    conv => whnf
    refine br_mk (fun hz => ?_) (fun hz => ?_)
    rotate_left
    · simp [h6] at hz
    conv => whnf
    exact ⟨by rw [knd_ne (by omega) (by omega) (by omega)], _, _, _, w, fun _ => by rw [parts, tp]; exact st⟩
  conv => whnf
  refine br_mk (fun h8 => ?_) (fun h8 => ?_)
  · conv => whnf
    simp at h8
    refine ⟨_, Cell.mk kb.1 rfl, ?_⟩
    conv => whnf
    refine br_mk (fun hz => ?_) (fun hz => ?_)
    rotate_left
    · simp [h8] at hz
    conv => whnf
    exact ⟨by rw [knd_ne (by omega) (by omega) (by omega)], _, _, _, w, fun _ => by rw [parts, tp]; exact st⟩
  conv => whnf
  simp at h3 h4 h6 h8
  have hk := knd_no (m := m) (by omega)
  exact ⟨by rw [hk], _, _, _, w, fun e => by rw [hk] at e; cases e⟩
theorem Msg.ok.old {S : Nat → Prop} {h h' : H} {m : Msg} (o : m.ok h) (k : Ab.Mod S h h') (hS : ∀ i, i < h.next → ¬ S i) : m.ok h' := ⟨SlIs.old o.1 k hS, o.2⟩
def EncQ (m : Msg) (h : H) (r : V) (h' : H) : Prop := ∃ q, r = .tup [.sl q (encB m).length, i64 (if encOk m then 0 else 1)] ∧ OctR h' q (encB m).length (encB m) ∧ Ab.Mod none_ h h'
theorem enc41 {h : H} (m : Msg) (ok : m.ok h) : ACalls Tryz.prog 59 [.agg m.cells] h (EncQ m h) := by
  refine call_ Tryz.func59 rfl rfl (by kernel_rfl) ?_
  conv => whnf
  have mb := Mod.push none_ h (.row true 9 m.cells)
  have ok1 : m.ok (h.push (.row true 9 m.cells)) := ok.old mb (fun _ _ k => k)
  have gb : (h.push (.row true 9 m.cells)).obj h.next = some (.row true 9 m.cells) := H.obj_push_new _ _
  have w := NewW.new (h.push (.row true 9 m.cells))
  have gb2 := w.2.2.get gb (.inl (fun k => k))
  refine ⟨m.cells, Cells.mk gb2 (by simp [Msg.cells]; decide) rfl, ?_⟩
  conv => whnf
  refine (writes57 w m ok1).mono ?_
  rintro _ h2 ⟨rfl, p2, xs, sp, w2, st⟩
  conv => whnf
  have m2 := mod_none mb w2.2.2
  refine br_mk (fun hb => ?_) (fun hb => ?_)
  · conv => whnf
    have hk : knd m = false := by simpa using hb
    have he : encOk m = false := by rw [encOk, hk, Bool.false_and]
    have hB : encB m = [] := by rw [encB, he]; rfl
    show EncQ m h (.tup [.sl none 0, i64 1]) _
    unfold EncQ
    rw [he, hB]
    exact ⟨none, rfl, OctR.nil _ _, m2⟩
  conv => whnf
  have hk : knd m = true := by simpa using hb
  have st := st hk
  have hl := st.len
  have hp := parts_len m
  have ho := ok.2.2.2
  refine (bytes23 w2.1 (by omega)).mono ?_
  rintro _ h3 ⟨q, n, rfl, o3, m3⟩
  rw [st.done] at o3
  have he : encOk m = fitP (parts m) := by rw [encOk, hk, Bool.true_and]
  have hB : encB m = if fitP (parts m) = true then bytesP (parts m) else [] := by rw [encB, he]
  rw [← hB] at o3
  have hn := o3.len
  subst hn
  conv => whnf
  refine ⟨_, rfl, ?_⟩
  conv => whnf
  refine ⟨_, rfl, ?_⟩
  conv => whnf
  refine ⟨q, ?_, o3, mod_none m2 m3⟩
  rw [he, st.hsp]
  cases fitP (parts m) <;> rfl
theorem equal58 {h : H} {p q : Option (Nat × Nat)} {n m : Nat} {xs ys : List Int} (o1 : SlIs h p n false 1 (ints .u8 xs)) (b1 : Bts xs) (o2 : SlIs h q m false 1 (ints .u8 ys)) (b2 : Bts ys) : ACalls Tryz.prog 81 [.sl p n, .sl q m] h (fun r h' => h' = h ∧ r = .bool (xs == ys)) := by
  refine call_ Tryz.func81 rfl rfl (by kernel_rfl) ?_
  conv => whnf
  refine ⟨_, o1, b1, ?_⟩
  conv => whnf
  refine ⟨_, o2, b2, ?_⟩
  conv => whnf
  exact ⟨rfl, rfl⟩
theorem beq_len_ne {xs ys : List Int} (h : xs.length ≠ ys.length) : (xs == ys) = false := by
  cases e : xs == ys with
  | false => rfl
  | true => exact absurd (congrArg List.length (beq_iff_eq.1 e)) h
theorem beq_get_ne {xs ys : List Int} {j : Nat} (h : xs.getD j 0 ≠ ys.getD j 0) : (xs == ys) = false := by
  cases e : xs == ys with
  | false => rfl
  | true => exact absurd (by rw [beq_iff_eq.1 e]) h
theorem take_succ_eq {xs ys : List Int} {j : Nat} (hx : j < xs.length) (hy : j < ys.length) (h : xs.take j = ys.take j) (e : xs.getD j 0 = ys.getD j 0) : xs.take (j + 1) = ys.take (j + 1) := by
  rw [List.take_add_one, List.take_add_one, h, get_getD hx, get_getD hy, e]
theorem ints47 {h : H} {p q : Option (Nat × Nat)} {n m : Nat} {xs ys : List Int} (o1 : SlIs h p n false 1 (ints .i64 xs)) (o2 : SlIs h q m false 1 (ints .i64 ys)) (hn : n ≤ 70368744177664) : ACalls Tryz.prog 30 [.sl p n, .sl q m] h (fun r h' => h' = h ∧ r = .bool (xs == ys)) := by
  have h1 := slo_len o1
  have h2 := slo_len o2
  subst h1 h2
  refine call_ Tryz.func30 rfl rfl (by kernel_rfl) ?_
  conv => whnf
  refine br_mk (fun hb => ?_) (fun hb => ?_)
  · conv => whnf
    simp at hb
    rw [beq_len_ne (xs := xs) (ys := ys) (by omega)]
    exact ⟨rfl, rfl⟩
  conv => whnf
  simp at hb
  refine ⟨fun env hh => hh = h ∧ ∃ (j : Nat) (z : Int), j ≤ xs.length ∧ z = j ∧ xs.take j = ys.take j ∧ env = [(5, i64 z), (1, .sl q ys.length), (0, .sl p xs.length)],
    fun env _ => match get env 5 with
      | .int _ z => (xs.length - z).toNat
      | _ => 0, ⟨_, Forget.cons rfl (Forget.cons rfl (Forget.cons rfl (Forget.nil _))), rfl, 0, _, Nat.zero_le _, rfl, rfl, rfl⟩, ?_⟩
  rintro _ _ ⟨rfl, j, z, hj, rfl, ht, rfl⟩
  conv => whnf
  refine br_mk (fun hc => ?_) (fun hc => ?_)
  rotate_left
  · conv => whnf
    simp at hc
    obtain rfl : j = xs.length := by omega
    have : xs = ys := by
      rw [List.take_length] at ht
      rw [ht, List.take_of_length_le (by omega)]
    subst this
    exact ⟨rfl, by rw [beq_self_eq_true]⟩
  conv => whnf
  simp at hc
  refine ⟨[0, 1, 2, 3, 4, 5, 6, 7, 8], [0, 0, 3, 7, 0, 0, 48, 112, 255], by kernel_rfl, ?_⟩
  conv => whnf
  obtain ⟨i, c, rfl, k1⟩ := slo_get o1 hc
  refine ⟨_, _, j, rfl, rfl, hc, ?_⟩
  conv => whnf
  refine ⟨_, k1, ?_⟩
  conv => whnf
  obtain ⟨i', c', rfl, k2⟩ := slo_get o2 (j := j) (by omega)
  refine ⟨_, _, j, rfl, rfl, by omega, ?_⟩
  conv => whnf
  refine ⟨_, k2, ?_⟩
  conv => whnf
  refine br_mk (fun hd => ?_) (fun hd => ?_)
  · conv => whnf
    rw [beq_get_ne (xs := xs) (ys := ys) (j := j) (by simpa using hd)]
    exact ⟨rfl, rfl⟩
  conv => whnf
  have hs2 := succ_i64 (j := j) (n := xs.length) hc hn
  refine ⟨_, Forget.cons rfl (Forget.cons rfl (Forget.cons rfl (Forget.nil _))), ⟨rfl, j + 1, _, by omega, hs2, take_succ_eq hc (by omega) ht (by simpa using hd), rfl⟩, ?_⟩
  show (xs.length - IntKind.i64.wrap ((j : Int) + 1)).toNat < (xs.length - (j : Int)).toNat
  rw [hs2]
  omega
def hintL (m : Msg) : List Int := [m.c, m.e, m.f, m.l]
def sameM (a b : Msg) : Bool := a.k == b.k && (a.p == b.p && (a.d == b.d && (a.es == b.es && (a.w == b.w && hintL a == hintL b))))
theorem Wst.cast {ps ps' : List (Nat × Int)} {xs : List Int} {sp : Bool} (w : Wst ps xs sp) (e : ps' = ps) : Wst ps' xs sp := e ▸ w
def RefQ (m : Msg) (h : H) (r : V) (h' : H) : Prop := ∃ q, r = .tup [.sl q (encB m).length, .bool (encOk m)] ∧ OctR h' q (encB m).length (encB m) ∧ Ab.Mod none_ h h'
def RefQ' (m : Msg) (h : H) (r : V) (h' : H) : Prop := ∃ q, r = .tup [.sl q (encB m).length, .bool (encOk m)] ∧ NewSl h h' q (encB m).length 1 (ints .u8 (encB m)) ∧ Ab.Mod none_ h h'
theorem refQ_none {m : Msg} {h h' : H} (he : encOk m = false) (k : Ab.Mod none_ h h') : RefQ' m h (.tup [.sl none 0, .bool false]) h' := by
  have hB : encB m = [] := by rw [encB, he]; rfl
  unfold RefQ'
  rw [he, hB]
  exact ⟨none, rfl, NewSl.nil _ _ _, k⟩
theorem refQ_some {m : Msg} {h h0 h' : H} {g : Nat} {p : Option (Nat × Nat)} {xs : List Int} {sp : Bool} (m0 : Ab.Mod none_ h h0) (he : encOk m = true) (hx : xs = encB m) (w : NewW h0 h' g p xs sp) : RefQ' m h (.tup [.sl p xs.length, .bool true]) h' := by
  subst hx
  refine ⟨p, by rw [he], ⟨w.1.2.1, fun i o e => ?_⟩, mod_none m0 w.2.2⟩
  have := w.2.1 i (.inr ⟨o, e⟩)
  have := m0.next
  omega
theorem unfit_e {m : Msg} (hk : m.k = 7) (h1 : -9223372036854775808 ≤ m.e) (h2 : m.e ≤ 9223372036854775807) (h : m.e < -1 ∨ 65534 < m.e) : encOk m = false := by
  have e : decide (0 ≤ IntKind.i64.wrap (m.e + 1) ∧ IntKind.i64.wrap (m.e + 1) < 2 ^ (8 * 2)) = false := by
    rw [decide_eq_false_iff_not]
    by_cases hm : m.e = 9223372036854775807
    · rw [hm]
      decide
    · rw [wrap_i64 (by omega) (by omega)]
      have : (2 : Int) ^ (8 * 2) = 65536 := rfl
      omega
  rw [encOk, parts, tailP_7 hk]
  simp only [fitP, List.all_cons, e, Bool.false_and, Bool.and_false]
theorem ref42 {h : H} (m : Msg) (ok : m.ok h) : ACalls Tryz.prog 18 [.agg m.cells] h (RefQ m h) := by
  refine ACalls.ro (Q := RefQ' m h) ?_ ?_
  rotate_left
  · rintro r h' ⟨q, rfl, n1, mm⟩
    obtain ⟨i, _, k1, k2⟩ := n1.freeze mm
    exact ⟨i, q, rfl, k1, k2⟩
  refine call_ Tryz.func18 rfl rfl (by kernel_rfl) ?_
  conv => whnf
  have mb := Mod.push none_ h (.row true 9 m.cells)
  have ok1 : m.ok (h.push (.row true 9 m.cells)) := ok.old mb (fun _ _ k => k)
  have w := NewW.new (h.push (.row true 9 m.cells))
  have kb : Kp _ (h.push (.row true 9 m.cells)).next none h.next (.row true 9 m.cells) := ⟨w.2.2.get (H.obj_push_new _ _) (.inl (fun k => k)), by
    rintro (k | ⟨_, k⟩)
    · exact absurd k (Nat.ne_of_lt (Nat.lt_succ_self _))
    · cases k⟩
  have none_ : ∀ {h' : H}, encOk m = false → Ab.Mod none_ (h.push (.row true 9 m.cells)) h' → RefQ' m h (.tup [.sl none 0, .bool false]) h' := fun he k => refQ_none he (mod_none mb k)
  have some_ : ∀ {h' : H} {g : Nat} {p : Option (Nat × Nat)} {xs : List Int} {sp : Bool}, encOk m = true → xs = encB m → NewW (h.push (.row true 9 m.cells)) h' g p xs sp → RefQ' m h (.tup [.sl p xs.length, .bool true]) h' := fun he hx w => refQ_some mb he hx w
  have st := Wst.nil
  generalize hbx : h.next = bx at *
  refine ⟨_, Cell.mk kb.1 rfl, ?_⟩
  conv => whnf
  refine (num21 w.1 (by
    refine Nat.le_trans st.len ?_
    simp) ((1 : Nat) : Int) m.k).mono ?_
  rintro _ _ ⟨rfl, q, wq, fq, mq⟩
  have kb := kb.step fq mq
  have w := w.step' wq fq mq
  have st := st.ref (k := 1) (by decide) (by decide) m.k
  conv => whnf
  refine ⟨_, Cell.mk kb.1 rfl, ?_⟩
  conv => whnf
  refine br_mk (fun h1 => ?_) (fun h1 => ?_)
  · conv => whnf
    simp at h1
    refine ⟨_, Cell.mk kb.1 rfl, ?_⟩
    conv => whnf
    refine (num21 w.1 (by
      refine Nat.le_trans st.len ?_
      simp) ((2 : Nat) : Int) m.p).mono ?_
    rintro _ _ ⟨rfl, q, wq, fq, mq⟩
    have kb := kb.step fq mq
    have w := w.step' wq fq mq
    have st := st.ref (k := 2) (by decide) (by decide) m.p
    conv => whnf
    refine ⟨_, Cell.mk kb.1 rfl, ?_⟩
    conv => whnf
    refine (num21 w.1 (by
      refine Nat.le_trans st.len ?_
      simp) ((2 : Nat) : Int) m.d).mono ?_
    rintro _ _ ⟨rfl, q, wq, fq, mq⟩
    have kb := kb.step fq mq
    have w := w.step' wq fq mq
    have st := st.ref (k := 2) (by decide) (by decide) m.d
    conv => whnf
    have st := st.cast (ps' := parts m) (by
      rw [parts, tailP_1 h1]
      rfl)
    have hk : knd m = true := knd_ne (by omega) (by omega) (by omega)
    refine ⟨_, Cell.mk w.1.1 rfl, ?_⟩
    conv => whnf
    refine br_mk (fun hz => ?_) (fun hz => ?_)
    · conv => whnf
      have he : encOk m = false := by
        have := st.hsp
        rw [hz] at this
        rw [encOk, hk, Bool.true_and]
        simpa using this.symm
      exact none_ he w.2.2
    conv => whnf
    refine ⟨_, Cell.mk w.1.1 rfl, ?_⟩
    conv => whnf
    have hd := st.done
    rw [hz] at hd
    have he : encOk m = true := by
      have := st.hsp
      rw [hz] at this
      rw [encOk, hk, Bool.true_and]
      simpa using this.symm
    have hf : fitP (parts m) = true := by
      rw [encOk, hk, Bool.true_and] at he
      exact he
    rw [hf] at hd
    have hB : encB m = bytesP (parts m) := by rw [encB, he]; rfl
    have hx := hd.trans hB.symm
    exact some_ he hx w
  conv => whnf
  refine br_mk (fun h2 => ?_) (fun h2 => ?_)
  · conv => whnf
    simp at h2
    refine br_mk (fun _ => ?_) (fun hz => ?_)
    rotate_left
    · simp [h2] at hz
    conv => whnf
    refine ⟨_, Cell.mk kb.1 rfl, ?_⟩
    conv => whnf
    refine (num21 w.1 (by
      refine Nat.le_trans st.len ?_
      simp) ((2 : Nat) : Int) m.p).mono ?_
    rintro _ _ ⟨rfl, q, wq, fq, mq⟩
    have kb := kb.step fq mq
    have w := w.step' wq fq mq
    have st := st.ref (k := 2) (by decide) (by decide) m.p
    conv => whnf
    have st := st.cast (ps' := parts m) (by
      rw [parts, tailP_2 (.inl h2)]
      rfl)
    have hk : knd m = true := knd_ne (by omega) (by omega) (by omega)
    refine ⟨_, Cell.mk w.1.1 rfl, ?_⟩
    conv => whnf
    refine br_mk (fun hz => ?_) (fun hz => ?_)
    · conv => whnf
      have he : encOk m = false := by
        have := st.hsp
        rw [hz] at this
        rw [encOk, hk, Bool.true_and]
        simpa using this.symm
      exact none_ he w.2.2
    conv => whnf
    refine ⟨_, Cell.mk w.1.1 rfl, ?_⟩
    conv => whnf
    have hd := st.done
    rw [hz] at hd
    have he : encOk m = true := by
      have := st.hsp
      rw [hz] at this
      rw [encOk, hk, Bool.true_and]
      simpa using this.symm
    have hf : fitP (parts m) = true := by
      rw [encOk, hk, Bool.true_and] at he
      exact he
    rw [hf] at hd
    have hB : encB m = bytesP (parts m) := by rw [encB, he]; rfl
    have hx := hd.trans hB.symm
    exact some_ he hx w
  conv => whnf
  refine br_mk (fun h9 => ?_) (fun h9 => ?_)
  · conv => whnf
    simp at h9
    refine ⟨_, Cell.mk kb.1 rfl, ?_⟩
    conv => whnf
    refine (num21 w.1 (by
      refine Nat.le_trans st.len ?_
      simp) ((2 : Nat) : Int) m.p).mono ?_
    rintro _ _ ⟨rfl, q, wq, fq, mq⟩
    have kb := kb.step fq mq
    have w := w.step' wq fq mq
    have st := st.ref (k := 2) (by decide) (by decide) m.p
    conv => whnf
    have st := st.cast (ps' := parts m) (by
      rw [parts, tailP_2 (.inr h9)]
      rfl)
    have hk : knd m = true := knd_ne (by omega) (by omega) (by omega)
    refine ⟨_, Cell.mk w.1.1 rfl, ?_⟩
    conv => whnf
    refine br_mk (fun hz => ?_) (fun hz => ?_)
    · conv => whnf
      have he : encOk m = false := by
        have := st.hsp
        rw [hz] at this
        rw [encOk, hk, Bool.true_and]
        simpa using this.symm
      exact none_ he w.2.2
    conv => whnf
    refine ⟨_, Cell.mk w.1.1 rfl, ?_⟩
    conv => whnf
    have hd := st.done
    rw [hz] at hd
    have he : encOk m = true := by
      have := st.hsp
      rw [hz] at this
      rw [encOk, hk, Bool.true_and]
      simpa using this.symm
    have hf : fitP (parts m) = true := by
      rw [encOk, hk, Bool.true_and] at he
      exact he
    rw [hf] at hd
    have hB : encB m = bytesP (parts m) := by rw [encB, he]; rfl
    have hx := hd.trans hB.symm
    exact some_ he hx w
  conv => whnf
  refine br_mk (fun h5 => ?_) (fun h5 => ?_)
  · conv => whnf
    simp at h5
    refine ⟨_, Cell.mk kb.1 rfl, ?_⟩
    conv => whnf
    refine br_mk (fun hl => ?_) (fun hl => ?_)
    · conv => whnf
      simp at hl
      have hk : knd m = false := by
        rw [knd_5 h5, decide_eq_false]
        omega
      exact none_ (by rw [encOk, hk, Bool.false_and]) w.2.2
    conv => whnf
    simp at hl
    refine ⟨_, Cell.mk kb.1 rfl, ?_⟩
    conv => whnf
    refine (num21 w.1 (by
      refine Nat.le_trans st.len ?_
      simp) ((5 : Nat) : Int) m.w).mono ?_
    rintro _ _ ⟨rfl, q, wq, fq, mq⟩
    have kb := kb.step fq mq
    have w := w.step' wq fq mq
    have st := st.ref (k := 5) (by decide) (by decide) m.w
    conv => whnf
    refine ⟨_, Cell.mk kb.1 rfl, ?_⟩
    conv => whnf
    refine (num21 w.1 (by
      refine Nat.le_trans st.len ?_
      simp) ((2 : Nat) : Int) (m.es.length : Int)).mono ?_
    rintro _ _ ⟨rfl, q, wq, fq, mq⟩
    have kb := kb.step fq mq
    have w := w.step' wq fq mq
    have st := st.ref (k := 2) (by decide) (by decide) (m.es.length : Int)
    conv => whnf
    have ho := ok.2.2.2
    refine ⟨fun env hh => ∃ (j : Nat) (z : Int) (q : Option (Nat × Nat)) (xs : List Int) (sp : Bool), j ≤ m.es.length ∧ z = j ∧ NewW (h.push (.row true 9 m.cells)) hh (h.push (.row true 9 m.cells)).next q xs sp ∧ Kp hh (h.push (.row true 9 m.cells)).next q bx (.row true 9 m.cells) ∧ Wst ([(1, m.k), (5, m.w), (2, (m.es.length : Int))] ++ (m.es.take j).map fun v => (2, v)) xs sp ∧ env = [(5, i64 z), (4, .ptr (some ((h.push (.row true 9 m.cells)).next, 0))), (1, .ptr (some (bx, 0)))],
      fun env _ => match get env 5 with
        | .int _ z => (m.es.length - z).toNat
        | _ => 0, ⟨_, Forget.cons rfl (Forget.cons rfl (Forget.cons rfl (Forget.nil _))), 0, _, _, _, _, Nat.zero_le _, rfl, w, kb, st, rfl⟩, ?_⟩
    clear w kb st
    rintro _ h3 ⟨j, z, p, xs, sp, hj, rfl, w, kb, st, rfl⟩
    conv => whnf
    refine ⟨_, Cell.mk kb.1 rfl, ?_⟩
    conv => whnf
    refine br_mk (fun hc => ?_) (fun hc => ?_)
    rotate_left
    · conv => whnf
      simp at hc
      obtain rfl : j = m.es.length := by omega
      rw [List.take_length] at st
      have st := st.cast (ps' := parts m) (by
        rw [parts, tailP_5 h5]
        rfl)
      have hk : knd m = true := by rw [knd_5 h5, decide_eq_true]; omega
      refine ⟨_, Cell.mk w.1.1 rfl, ?_⟩
      conv => whnf
      refine br_mk (fun hz => ?_) (fun hz => ?_)
      · conv => whnf
        have he : encOk m = false := by
          have := st.hsp
          rw [hz] at this
          rw [encOk, hk, Bool.true_and]
          simpa using this.symm
        exact none_ he w.2.2
      conv => whnf
      refine ⟨_, Cell.mk w.1.1 rfl, ?_⟩
      conv => whnf
      have hd := st.done
      rw [hz] at hd
      have he : encOk m = true := by
        have := st.hsp
        rw [hz] at this
        rw [encOk, hk, Bool.true_and]
        simpa using this.symm
      have hf : fitP (parts m) = true := by
        rw [encOk, hk, Bool.true_and] at he
        exact he
      rw [hf] at hd
      have hB : encB m = bytesP (parts m) := by rw [encB, he]; rfl
      have hx := hd.trans hB.symm
      exact some_ he hx w
    conv => whnf
    simp at hc
    refine ⟨_, Cell.mk kb.1 rfl, ?_⟩
    conv => whnf
    have ok3 := SlIs.old ok1.1 w.2.2 (fun _ _ k => k)
    obtain ⟨i, c, e, k1⟩ := slo_get ok3 hc
    rw [e]
    refine ⟨_, _, j, rfl, rfl, hc, ?_⟩
    conv => whnf
    refine ⟨_, k1, ?_⟩
    conv => whnf
    refine (num21 w.1 (by
      refine Nat.le_trans st.len ?_
      simp
      omega) ((2 : Nat) : Int) (m.es.getD j 0)).mono ?_
    rintro _ _ ⟨rfl, q, wq, fq, mq⟩
    have kb := kb.step fq mq
    have w := w.step' wq fq mq
    have st := st.ref (k := 2) (by decide) (by decide) (m.es.getD j 0)
    conv => whnf
    have hs2 := succ_i64 (j := j) (n := m.es.length) hc (by omega)
    refine ⟨_, Forget.cons rfl (Forget.cons rfl (Forget.cons rfl (Forget.nil _))), ⟨j + 1, _, _, _, _, by omega, hs2, w, kb, ?_, rfl⟩, ?_⟩
    · rw [List.append_assoc] at st
      rw [List.take_add_one, get_getD hc, List.map_append]
      exact st
    · show (m.es.length - IntKind.i64.wrap ((j : Int) + 1)).toNat < (m.es.length - (j : Int)).toNat
      rw [hs2]
      omega
  conv => whnf
  refine br_mk (fun h7 => ?_) (fun h7 => ?_)
  · conv => whnf
    simp at h7
    refine ⟨_, Cell.mk kb.1 rfl, ?_⟩
    conv => whnf
    refine (num21 w.1 (by
      refine Nat.le_trans st.len ?_
      simp) ((1 : Nat) : Int) m.c).mono ?_
    rintro _ _ ⟨rfl, q, wq, fq, mq⟩
    have kb := kb.step fq mq
    have w := w.step' wq fq mq
    have st := st.ref (k := 1) (by decide) (by decide) m.c
    conv => whnf
    refine ⟨_, Cell.mk kb.1 rfl, ?_⟩
    conv => whnf
    refine br_mk (fun ha => ?_) (fun ha => ?_)
    · conv => whnf
      simp at ha
      exact none_ (unfit_e h7 ok.2.1 ok.2.2.1 (.inl ha)) w.2.2
    conv => whnf
    refine ⟨_, Cell.mk kb.1 rfl, ?_⟩
    conv => whnf
    refine br_mk (fun hb => ?_) (fun hb => ?_)
    · conv => whnf
      simp at hb
      exact none_ (unfit_e h7 ok.2.1 ok.2.2.1 (.inr hb)) w.2.2
    conv => whnf
    refine ⟨_, Cell.mk kb.1 rfl, ?_⟩
    conv => whnf
    refine (num21 w.1 (by
      refine Nat.le_trans st.len ?_
      simp) ((2 : Nat) : Int) (IntKind.i64.wrap (m.e + 1))).mono ?_
    rintro _ _ ⟨rfl, q, wq, fq, mq⟩
    have kb := kb.step fq mq
    have w := w.step' wq fq mq
    have st := st.ref (k := 2) (by decide) (by decide) (IntKind.i64.wrap (m.e + 1))
    conv => whnf
    refine ⟨_, Cell.mk kb.1 rfl, ?_⟩
    conv => whnf
    refine (num21 w.1 (by
      refine Nat.le_trans st.len ?_
      simp) ((5 : Nat) : Int) m.f).mono ?_
    rintro _ _ ⟨rfl, q, wq, fq, mq⟩
    have kb := kb.step fq mq
    have w := w.step' wq fq mq
    have st := st.ref (k := 5) (by decide) (by decide) m.f
    conv => whnf
    refine ⟨_, Cell.mk kb.1 rfl, ?_⟩
    conv => whnf
    refine (num21 w.1 (by
      refine Nat.le_trans st.len ?_
      simp) ((5 : Nat) : Int) m.l).mono ?_
    rintro _ _ ⟨rfl, q, wq, fq, mq⟩
    have kb := kb.step fq mq
    have w := w.step' wq fq mq
    have st := st.ref (k := 5) (by decide) (by decide) m.l
    conv => whnf
    have st := st.cast (ps' := parts m) (by
      rw [parts, tailP_7 h7]
      rfl)
    have hk : knd m = true := knd_ne (by omega) (by omega) (by omega)
    refine ⟨_, Cell.mk w.1.1 rfl, ?_⟩
    conv => whnf
    refine br_mk (fun hz => ?_) (fun hz => ?_)
    · conv => whnf
      have he : encOk m = false := by
        have := st.hsp
        rw [hz] at this
        rw [encOk, hk, Bool.true_and]
        simpa using this.symm
      exact none_ he w.2.2
    conv => whnf
    refine ⟨_, Cell.mk w.1.1 rfl, ?_⟩
    conv => whnf
    have hd := st.done
    rw [hz] at hd
    have he : encOk m = true := by
      have := st.hsp
      rw [hz] at this
      rw [encOk, hk, Bool.true_and]
      simpa using this.symm
    have hf : fitP (parts m) = true := by
      rw [encOk, hk, Bool.true_and] at he
      exact he
    rw [hf] at hd
    have hB : encB m = bytesP (parts m) := by rw [encB, he]; rfl
    have hx := hd.trans hB.symm
    exact some_ he hx w
  conv => whnf
  simp at h1 h2 h9 h5 h7
  have tp := tailP_0 h1 h2 h9 h5 h7
  refine br_mk (fun h3 => ?_) (fun h3 => ?_)
  · conv => whnf
    simp at h3
    refine br_mk (fun _ => ?_) (fun hz => ?_)
    rotate_left
    · simp [h3] at hz
    conv => whnf
    have st := st.cast (ps' := parts m) (by
      rw [parts, tp]
      rfl)
    have hk : knd m = true := knd_ne (by omega) (by omega) (by omega)
    refine ⟨_, Cell.mk w.1.1 rfl, ?_⟩
    conv => whnf
    refine br_mk (fun hz => ?_) (fun hz => ?_)
    · conv => whnf
      have he : encOk m = false := by
        have := st.hsp
        rw [hz] at this
        rw [encOk, hk, Bool.true_and]
        simpa using this.symm
      exact none_ he w.2.2
    conv => whnf
    refine ⟨_, Cell.mk w.1.1 rfl, ?_⟩
    conv => whnf
    have hd := st.done
    rw [hz] at hd
    have he : encOk m = true := by
      have := st.hsp
      rw [hz] at this
      rw [encOk, hk, Bool.true_and]
      simpa using this.symm
    have hf : fitP (parts m) = true := by
      rw [encOk, hk, Bool.true_and] at he
      exact he
    rw [hf] at hd
    have hB : encB m = bytesP (parts m) := by rw [encB, he]; rfl
    have hx := hd.trans hB.symm
    exact some_ he hx w
  conv => whnf
  refine br_mk (fun h4 => ?_) (fun h4 => ?_)
  · conv => whnf
    simp at h4
    refine br_mk (fun _ => ?_) (fun hz => ?_)
    rotate_left
    · simp [h4] at hz
    conv => whnf
    have st := st.cast (ps' := parts m) (by
      rw [parts, tp]
      rfl)
    have hk : knd m = true := knd_ne (by omega) (by omega) (by omega)
    refine ⟨_, Cell.mk w.1.1 rfl, ?_⟩
    conv => whnf
    refine br_mk (fun hz => ?_) (fun hz => ?_)
    · conv => whnf
      have he : encOk m = false := by
        have := st.hsp
        rw [hz] at this
        rw [encOk, hk, Bool.true_and]
        simpa using this.symm
      exact none_ he w.2.2
    conv => whnf
    refine ⟨_, Cell.mk w.1.1 rfl, ?_⟩
    conv => whnf
    have hd := st.done
    rw [hz] at hd
    have he : encOk m = true := by
      have := st.hsp
      rw [hz] at this
      rw [encOk, hk, Bool.true_and]
      simpa using this.symm
    have hf : fitP (parts m) = true := by
      rw [encOk, hk, Bool.true_and] at he
      exact he
    rw [hf] at hd
    have hB : encB m = bytesP (parts m) := by rw [encB, he]; rfl
    have hx := hd.trans hB.symm
    exact some_ he hx w
  conv => whnf
  refine br_mk (fun h6 => ?_) (fun h6 => ?_)
  · conv => whnf
    simp at h6
    refine br_mk (fun _ => ?_) (fun hz => ?_)
    rotate_left
    · simp [h6] at hz
    conv => whnf
    have st := st.cast (ps' := parts m) (by
      rw [parts, tp]
      rfl)
    have hk : knd m = true := knd_ne (by omega) (by omega) (by omega)
    refine ⟨_, Cell.mk w.1.1 rfl, ?_⟩
    conv => whnf
    refine br_mk (fun hz => ?_) (fun hz => ?_)
    · conv => whnf
      have he : encOk m = false := by
        have := st.hsp
        rw [hz] at this
        rw [encOk, hk, Bool.true_and]
        simpa using this.symm
      exact none_ he w.2.2
    conv => whnf
    refine ⟨_, Cell.mk w.1.1 rfl, ?_⟩
    conv => whnf
    have hd := st.done
    rw [hz] at hd
    have he : encOk m = true := by
      have := st.hsp
      rw [hz] at this
      rw [encOk, hk, Bool.true_and]
      simpa using this.symm
    have hf : fitP (parts m) = true := by
      rw [encOk, hk, Bool.true_and] at he
      exact he
    rw [hf] at hd
    have hB : encB m = bytesP (parts m) := by rw [encB, he]; rfl
    have hx := hd.trans hB.symm
    exact some_ he hx w
  conv => whnf
  refine br_mk (fun h8 => ?_) (fun h8 => ?_)
  · conv => whnf
    simp at h8
    have st := st.cast (ps' := parts m) (by
      rw [parts, tp]
      rfl)
    have hk : knd m = true := knd_ne (by omega) (by omega) (by omega)
    refine ⟨_, Cell.mk w.1.1 rfl, ?_⟩
    conv => whnf
    refine br_mk (fun hz => ?_) (fun hz => ?_)
    · conv => whnf
      have he : encOk m = false := by
        have := st.hsp
        rw [hz] at this
        rw [encOk, hk, Bool.true_and]
        simpa using this.symm
      exact none_ he w.2.2
    conv => whnf
    refine ⟨_, Cell.mk w.1.1 rfl, ?_⟩
    conv => whnf
    have hd := st.done
    rw [hz] at hd
    have he : encOk m = true := by
      have := st.hsp
      rw [hz] at this
      rw [encOk, hk, Bool.true_and]
      simpa using this.symm
    have hf : fitP (parts m) = true := by
      rw [encOk, hk, Bool.true_and] at he
      exact he
    rw [hf] at hd
    have hB : encB m = bytesP (parts m) := by rw [encB, he]; rfl
    have hx := hd.trans hB.symm
    exact some_ he hx w
  conv => whnf
  simp at h3 h4 h6 h8
  exact none_ (by rw [encOk, knd_no (m := m) (by omega), Bool.false_and]) w.2.2
structure Canon (m : Msg) : Prop where
  r : m.k ≠ 5 → m.es = [] ∧ m.w = 0
  n : m.k ≠ 7 → m.c = 0 ∧ m.e = 0 ∧ m.f = 0 ∧ m.l = 0
  d : m.k ≠ 1 → m.d = 0
  p : m.k ≠ 1 → m.k ≠ 2 → m.k ≠ 9 → m.p = 0
/-- b is m's bytes, and m has nothing that its kind does not name -/
structure Enc (b : List Int) (m : Msg) : Prop where
  can : Canon m
  ok : encOk m = true
  is : bytesP (parts m) = b
  e1 : -9223372036854775808 ≤ m.e
  e2 : m.e ≤ 9223372036854775807
def eqM (m m1 : Msg) : Prop := m1 = { m with ep := m1.ep }
theorem eqM.mk {m m1 : Msg} (k : m1.k = m.k) (p : m1.p = m.p) (d : m1.d = m.d) (es : m1.es = m.es) (w : m1.w = m.w) (c : m1.c = m.c) (e : m1.e = m.e) (f : m1.f = m.f) (l : m1.l = m.l) : eqM m m1 := by
  cases m
  cases m1
  simp only at k p d es w c e f l
  subst k p d es w c e f l
  rfl
theorem eqM.encOk {m m1 : Msg} (h : eqM m m1) : encOk m1 = encOk m := by
  rw [h]
  rfl
theorem eqM.encB {m m1 : Msg} (h : eqM m m1) : encB m1 = encB m := by
  rw [h]
  rfl
theorem eqM.same {m m1 m2 : Msg} (h1 : eqM m m1) (h2 : eqM m m2) : sameM m1 m2 = true := by
  rw [h1, h2]
  simp [sameM, hintL]
theorem Enc.encB {b : List Int} {m : Msg} (e : Enc b m) : encB m = b := by
  unfold Proofs.YtmififfaljihgaaGreat.encB
  rw [e.ok, if_pos rfl]
  exact e.is
structure KnR (b xs : List Int) (sp : Bool) (R : Msg → List (Nat × Int)) : Prop where
  bts : Bts xs
  kn : ∀ m, Enc b m → sp = false ∧ xs = bytesP (R m) ∧ fitP (R m) = true
theorem fold_bound : ∀ (ys : List Int) (a : Nat), Bts ys → (a + 1) * 256 ^ ys.length ≤ 72057594037927936 → ∃ n : Nat, ys.foldl shOr (a : Int) = n ∧ n < (a + 1) * 256 ^ ys.length
  | [], a, _, _ => ⟨a, rfl, by simp⟩
  | y :: ys, a, hb, h => by
    have hy := hb y (by simp)
    obtain ⟨z, rfl⟩ := Int.eq_ofNat_of_zero_le hy.1
    have hz : z < 256 := by omega
    rw [List.length_cons, Nat.pow_succ] at h
    have h2 : (a + 1) * 256 ≤ 72057594037927936 := by
      refine Nat.le_trans ?_ h
      rw [Nat.mul_comm (256 ^ ys.length), ← Nat.mul_assoc]
      exact Nat.le_mul_of_pos_right _ (Nat.pow_pos (by decide))
    have e := shOr_eq (n := a) (b := z) (by omega) hz
    have h3 : (a * 256 + z + 1) * 256 ^ ys.length ≤ (a + 1) * (256 ^ ys.length * 256) := by
      rw [Nat.mul_comm (256 ^ ys.length), ← Nat.mul_assoc]
      exact Nat.mul_le_mul_right _ (by omega)
    obtain ⟨n, h4, h5⟩ := fold_bound ys (a * 256 + z) (fun x hx => hb x (by simp [hx])) (Nat.le_trans h3 h)
    refine ⟨n, ?_, ?_⟩
    · rw [List.foldl_cons]
      show ys.foldl shOr (shOr (a : Int) (z : Int)) = n
      rw [e, h4]
    · rw [List.length_cons, Nat.pow_succ]
      exact Nat.lt_of_lt_of_le h5 h3
theorem rawV_len {xs : List Int} {sp : Bool} {k : Nat} : (rawV xs sp (k : Int)).length ≤ k ∧ (Bts xs → Bts (rawV xs sp (k : Int))) ∧ (Bts xs → Bts (rawX xs sp (k : Int))) ∧ (rawX xs sp (k : Int)).length ≤ xs.length := by
  unfold rawV rawX
  split
  · rw [Int.toNat_natCast]
    exact ⟨by rw [List.length_take]; omega, fun h => bts_take h k, fun h => bts_drop h k, by rw [List.length_drop]; omega⟩
  · exact ⟨Nat.zero_le _, fun _ _ k => (by cases k), id, Nat.le_refl _⟩
theorem KnR.num {b xs : List Int} {sp : Bool} {R R' : Msg → List (Nat × Int)} (kr : KnR b xs sp R) {k : Nat} (h1 : 1 ≤ k) (h7 : k ≤ 7) {val : Msg → Int} (hR : ∀ m, Enc b m → R m = (k, val m) :: R' m) {g : Nat} {h h' : H} {v : V} (q : NumQ g xs sp (k : Int) h v h') :
    ∃ (n : Int) (xs' : List Int) (sp' : Bool), v = i64 n ∧ (∀ m, Enc b m → n = val m) ∧ (0 ≤ n ∧ n < 256 ^ k) ∧ Rdr h' g xs' sp' ∧ KnR b xs' sp' R' ∧ xs'.length ≤ xs.length ∧ Ab.Mod (one g) h h' := by
  obtain ⟨e, r, m⟩ := q
  rw [numK_id h1 h7] at e r
  obtain ⟨l1, l2, l3, l4⟩ := rawV_len (xs := xs) (sp := sp) (k := k)
  have hp : 256 ^ k ≤ 256 ^ 7 := Nat.pow_le_pow_right (by decide) h7
  have hp2 : 256 ^ (rawV xs sp (k : Int)).length ≤ 256 ^ k := Nat.pow_le_pow_right (by decide) l1
  have h256 : (256 : Nat) ^ 7 = 72057594037927936 := by decide
  obtain ⟨n, f1, f2⟩ := fold_bound (rawV xs sp (k : Int)) 0 (l2 kr.bts) (by omega)
  have f1 : (rawV xs sp (k : Int)).foldl shOr 0 = (n : Int) := f1
  refine ⟨_, _, _, e, fun m hm => ?_, ?_, r, ⟨l3 kr.bts, fun m hm => ?_⟩, l4, m⟩
  · obtain ⟨s, x, f⟩ := kr.kn m hm
    rw [hR m hm] at x f
    simp only [fitP, List.all_cons, Bool.and_eq_true, decide_eq_true_eq] at f
    have x : xs = be (val m) k ++ bytesP (R' m) := x
    subst x
    subst s
    have := (read_num h1 h7 f.1.1 f.1.2 (bytesP (R' m))).2.2
    rw [numK_id h1 h7] at this
    exact this
  · rw [f1]
    have e2 : (256 : Int) ^ k = ((256 ^ k : Nat) : Int) := by rw [Int.natCast_pow]; rfl
    rw [e2]
    omega
  · obtain ⟨s, x, f⟩ := kr.kn m hm
    rw [hR m hm] at x f
    simp only [fitP, List.all_cons, Bool.and_eq_true, decide_eq_true_eq] at f
    have x : xs = be (val m) k ++ bytesP (R' m) := x
    subst x
    subst s
    obtain ⟨t1, t2, _⟩ := read_num h1 h7 f.1.1 f.1.2 (bytesP (R' m))
    rw [numK_id h1 h7] at t1 t2
    refine ⟨by rw [t1]; rfl, t2, ?_⟩
    exact f.2
theorem KnR.start {b : List Int} (hb : Bts b) : KnR b b false parts := ⟨hb, fun m hm => ⟨rfl, hm.is.symm, by
  have := hm.ok
  rw [encOk, Bool.and_eq_true] at this
  exact this.2⟩⟩
def msg0 : Msg := ⟨0, 0, 0, none, [], 0, 0, 0, 0, 0⟩
/-- what both makes tell of bytes -/
def DecA (b : List Int) (m1 : Msg) (ok : Bool) : Prop := (ok = true ∧ Enc b m1 ∧ ∀ m, Enc b m → eqM m m1) ∨ (ok = false ∧ m1 = msg0 ∧ ∀ m, ¬ Enc b m)
/-- taken, or not: by what it is written as again -/
theorem decA_yes {b : List Int} {m1 : Msg} (hc : Canon m1) (he : encOk m1 = true) (hb : encB m1 = b) (r1 : -9223372036854775808 ≤ m1.e) (r2 : m1.e ≤ 9223372036854775807) (hk : ∀ m, Enc b m → eqM m m1) : DecA b m1 true := by
  refine .inl ⟨rfl, ⟨hc, he, ?_, r1, r2⟩, hk⟩
  rw [encB, he, if_pos rfl] at hb
  exact hb
theorem decA_no {b : List Int} {m1 : Msg} (h : encOk m1 = false ∨ encB m1 ≠ b) (hk : ∀ m, Enc b m → eqM m m1) : DecA b msg0 false := by
  refine .inr ⟨rfl, rfl, fun m hm => ?_⟩
  have e := hk m hm
  rcases h with h | h
  · rw [e.encOk, hm.ok] at h
    cases h
  · rw [e.encB] at h
    exact h hm.encB
def DecQ (b : List Int) (h : H) (r : V) (h' : H) : Prop := ∃ (m1 : Msg) (ok : Bool), r = .tup [.agg m1.cells, i64 (if ok then 0 else 2)] ∧ m1.ok h' ∧ Ab.Mod none_ h h' ∧ DecA b m1 ok
theorem lo0 : (-9223372036854775808 : Int) ≤ 0 := by decide
theorem hi0 : (0 : Int) ≤ 9223372036854775807 := by decide
theorem okm_mk {hh : H} {i : Nat} {ob : Ab.Obj} {m0 m1 : Msg} (_ : hh.obj i = some ob) (e : m0 = m1) (k : m0.ok hh) : m1.ok hh := e ▸ k
/-- as DecQ, and the edges lie in new memory -/
def DecS (b : List Int) (h : H) (r : V) (h' : H) : Prop := ∃ (m1 : Msg) (ok : Bool), r = .tup [.agg m1.cells, i64 (if ok then 0 else 2)] ∧ m1.ok h' ∧ Ab.Mod none_ h h' ∧ DecA b m1 ok ∧ ∀ i o, m1.ep = some (i, o) → h.next < i
theorem dec43 {h : H} {p : Option (Nat × Nat)} {n : Nat} {b : List Int} (o : SlIs h p n false 1 (ints .u8 b)) (bb : Bts b) (hn : n ≤ 100000) : ACalls Tryz.prog 48 [.sl p n] h (DecS b h) := by
  have hl := slo_len o
  subst hl
  refine call_ Tryz.func48 rfl rfl (by kernel_rfl) ?_
  conv => whnf
  have mm := Mod.push none_ h (.row true 9 [i64 0, i64 0, i64 0, .sl none 0, i64 0, i64 0, i64 0, i64 0, i64 0])
  have gm : (h.push (.row true 9 [i64 0, i64 0, i64 0, .sl none 0, i64 0, i64 0, i64 0, i64 0, i64 0])).obj h.next = some (.row true 9 [i64 0, i64 0, i64 0, .sl none 0, i64 0, i64 0, i64 0, i64 0, i64 0]) := H.obj_push_new _ _
  have hbo : ∀ i, i < h.next → one h.next i → none_ i := fun i hi k => absurd hi (by unfold one at k; omega)
  refine (read24o (SlIs.old o mm (fun _ _ k => k)) (by omega)).mono ?_
  rintro _ _ ⟨g, rfl, rn⟩
  have hg : h.next < g := rn.2.1
  have hbg : h.next ≠ g := Nat.ne_of_lt hg
  have hgo : ∀ i, i < h.next → one g i → none_ i := fun i hi k => absurd hi (by unfold one at k; omega)
  have gm := rn.2.2.get gm (.inl (fun k => k))
  have mm := mod_none mm rn.2.2
  have r := rn.1
  have kr := KnR.start bb
  have lx := Nat.le_refl b.length
  clear rn
  conv => whnf
  refine (num25 r (by omega) ((1 : Nat) : Int)).mono ?_
  rintro _ _ q
  obtain ⟨kk, xs, sp, rfl, kkk, bkk, r', kr', lx', mq⟩ := kr.num (k := 1) (by decide) (by decide) (R' := tailP) (val := fun m => m.k) (fun m hm => rfl) q
  have gm := mq.get gm (.inl hbg)
  have mm := mm.trans' mq (S2 := none_) (fun _ _ k => k) hgo
  have r := r'
  have kr := kr'
  have lx := Nat.le_trans lx' lx
  clear r' kr' lx' q mq
  conv => whnf
  refine ⟨_, _, gm, Nat.le_of_ble_eq_true rfl, ?_⟩
  have ms := Mod.set (S := one h.next) (ob := .row true 9 [i64 kk, i64 0, i64 0, .sl none 0, i64 0, i64 0, i64 0, i64 0, i64 0]) rfl gm rfl
  have gm := H.obj_set_same (ob' := .row true 9 [i64 kk, i64 0, i64 0, .sl none 0, i64 0, i64 0, i64 0, i64 0, i64 0]) gm
  have r := r.get ms (fun k => hbg k.symm)
  have mm := mm.trans' ms (S2 := none_) (fun _ _ k => k) hbo
  clear ms
  conv => whnf
  refine ⟨_, Cell.mk gm rfl, ?_⟩
  conv => whnf
  refine br_mk (fun h1 => ?_) (fun h1 => ?_)
  conv => whnf
  simp at h1
  have kr := kr
  refine (num25 r (by omega) ((2 : Nat) : Int)).mono ?_
  rintro _ _ q
  obtain ⟨np, xs, sp, rfl, knp, bnp, r', kr', lx', mq⟩ := kr.num (k := 2) (by decide) (by decide) (R' := fun m => (2, m.d) :: []) (val := fun m => m.p) (fun m hm => by have := kkk m hm; exact tailP_1 (by omega)) q
  have gm := mq.get gm (.inl hbg)
  have mm := mm.trans' mq (S2 := none_) (fun _ _ k => k) hgo
  have r := r'
  have kr := kr'
  have lx := Nat.le_trans lx' lx
  clear r' kr' lx' q mq
  conv => whnf
  refine (num25 r (by omega) ((2 : Nat) : Int)).mono ?_
  rintro _ _ q
  obtain ⟨nd, xs, sp, rfl, knd, bnd, r', kr', lx', mq⟩ := kr.num (k := 2) (by decide) (by decide) (R' := fun m => []) (val := fun m => m.d) (fun m hm => rfl) q
  have gm := mq.get gm (.inl hbg)
  have mm := mm.trans' mq (S2 := none_) (fun _ _ k => k) hgo
  have r := r'
  have kr := kr'
  have lx := Nat.le_trans lx' lx
  clear r' kr' lx' q mq
  conv => whnf
  refine ⟨_, _, gm, Nat.le_of_ble_eq_true rfl, ?_⟩
  have ms := Mod.set (S := one h.next) (ob := .row true 9 [i64 kk, i64 np, i64 0, .sl none 0, i64 0, i64 0, i64 0, i64 0, i64 0]) rfl gm rfl
  have gm := H.obj_set_same (ob' := .row true 9 [i64 kk, i64 np, i64 0, .sl none 0, i64 0, i64 0, i64 0, i64 0, i64 0]) gm
  have r := r.get ms (fun k => hbg k.symm)
  have mm := mm.trans' ms (S2 := none_) (fun _ _ k => k) hbo
  clear ms
  conv => whnf
  refine ⟨_, _, gm, Nat.le_of_ble_eq_true rfl, ?_⟩
  have ms := Mod.set (S := one h.next) (ob := .row true 9 [i64 kk, i64 np, i64 nd, .sl none 0, i64 0, i64 0, i64 0, i64 0, i64 0]) rfl gm rfl
  have gm := H.obj_set_same (ob' := .row true 9 [i64 kk, i64 np, i64 nd, .sl none 0, i64 0, i64 0, i64 0, i64 0, i64 0]) gm
  have r := r.get ms (fun k => hbg k.symm)
  have mm := mm.trans' ms (S2 := none_) (fun _ _ k => k) hbo
  clear ms
  conv => whnf
  obtain ⟨m1, hm1⟩ : ∃ m1 : Msg, (⟨kk, np, nd, none, [], 0, 0, 0, 0, 0⟩ : Msg) = m1 := ⟨_, rfl⟩
  have okm := okm_mk gm hm1 ⟨SlIs.nil _ _ _, lo0, hi0, Nat.zero_le _⟩
  have gm := gm.trans (congrArg (fun x : Msg => some (Ab.Obj.row true 9 x.cells)) hm1)
  have hep : ∀ i o, m1.ep = some (i, o) → h.next < i := by
    rw [← hm1]
    exact fun i o e => by cases e
  have can : Canon m1 := by
    rw [← hm1]
    exact ⟨fun _ => ⟨rfl, rfl⟩, fun _ => ⟨rfl, rfl, rfl, rfl⟩, fun hh => absurd h1 hh, fun hh _ _ => absurd h1 hh⟩
  have keq : ∀ m, Enc b m → eqM m m1 := by
    intro m hm
    rw [← hm1]
    have hc := hm.can
    have hkk := kkk m hm
    exact eqM.mk hkk (knp m hm) (knd m hm) (hc.r (by omega)).1.symm (hc.r (by omega)).2.symm (hc.n (by omega)).1.symm (hc.n (by omega)).2.1.symm (hc.n (by omega)).2.2.1.symm (hc.n (by omega)).2.2.2.symm
  clear hm1
  rotate_left
  conv => whnf
  refine br_mk (fun h2 => ?_) (fun h2 => ?_)
  conv => whnf
  simp at h2
  refine br_mk (fun _ => ?_) (fun hz => absurd hz (by simp [h2]))
  conv => whnf
  refine (num25 r (by omega) ((2 : Nat) : Int)).mono ?_
  rintro _ _ q
  obtain ⟨np, xs, sp, rfl, knp, bnp, r', kr', lx', mq⟩ := kr.num (k := 2) (by decide) (by decide) (R' := fun m => []) (val := fun m => m.p) (fun m hm => by have := kkk m hm; exact tailP_2 (.inl (by omega))) q
  have gm := mq.get gm (.inl hbg)
  have mm := mm.trans' mq (S2 := none_) (fun _ _ k => k) hgo
  have r := r'
  have kr := kr'
  have lx := Nat.le_trans lx' lx
  clear r' kr' lx' q mq
  conv => whnf
  refine ⟨_, _, gm, Nat.le_of_ble_eq_true rfl, ?_⟩
  have ms := Mod.set (S := one h.next) (ob := .row true 9 [i64 kk, i64 np, i64 0, .sl none 0, i64 0, i64 0, i64 0, i64 0, i64 0]) rfl gm rfl
  have gm := H.obj_set_same (ob' := .row true 9 [i64 kk, i64 np, i64 0, .sl none 0, i64 0, i64 0, i64 0, i64 0, i64 0]) gm
  have r := r.get ms (fun k => hbg k.symm)
  have mm := mm.trans' ms (S2 := none_) (fun _ _ k => k) hbo
  clear ms
  conv => whnf
  obtain ⟨m1, hm1⟩ : ∃ m1 : Msg, (⟨kk, np, 0, none, [], 0, 0, 0, 0, 0⟩ : Msg) = m1 := ⟨_, rfl⟩
  have okm := okm_mk gm hm1 ⟨SlIs.nil _ _ _, lo0, hi0, Nat.zero_le _⟩
  have gm := gm.trans (congrArg (fun x : Msg => some (Ab.Obj.row true 9 x.cells)) hm1)
  have hep : ∀ i o, m1.ep = some (i, o) → h.next < i := by
    rw [← hm1]
    exact fun i o e => by cases e
  have can : Canon m1 := by
    rw [← hm1]
    exact ⟨fun _ => ⟨rfl, rfl⟩, fun _ => ⟨rfl, rfl, rfl, rfl⟩, fun _ => rfl, fun _ hh _ => absurd h2 hh⟩
  have keq : ∀ m, Enc b m → eqM m m1 := by
    intro m hm
    rw [← hm1]
    have hc := hm.can
    have hkk := kkk m hm
    exact eqM.mk hkk (knp m hm) (hc.d (by omega)).symm (hc.r (by omega)).1.symm (hc.r (by omega)).2.symm (hc.n (by omega)).1.symm (hc.n (by omega)).2.1.symm (hc.n (by omega)).2.2.1.symm (hc.n (by omega)).2.2.2.symm
  clear hm1
  rotate_left
  conv => whnf
  refine br_mk (fun h9 => ?_) (fun h9 => ?_)
  conv => whnf
  simp at h9
  refine (num25 r (by omega) ((2 : Nat) : Int)).mono ?_
  rintro _ _ q
  obtain ⟨np, xs, sp, rfl, knp, bnp, r', kr', lx', mq⟩ := kr.num (k := 2) (by decide) (by decide) (R' := fun m => []) (val := fun m => m.p) (fun m hm => by have := kkk m hm; exact tailP_2 (.inr (by omega))) q
  have gm := mq.get gm (.inl hbg)
  have mm := mm.trans' mq (S2 := none_) (fun _ _ k => k) hgo
  have r := r'
  have kr := kr'
  have lx := Nat.le_trans lx' lx
  clear r' kr' lx' q mq
  conv => whnf
  refine ⟨_, _, gm, Nat.le_of_ble_eq_true rfl, ?_⟩
  have ms := Mod.set (S := one h.next) (ob := .row true 9 [i64 kk, i64 np, i64 0, .sl none 0, i64 0, i64 0, i64 0, i64 0, i64 0]) rfl gm rfl
  have gm := H.obj_set_same (ob' := .row true 9 [i64 kk, i64 np, i64 0, .sl none 0, i64 0, i64 0, i64 0, i64 0, i64 0]) gm
  have r := r.get ms (fun k => hbg k.symm)
  have mm := mm.trans' ms (S2 := none_) (fun _ _ k => k) hbo
  clear ms
  conv => whnf
  obtain ⟨m1, hm1⟩ : ∃ m1 : Msg, (⟨kk, np, 0, none, [], 0, 0, 0, 0, 0⟩ : Msg) = m1 := ⟨_, rfl⟩
  have okm := okm_mk gm hm1 ⟨SlIs.nil _ _ _, lo0, hi0, Nat.zero_le _⟩
  have gm := gm.trans (congrArg (fun x : Msg => some (Ab.Obj.row true 9 x.cells)) hm1)
  have hep : ∀ i o, m1.ep = some (i, o) → h.next < i := by
    rw [← hm1]
    exact fun i o e => by cases e
  have can : Canon m1 := by
    rw [← hm1]
    exact ⟨fun _ => ⟨rfl, rfl⟩, fun _ => ⟨rfl, rfl, rfl, rfl⟩, fun _ => rfl, fun _ _ hh => absurd h9 hh⟩
  have keq : ∀ m, Enc b m → eqM m m1 := by
    intro m hm
    rw [← hm1]
    have hc := hm.can
    have hkk := kkk m hm
    exact eqM.mk hkk (knp m hm) (hc.d (by omega)).symm (hc.r (by omega)).1.symm (hc.r (by omega)).2.symm (hc.n (by omega)).1.symm (hc.n (by omega)).2.1.symm (hc.n (by omega)).2.2.1.symm (hc.n (by omega)).2.2.2.symm
  clear hm1
  rotate_left
  conv => whnf
  refine br_mk (fun h5 => ?_) (fun h5 => ?_)
  conv => whnf
  simp at h5
  refine (num25 r (by omega) ((5 : Nat) : Int)).mono ?_
  rintro _ _ q
  obtain ⟨nw, xs, sp, rfl, knw, bnw, r', kr', lx', mq⟩ := kr.num (k := 5) (by decide) (by decide) (R' := fun m => (2, (m.es.length : Int)) :: m.es.map fun v => (2, v)) (val := fun m => m.w) (fun m hm => by have := kkk m hm; exact tailP_5 (by omega)) q
  have gm := mq.get gm (.inl hbg)
  have mm := mm.trans' mq (S2 := none_) (fun _ _ k => k) hgo
  have r := r'
  have kr := kr'
  have lx := Nat.le_trans lx' lx
  clear r' kr' lx' q mq
  conv => whnf
  refine ⟨_, _, gm, Nat.le_of_ble_eq_true rfl, ?_⟩
  have ms := Mod.set (S := one h.next) (ob := .row true 9 [i64 kk, i64 0, i64 0, .sl none 0, i64 nw, i64 0, i64 0, i64 0, i64 0]) rfl gm rfl
  have gm := H.obj_set_same (ob' := .row true 9 [i64 kk, i64 0, i64 0, .sl none 0, i64 nw, i64 0, i64 0, i64 0, i64 0]) gm
  have r := r.get ms (fun k => hbg k.symm)
  have mm := mm.trans' ms (S2 := none_) (fun _ _ k => k) hbo
  clear ms
  conv => whnf
  refine (num25 r (by omega) ((2 : Nat) : Int)).mono ?_
  rintro _ _ q
  obtain ⟨nn, xs, sp, rfl, knn, bnn, r', kr', lx', mq⟩ := kr.num (k := 2) (by decide) (by decide) (R' := fun m => m.es.map fun v => (2, v)) (val := fun m => (m.es.length : Int)) (fun m hm => rfl) q
  have gm := mq.get gm (.inl hbg)
  have mm := mm.trans' mq (S2 := none_) (fun _ _ k => k) hgo
  have r := r'
  have kr := kr'
  have lx := Nat.le_trans lx' lx
  clear r' kr' lx' q mq
  conv => whnf
  have e2 : (256 : Int) ^ 2 = 65536 := rfl
  rw [e2] at bnn
  have kr0 : KnR b xs sp fun m => (m.es.drop 0).map fun v => (2, v) := kr
  refine ⟨fun env hh => ∃ (a : Nat) (z : Int) (es : List Int) (ep : Option (Nat × Nat)) (xs : List Int) (sp : Bool), z = nn - a ∧ (a : Int) ≤ nn ∧ es.length = a ∧ hh.obj h.next = some (.row true 9 [i64 kk, i64 0, i64 0, .sl ep a, i64 nw, i64 0, i64 0, i64 0, i64 0]) ∧ SlIs hh ep a true 1 (ints .i64 es) ∧ (∀ i o, ep = some (i, o) → h.next < i ∧ i ≠ g) ∧ Rdr hh g xs sp ∧ KnR b xs sp (fun m => (m.es.drop a).map fun v => (2, v)) ∧ (∀ m, Enc b m → es = m.es.take a) ∧ xs.length ≤ b.length ∧ Ab.Mod none_ h hh ∧ env = [(5, i64 z), (4, .ptr (some (g, 0))), (2, .ptr (some (h.next, 0))), (0, .sl p b.length)],
    fun env _ => match get env 5 with
      | .int _ z => z.toNat
      | _ => 0, ⟨_, Forget.cons rfl (Forget.cons rfl (Forget.cons rfl (Forget.cons rfl (Forget.nil _)))), 0, _, [], none, _, _, by simp, bnn.1, rfl, gm, SlIs.nil _ _ _, (fun _ _ e => by cases e), r, kr0, (fun m _ => rfl), lx, mm, rfl⟩, ?_⟩
  clear gm r kr kr0 lx mm
  rintro _ _ ⟨_, z, es, ep, xs, sp, rfl, ha, rfl, gm, se, hep, r, kr, ke, lx, mm, rfl⟩
  conv => whnf
  have edge : ((es.length : Int) < nn → xs ≠ [] → sp = false → False) → ∀ m, Enc b m → es = m.es := fun hno m hm => by
    have h1 := knn m hm
    obtain ⟨s1, s2, _⟩ := kr.kn m hm
    rw [ke m hm]
    by_cases hlt : es.length < m.es.length
    · refine absurd (hno (by omega) ?_ s1) id
      rw [s2, List.drop_eq_getElem_cons hlt]
      intro hnil
      have := congrArg List.length hnil
      simp only [bytesP, List.map_cons, List.flatMap_cons, List.length_append, be_length] at this
      simp at this
    · exact List.take_of_length_le (by omega)
  refine br_mk (fun hc => ?_) (fun hc => ?_)
  conv => whnf
  refine (left29 r).mono ?_
  rintro _ h' ⟨eh, rfl⟩
  subst h'
  conv => whnf
  refine br_mk (fun hd => ?_) (fun hd => ?_)
  · conv => whnf
    simp at hc
    refine ⟨[0, 1, 2, 3, 4, 5, 6, 7], [0, 1, 0, 4, 12, 31, 63, 127], by kernel_rfl, ?_⟩
    conv => whnf
    refine ⟨_, Cell.mk gm rfl, ?_⟩
    conv => whnf
    refine (num25 r (by omega) ((2 : Nat) : Int)).mono ?_
    rintro _ h7 q
    have hdr : ∀ m, Enc b m → (m.es.drop es.length).map (fun v => ((2 : Nat), v)) = (2, m.es.getD es.length 0) :: (m.es.drop (es.length + 1)).map fun v => (2, v) := fun m hm => by
      have h1 := knn m hm
      rw [drop_cons (by omega)]
      rfl
    obtain ⟨ne, xs, sp, rfl, kne, bne, r', kr', lx', mq⟩ := kr.num (k := 2) (by decide) (by decide) (R' := fun m => (m.es.drop (es.length + 1)).map fun v => (2, v)) (val := fun m => m.es.getD es.length 0) hdr q
    have gm := mq.get gm (.inl hbg)
    have mm := mm.trans' mq (S2 := none_) (fun _ _ k => k) hgo
    have se := se.get mq (fun i o e => .inl (fun k => (hep i o e).2 k))
    conv => whnf
    refine ⟨?_, ?_⟩
    · conv => whnf
      exact ⟨_, Cell.mk gm rfl, rfl⟩
    conv => whnf
    rw [oneNum]
    have mp := Mod.push none_ h7 (.row true 1 (ints .i64 [ne]))
    refine ⟨_, _, se.get mp (fun _ _ _ => .inl (fun k => k)), (SlIs.row (n := 1) (H.obj_push_new _ _) rfl).weak, ?_, by omega, fun p9 h9 hs9 hm9 hf9 => ?_⟩
    · show (es.length + 1) * 8 ≤ 70368744177664
      omega
    conv => whnf
    have hnb : ∀ i, inSl ep i → h.next < i ∧ i ≠ g := fun i ⟨o, e⟩ => hep i o e
    have gm := hm9.get (mp.get gm (.inl (fun k => k))) (.inl (fun k => by have := (hnb _ k).1; omega))
    have r := (r'.get mp (fun k => k)).get hm9 (fun k => (hnb _ k).2 rfl)
    have mm := (mod_none mm mp).trans' hm9 (S2 := none_) (fun _ _ k => k) (fun i hi k => by have := (hnb _ k).1; omega)
    have hgl := r'.lt
    have hbl := mm.next
    have hep9 : ∀ i o, p9 = some (i, o) → h.next < i ∧ i ≠ g := fun i o e => by
      rcases hf9 i o e with k | k
      · exact hep i o (by rw [← k, e])
      · have k : _ + 1 ≤ i := k
        omega
    have se9 : SlIs h9 p9 (es.length + 1) true 1 (ints .i64 (es ++ [ne])) := by
      rw [ints_append]
      exact hs9
    refine ⟨_, _, gm, Nat.le_of_ble_eq_true rfl, ?_⟩
    have ms := Mod.set (S := one h.next) (ob := .row true 9 [i64 kk, i64 0, i64 0, .sl p9 (es.length + 1), i64 nw, i64 0, i64 0, i64 0, i64 0]) rfl gm rfl
    have gm := H.obj_set_same (ob' := .row true 9 [i64 kk, i64 0, i64 0, .sl p9 (es.length + 1), i64 nw, i64 0, i64 0, i64 0, i64 0]) gm
    have r := r.get ms (fun k => hbg k.symm)
    have mm := mm.trans' ms (S2 := none_) (fun _ _ k => k) hbo
    have se9 := se9.get ms (fun i o e => .inl (fun k => by have := (hep9 i o e).1; unfold one at k; omega))
    conv => whnf
    have hz : IntKind.i64.wrap (nn - (es.length : Int) - 1) = nn - ((es.length + 1 : Nat) : Int) := by
      rw [wrap_i64 (by omega) (by omega)]
      omega
    refine ⟨_, Forget.cons rfl (Forget.cons rfl (Forget.cons rfl (Forget.cons rfl (Forget.nil _)))), ⟨es.length + 1, _, es ++ [ne], p9, xs, sp, hz, by omega, by simp, gm, se9, hep9, r, kr', fun m hm => ?_, Nat.le_trans lx' lx, mm, rfl⟩, ?_⟩
    · have h1 := knn m hm
      rw [List.take_add_one, get_getD (by omega), ← ke m hm, kne m hm]
      rfl
    · show (IntKind.i64.wrap (nn - (es.length : Int) - 1)).toNat < (nn - (es.length : Int)).toNat
      rw [hz]
      omega
  conv => whnf
  have edge := edge (fun _ hne hs => by
    simp [leftV, hs] at hd
    exact hne hd)
  obtain ⟨m1, hm1⟩ : ∃ m1 : Msg, (⟨kk, 0, 0, ep, es, nw, 0, 0, 0, 0⟩ : Msg) = m1 := ⟨_, rfl⟩
  have okm := okm_mk gm hm1 ⟨se.weak, lo0, hi0, by show es.length ≤ 100000; omega⟩
  have gm := gm.trans (congrArg (fun x : Msg => some (Ab.Obj.row true 9 x.cells)) hm1)
  have hep : ∀ i o, m1.ep = some (i, o) → h.next < i := by
    rw [← hm1]
    exact fun i o e => (hep i o e).1
  have can : Canon m1 := by
    rw [← hm1]
    exact ⟨fun hh => absurd h5 hh, fun _ => ⟨rfl, rfl, rfl, rfl⟩, fun _ => rfl, fun _ _ _ => rfl⟩
  have keq : ∀ m, Enc b m → eqM m m1 := by
    intro m hm
    rw [← hm1]
    have hc := hm.can
    have hkk := kkk m hm
    exact eqM.mk hkk (hc.p (by omega) (by omega) (by omega)).symm (hc.d (by omega)).symm (edge m hm) (knw m hm) (hc.n (by omega)).1.symm (hc.n (by omega)).2.1.symm (hc.n (by omega)).2.2.1.symm (hc.n (by omega)).2.2.2.symm
  clear hm1
  rotate_left
  conv => whnf
  simp at hc
  have edge := edge (fun hlt _ _ => by omega)
  obtain ⟨m1, hm1⟩ : ∃ m1 : Msg, (⟨kk, 0, 0, ep, es, nw, 0, 0, 0, 0⟩ : Msg) = m1 := ⟨_, rfl⟩
  have okm := okm_mk gm hm1 ⟨se.weak, lo0, hi0, by show es.length ≤ 100000; omega⟩
  have gm := gm.trans (congrArg (fun x : Msg => some (Ab.Obj.row true 9 x.cells)) hm1)
  have hep : ∀ i o, m1.ep = some (i, o) → h.next < i := by
    rw [← hm1]
    exact fun i o e => (hep i o e).1
  have can : Canon m1 := by
    rw [← hm1]
    exact ⟨fun hh => absurd h5 hh, fun _ => ⟨rfl, rfl, rfl, rfl⟩, fun _ => rfl, fun _ _ _ => rfl⟩
  have keq : ∀ m, Enc b m → eqM m m1 := by
    intro m hm
    rw [← hm1]
    have hc := hm.can
    have hkk := kkk m hm
    exact eqM.mk hkk (hc.p (by omega) (by omega) (by omega)).symm (hc.d (by omega)).symm (edge m hm) (knw m hm) (hc.n (by omega)).1.symm (hc.n (by omega)).2.1.symm (hc.n (by omega)).2.2.1.symm (hc.n (by omega)).2.2.2.symm
  clear hm1
  rotate_left
  conv => whnf
  refine br_mk (fun h7 => ?_) (fun h7 => ?_)
  conv => whnf
  simp at h7
  refine (num25 r (by omega) ((1 : Nat) : Int)).mono ?_
  rintro _ _ q
  obtain ⟨nc, xs, sp, rfl, knc, bnc, r', kr', lx', mq⟩ := kr.num (k := 1) (by decide) (by decide) (R' := fun m => [(2, IntKind.i64.wrap (m.e + 1)), (5, m.f), (5, m.l)]) (val := fun m => m.c) (fun m hm => by have := kkk m hm; exact tailP_7 (by omega)) q
  have gm := mq.get gm (.inl hbg)
  have mm := mm.trans' mq (S2 := none_) (fun _ _ k => k) hgo
  have r := r'
  have kr := kr'
  have lx := Nat.le_trans lx' lx
  clear r' kr' lx' q mq
  conv => whnf
  refine (num25 r (by omega) ((2 : Nat) : Int)).mono ?_
  rintro _ _ q
  obtain ⟨ne, xs, sp, rfl, kne, bne, r', kr', lx', mq⟩ := kr.num (k := 2) (by decide) (by decide) (R' := fun m => [(5, m.f), (5, m.l)]) (val := fun m => IntKind.i64.wrap (m.e + 1)) (fun m hm => rfl) q
  have gm := mq.get gm (.inl hbg)
  have mm := mm.trans' mq (S2 := none_) (fun _ _ k => k) hgo
  have r := r'
  have kr := kr'
  have lx := Nat.le_trans lx' lx
  clear r' kr' lx' q mq
  conv => whnf
  refine (num25 r (by omega) ((5 : Nat) : Int)).mono ?_
  rintro _ _ q
  obtain ⟨nf, xs, sp, rfl, knf, bnf, r', kr', lx', mq⟩ := kr.num (k := 5) (by decide) (by decide) (R' := fun m => [(5, m.l)]) (val := fun m => m.f) (fun m hm => rfl) q
  have gm := mq.get gm (.inl hbg)
  have mm := mm.trans' mq (S2 := none_) (fun _ _ k => k) hgo
  have r := r'
  have kr := kr'
  have lx := Nat.le_trans lx' lx
  clear r' kr' lx' q mq
  conv => whnf
  refine (num25 r (by omega) ((5 : Nat) : Int)).mono ?_
  rintro _ _ q
  obtain ⟨nl, xs, sp, rfl, knl, bnl, r', kr', lx', mq⟩ := kr.num (k := 5) (by decide) (by decide) (R' := fun m => []) (val := fun m => m.l) (fun m hm => rfl) q
  have gm := mq.get gm (.inl hbg)
  have mm := mm.trans' mq (S2 := none_) (fun _ _ k => k) hgo
  have r := r'
  have kr := kr'
  have lx := Nat.le_trans lx' lx
  clear r' kr' lx' q mq
  conv => whnf
  have e2 : (256 : Int) ^ 2 = 65536 := rfl
  rw [e2] at bne
  have hw : IntKind.i64.wrap (ne - 1) = ne - 1 := wrap_i64 (by omega) (by omega)
  rw [hw]
  refine ⟨_, _, gm, Nat.le_of_ble_eq_true rfl, ?_⟩
  have ms := Mod.set (S := one h.next) (ob := .row true 9 [i64 kk, i64 0, i64 0, .sl none 0, i64 0, i64 nc, i64 (ne - 1), i64 nf, i64 nl]) rfl gm rfl
  have gm := H.obj_set_same (ob' := .row true 9 [i64 kk, i64 0, i64 0, .sl none 0, i64 0, i64 nc, i64 (ne - 1), i64 nf, i64 nl]) gm
  have r := r.get ms (fun k => hbg k.symm)
  have mm := mm.trans' ms (S2 := none_) (fun _ _ k => k) hbo
  clear ms
  conv => whnf
  obtain ⟨m1, hm1⟩ : ∃ m1 : Msg, (⟨kk, 0, 0, none, [], 0, nc, (ne - 1), nf, nl⟩ : Msg) = m1 := ⟨_, rfl⟩
  have okm := okm_mk gm hm1 ⟨SlIs.nil _ _ _, by show _ ≤ ne - 1; omega, by show ne - 1 ≤ _; omega, Nat.zero_le _⟩
  have gm := gm.trans (congrArg (fun x : Msg => some (Ab.Obj.row true 9 x.cells)) hm1)
  have hep : ∀ i o, m1.ep = some (i, o) → h.next < i := by
    rw [← hm1]
    exact fun i o e => by cases e
  have can : Canon m1 := by
    rw [← hm1]
    exact ⟨fun _ => ⟨rfl, rfl⟩, fun hh => absurd h7 hh, fun _ => rfl, fun _ _ _ => rfl⟩
  have keq : ∀ m, Enc b m → eqM m m1 := by
    intro m hm
    rw [← hm1]
    have hc := hm.can
    have hkk := kkk m hm
    have h3 := kne m hm
    have h4 : ne - 1 = m.e := by
      have r1 := hm.e1
      have r2 := hm.e2
      by_cases hx : m.e = 9223372036854775807
      · rw [hx] at h3
        have : IntKind.i64.wrap (9223372036854775807 + 1) = -9223372036854775808 := rfl
        omega
      · rw [wrap_i64 (by omega) (by omega)] at h3
        omega
    exact eqM.mk hkk (hc.p (by omega) (by omega) (by omega)).symm (hc.d (by omega)).symm (hc.r (by omega)).1.symm (hc.r (by omega)).2.symm (knc m hm) h4 (knf m hm) (knl m hm)
  clear hm1
  rotate_left
  conv => whnf
  simp at h1 h2 h9 h5 h7
  obtain ⟨m1, hm1⟩ : ∃ m1 : Msg, (⟨kk, 0, 0, none, [], 0, 0, 0, 0, 0⟩ : Msg) = m1 := ⟨_, rfl⟩
  have okm := okm_mk gm hm1 ⟨SlIs.nil _ _ _, lo0, hi0, Nat.zero_le _⟩
  have gm := gm.trans (congrArg (fun x : Msg => some (Ab.Obj.row true 9 x.cells)) hm1)
  have hep : ∀ i o, m1.ep = some (i, o) → h.next < i := by
    rw [← hm1]
    exact fun i o e => by cases e
  have can : Canon m1 := by
    rw [← hm1]
    exact ⟨fun _ => ⟨rfl, rfl⟩, fun _ => ⟨rfl, rfl, rfl, rfl⟩, fun _ => rfl, fun _ _ _ => rfl⟩
  have keq : ∀ m, Enc b m → eqM m m1 := by
    intro m hm
    rw [← hm1]
    have hc := hm.can
    have hkk := kkk m hm
    exact eqM.mk hkk (hc.p (by omega) (by omega) (by omega)).symm (hc.d (by omega)).symm (hc.r (by omega)).1.symm (hc.r (by omega)).2.symm (hc.n (by omega)).1.symm (hc.n (by omega)).2.1.symm (hc.n (by omega)).2.2.1.symm (hc.n (by omega)).2.2.2.symm
  clear hm1
  rotate_left
  all_goals
    refine ⟨m1.cells, Cells.mk gm (Nat.le_of_ble_eq_true rfl) rfl, ?_⟩
    conv => whnf
    refine (enc41 m1 okm).mono ?_
    rintro _ he ⟨qe, rfl, oe, me⟩
    conv => whnf
    refine ⟨_, rfl, ?_⟩
    conv => whnf
    refine ⟨_, rfl, ?_⟩
    conv => whnf
    have gm := me.get gm (.inl (fun k => k))
    have okm := okm.old me (fun _ _ k => k)
    have mm := mod_none mm me
    refine br_mk (fun hx => ?_) (fun hx => ?_)
    · conv => whnf
      have ho : encOk m1 = false := by
        cases ho : encOk m1 with
        | false => rfl
        | true =>
          rw [ho] at hx
          cases hx
      refine ⟨_, _, gm, Nat.le_of_ble_eq_true rfl, ?_⟩
      conv => whnf
      have ms := Mod.set (S := one h.next) (ob := .row true 9 msg0.cells) rfl gm rfl
      have gm := H.obj_set_same (ob' := .row true 9 msg0.cells) gm
      refine ⟨msg0.cells, Cells.mk gm (Nat.le_of_ble_eq_true rfl) rfl, ?_⟩
      conv => whnf
      exact ⟨msg0, false, rfl, ⟨SlIs.nil _ _ _, by decide, by decide, by decide⟩, mm.trans' ms (S2 := none_) (fun _ _ k => k) hbo, decA_no (.inl ho) keq, fun i o e => (by cases e)⟩
    conv => whnf
    have ho : encOk m1 = true := by
      cases ho : encOk m1 with
      | true => rfl
      | false =>
        rw [ho] at hx
        cases hx
    refine (equal58 oe.is (encB_bts m1) (SlIs.old o mm (fun _ _ k => k)) bb).mono ?_
    rintro _ h' ⟨eh, rfl⟩
    subst h'
    conv => whnf
    refine br_mk (fun hy => ?_) (fun hy => ?_)
    · conv => whnf
      refine ⟨_, _, gm, Nat.le_of_ble_eq_true rfl, ?_⟩
      conv => whnf
      have ms := Mod.set (S := one h.next) (ob := .row true 9 msg0.cells) rfl gm rfl
      have gm := H.obj_set_same (ob' := .row true 9 msg0.cells) gm
      refine ⟨msg0.cells, Cells.mk gm (Nat.le_of_ble_eq_true rfl) rfl, ?_⟩
      conv => whnf
      have hy : encB m1 ≠ b := by simpa using hy
      exact ⟨msg0, false, rfl, ⟨SlIs.nil _ _ _, by decide, by decide, by decide⟩, mm.trans' ms (S2 := none_) (fun _ _ k => k) hbo, decA_no (.inr hy) keq, fun i o e => (by cases e)⟩
    conv => whnf
    have hy : encB m1 = b := by simpa using hy
    refine ⟨m1.cells, Cells.mk gm (Nat.le_of_ble_eq_true rfl) rfl, ?_⟩
    conv => whnf
    refine ⟨_, _, gm, Nat.le_of_ble_eq_true rfl, ?_⟩
    conv => whnf
    have ms := Mod.set (S := one h.next) (ob := .row true 9 m1.cells) rfl gm rfl
    have gm2 := H.obj_set_same (ob' := .row true 9 m1.cells) gm
    refine ⟨m1.cells, Cells.mk gm2 (Nat.le_of_ble_eq_true rfl) rfl, ?_⟩
    conv => whnf
    refine ⟨m1, true, rfl, ⟨?_, okm.2⟩, mm.trans' ms (S2 := none_) (fun _ _ k => k) hbo, decA_yes can ho hy okm.2.1 okm.2.2.1 keq, hep⟩
    exact okm.1.get ms (fun i o e => .inl (Nat.ne_of_gt (hep i o e)))
def DecR (b : List Int) (h : H) (r : V) (h' : H) : Prop := ∃ (m1 : Msg) (ok : Bool), r = .tup [.agg m1.cells, .bool ok] ∧ m1.ok h' ∧ Ab.Mod none_ h h' ∧ DecA b m1 ok
/-- as DecR, and the edges lie in new memory -/
def DecRS (b : List Int) (h : H) (r : V) (h' : H) : Prop := ∃ (m1 : Msg) (ok : Bool), r = .tup [.agg m1.cells, .bool ok] ∧ m1.ok h' ∧ Ab.Mod none_ h h' ∧ DecA b m1 ok ∧ ∀ i o, m1.ep = some (i, o) → h.next < i
theorem dec44 {h : H} {p : Option (Nat × Nat)} {n : Nat} {b : List Int} (o : OctR h p n b) (bb : Bts b) (hn : n ≤ 100000) : ACalls Tryz.prog 52 [.sl p n] h (DecRS b h) := by
  have hl := o.len
  subst hl
  refine call_ Tryz.func52 rfl rfl (by kernel_rfl) ?_
  conv => whnf
  have mm := Mod.push none_ h (.row true 9 [i64 0, i64 0, i64 0, .sl none 0, i64 0, i64 0, i64 0, i64 0, i64 0])
  have g0 : (h.push (.row true 9 [i64 0, i64 0, i64 0, .sl none 0, i64 0, i64 0, i64 0, i64 0, i64 0])).obj h.next = some (.row true 9 [i64 0, i64 0, i64 0, .sl none 0, i64 0, i64 0, i64 0, i64 0, i64 0]) := H.obj_push_new _ _
  have m2 := Mod.push none_ (h.push (.row true 9 [i64 0, i64 0, i64 0, .sl none 0, i64 0, i64 0, i64 0, i64 0, i64 0])) (.row true 2 [.sl p b.length, .bool false])
  have r : Rdr ((h.push (.row true 9 [i64 0, i64 0, i64 0, .sl none 0, i64 0, i64 0, i64 0, i64 0, i64 0])).push (.row true 2 [.sl p b.length, .bool false])) (h.next + 1) b false := ⟨p, _, H.obj_push_new _ _, (o.get mm).get m2⟩
  have g0 := m2.get g0 (.inl (fun k => k))
  have mm := mod_none mm m2
  have hg : h.next < h.next + 1 := Nat.lt_succ_self _
  clear m2
  have hbo : ∀ i, i < h.next → one h.next i → none_ i := fun i hi k => absurd hi (by unfold one at k; omega)
  have kr := KnR.start bb
  have lx := Nat.le_refl b.length
  refine (num26 r (by omega) ((1 : Nat) : Int)).mono ?_
  rintro _ h1 q
  have hgo : ∀ i, i < h.next → one (h.next + 1) i → none_ i := fun i hi k => absurd hi (by unfold one at k; omega)
  have h0g : h.next ≠ h.next + 1 := Nat.ne_of_lt hg
  obtain ⟨kk, xs, sp, rfl, kkk, bkk, r', kr', lx', mq⟩ := kr.num (k := 1) (by decide) (by decide) (R' := tailP) (val := fun m => m.k) (fun m hm => rfl) q
  have g0 := mq.get g0 (.inl h0g)
  have mm := mm.trans' mq (S2 := none_) (fun _ _ k => k) hgo
  have r := r'
  have kr := kr'
  have lx := Nat.le_trans lx' lx
  clear r' kr' lx' q mq
  conv => whnf
  have mp := Mod.push none_ h1 (.row true 9 [i64 0, i64 0, i64 0, .sl none 0, i64 0, i64 0, i64 0, i64 0, i64 0])
  have gm : (h1.push (.row true 9 [i64 0, i64 0, i64 0, .sl none 0, i64 0, i64 0, i64 0, i64 0, i64 0])).obj h1.next = some (.row true 9 [i64 0, i64 0, i64 0, .sl none 0, i64 0, i64 0, i64 0, i64 0, i64 0]) := H.obj_push_new _ _
  have hbg : h1.next ≠ h.next + 1 := Nat.ne_of_gt r.lt
  have h0b : h.next ≠ h1.next := Nat.ne_of_lt (h1.lt _ _ g0)
  have hlt : h.next < h1.next := h1.lt _ _ g0
  have hbm : ∀ i, i < h.next → one h1.next i → none_ i := fun i hi k => absurd hi (by unfold one at k; omega)
  have g0 := mp.get g0 (.inl (fun k => k))
  have r := r.get mp (fun k => k)
  have mm := mod_none mm mp
  clear mp
  refine ⟨_, _, gm, Nat.le_of_ble_eq_true rfl, ?_⟩
  have ms := Mod.set (S := one h1.next) (ob := .row true 9 [i64 kk, i64 0, i64 0, .sl none 0, i64 0, i64 0, i64 0, i64 0, i64 0]) rfl gm rfl
  have g0 := ms.get g0 (.inl h0b)
  have gm := H.obj_set_same (ob' := .row true 9 [i64 kk, i64 0, i64 0, .sl none 0, i64 0, i64 0, i64 0, i64 0, i64 0]) gm
  have r := r.get ms (fun k => hbg k.symm)
  have mm := mm.trans' ms (S2 := none_) (fun _ _ k => k) hbm
  clear ms
  generalize hbe : h1.next = bm at *
  conv => whnf
  refine ⟨_, Cell.mk gm rfl, ?_⟩
  conv => whnf
  refine br_mk (fun h1 => ?_) (fun h1 => ?_)
  conv => whnf
  simp at h1
  refine (num26 r (by omega) ((2 : Nat) : Int)).mono ?_
  rintro _ _ q
  obtain ⟨np, xs, sp, rfl, knp, bnp, r', kr', lx', mq⟩ := kr.num (k := 2) (by decide) (by decide) (R' := fun m => (2, m.d) :: []) (val := fun m => m.p) (fun m hm => by have := kkk m hm; exact tailP_1 (by omega)) q
  have gm := mq.get gm (.inl hbg)
  have g0 := mq.get g0 (.inl h0g)
  have mm := mm.trans' mq (S2 := none_) (fun _ _ k => k) hgo
  have r := r'
  have kr := kr'
  have lx := Nat.le_trans lx' lx
  clear r' kr' lx' q mq
  conv => whnf
  refine ⟨_, _, gm, Nat.le_of_ble_eq_true rfl, ?_⟩
  have ms := Mod.set (S := one bm) (ob := .row true 9 [i64 kk, i64 np, i64 0, .sl none 0, i64 0, i64 0, i64 0, i64 0, i64 0]) rfl gm rfl
  have g0 := ms.get g0 (.inl h0b)
  have gm := H.obj_set_same (ob' := .row true 9 [i64 kk, i64 np, i64 0, .sl none 0, i64 0, i64 0, i64 0, i64 0, i64 0]) gm
  have r := r.get ms (fun k => hbg k.symm)
  have mm := mm.trans' ms (S2 := none_) (fun _ _ k => k) hbm
  clear ms
  conv => whnf
  refine (num26 r (by omega) ((2 : Nat) : Int)).mono ?_
  rintro _ _ q
  obtain ⟨nd, xs, sp, rfl, knd, bnd, r', kr', lx', mq⟩ := kr.num (k := 2) (by decide) (by decide) (R' := fun m => []) (val := fun m => m.d) (fun m hm => rfl) q
  have gm := mq.get gm (.inl hbg)
  have g0 := mq.get g0 (.inl h0g)
  have mm := mm.trans' mq (S2 := none_) (fun _ _ k => k) hgo
  have r := r'
  have kr := kr'
  have lx := Nat.le_trans lx' lx
  clear r' kr' lx' q mq
  conv => whnf
  refine ⟨_, _, gm, Nat.le_of_ble_eq_true rfl, ?_⟩
  have ms := Mod.set (S := one bm) (ob := .row true 9 [i64 kk, i64 np, i64 nd, .sl none 0, i64 0, i64 0, i64 0, i64 0, i64 0]) rfl gm rfl
  have g0 := ms.get g0 (.inl h0b)
  have gm := H.obj_set_same (ob' := .row true 9 [i64 kk, i64 np, i64 nd, .sl none 0, i64 0, i64 0, i64 0, i64 0, i64 0]) gm
  have r := r.get ms (fun k => hbg k.symm)
  have mm := mm.trans' ms (S2 := none_) (fun _ _ k => k) hbm
  clear ms
  conv => whnf
  obtain ⟨m1, hm1⟩ : ∃ m1 : Msg, (⟨kk, np, nd, none, [], 0, 0, 0, 0, 0⟩ : Msg) = m1 := ⟨_, rfl⟩
  have okm := okm_mk gm hm1 ⟨SlIs.nil _ _ _, lo0, hi0, Nat.zero_le _⟩
  have gm := gm.trans (congrArg (fun x : Msg => some (Ab.Obj.row true 9 x.cells)) hm1)
  have hep : ∀ i o, m1.ep = some (i, o) → h.next < i ∧ i ≠ bm := by
    rw [← hm1]
    exact fun i o e => by cases e
  have can : Canon m1 := by
    rw [← hm1]
    exact ⟨fun _ => ⟨rfl, rfl⟩, fun _ => ⟨rfl, rfl, rfl, rfl⟩, fun hh => absurd h1 hh, fun hh _ _ => absurd h1 hh⟩
  have keq : ∀ m, Enc b m → eqM m m1 := by
    intro m hm
    rw [← hm1]
    have hc := hm.can
    have hkk := kkk m hm
    exact eqM.mk hkk (knp m hm) (knd m hm) (hc.r (by omega)).1.symm (hc.r (by omega)).2.symm (hc.n (by omega)).1.symm (hc.n (by omega)).2.1.symm (hc.n (by omega)).2.2.1.symm (hc.n (by omega)).2.2.2.symm
  clear hm1
  have rest : ∀ m, Enc b m → doneV xs sp = true := fun m hm => by
    have hkk := kkk m hm
    obtain ⟨t1, t2, _⟩ := kr.kn m hm
    skip
    rw [t1, t2]
    rfl
  rotate_left
  conv => whnf
  refine br_mk (fun h2 => ?_) (fun h2 => ?_)
  conv => whnf
  simp at h2
  refine br_mk (fun _ => ?_) (fun hz => absurd hz (by simp [h2]))
  conv => whnf
  refine (num26 r (by omega) ((2 : Nat) : Int)).mono ?_
  rintro _ _ q
  obtain ⟨np, xs, sp, rfl, knp, bnp, r', kr', lx', mq⟩ := kr.num (k := 2) (by decide) (by decide) (R' := fun m => []) (val := fun m => m.p) (fun m hm => by have := kkk m hm; exact tailP_2 (.inl (by omega))) q
  have gm := mq.get gm (.inl hbg)
  have g0 := mq.get g0 (.inl h0g)
  have mm := mm.trans' mq (S2 := none_) (fun _ _ k => k) hgo
  have r := r'
  have kr := kr'
  have lx := Nat.le_trans lx' lx
  clear r' kr' lx' q mq
  conv => whnf
  refine ⟨_, _, gm, Nat.le_of_ble_eq_true rfl, ?_⟩
  have ms := Mod.set (S := one bm) (ob := .row true 9 [i64 kk, i64 np, i64 0, .sl none 0, i64 0, i64 0, i64 0, i64 0, i64 0]) rfl gm rfl
  have g0 := ms.get g0 (.inl h0b)
  have gm := H.obj_set_same (ob' := .row true 9 [i64 kk, i64 np, i64 0, .sl none 0, i64 0, i64 0, i64 0, i64 0, i64 0]) gm
  have r := r.get ms (fun k => hbg k.symm)
  have mm := mm.trans' ms (S2 := none_) (fun _ _ k => k) hbm
  clear ms
  conv => whnf
  obtain ⟨m1, hm1⟩ : ∃ m1 : Msg, (⟨kk, np, 0, none, [], 0, 0, 0, 0, 0⟩ : Msg) = m1 := ⟨_, rfl⟩
  have okm := okm_mk gm hm1 ⟨SlIs.nil _ _ _, lo0, hi0, Nat.zero_le _⟩
  have gm := gm.trans (congrArg (fun x : Msg => some (Ab.Obj.row true 9 x.cells)) hm1)
  have hep : ∀ i o, m1.ep = some (i, o) → h.next < i ∧ i ≠ bm := by
    rw [← hm1]
    exact fun i o e => by cases e
  have can : Canon m1 := by
    rw [← hm1]
    exact ⟨fun _ => ⟨rfl, rfl⟩, fun _ => ⟨rfl, rfl, rfl, rfl⟩, fun _ => rfl, fun _ hh _ => absurd h2 hh⟩
  have keq : ∀ m, Enc b m → eqM m m1 := by
    intro m hm
    rw [← hm1]
    have hc := hm.can
    have hkk := kkk m hm
    exact eqM.mk hkk (knp m hm) (hc.d (by omega)).symm (hc.r (by omega)).1.symm (hc.r (by omega)).2.symm (hc.n (by omega)).1.symm (hc.n (by omega)).2.1.symm (hc.n (by omega)).2.2.1.symm (hc.n (by omega)).2.2.2.symm
  clear hm1
  have rest : ∀ m, Enc b m → doneV xs sp = true := fun m hm => by
    have hkk := kkk m hm
    obtain ⟨t1, t2, _⟩ := kr.kn m hm
    skip
    rw [t1, t2]
    rfl
  rotate_left
  conv => whnf
  refine br_mk (fun h9 => ?_) (fun h9 => ?_)
  conv => whnf
  simp at h9
  refine (num26 r (by omega) ((2 : Nat) : Int)).mono ?_
  rintro _ _ q
  obtain ⟨np, xs, sp, rfl, knp, bnp, r', kr', lx', mq⟩ := kr.num (k := 2) (by decide) (by decide) (R' := fun m => []) (val := fun m => m.p) (fun m hm => by have := kkk m hm; exact tailP_2 (.inr (by omega))) q
  have gm := mq.get gm (.inl hbg)
  have g0 := mq.get g0 (.inl h0g)
  have mm := mm.trans' mq (S2 := none_) (fun _ _ k => k) hgo
  have r := r'
  have kr := kr'
  have lx := Nat.le_trans lx' lx
  clear r' kr' lx' q mq
  conv => whnf
  refine ⟨_, _, gm, Nat.le_of_ble_eq_true rfl, ?_⟩
  have ms := Mod.set (S := one bm) (ob := .row true 9 [i64 kk, i64 np, i64 0, .sl none 0, i64 0, i64 0, i64 0, i64 0, i64 0]) rfl gm rfl
  have g0 := ms.get g0 (.inl h0b)
  have gm := H.obj_set_same (ob' := .row true 9 [i64 kk, i64 np, i64 0, .sl none 0, i64 0, i64 0, i64 0, i64 0, i64 0]) gm
  have r := r.get ms (fun k => hbg k.symm)
  have mm := mm.trans' ms (S2 := none_) (fun _ _ k => k) hbm
  clear ms
  conv => whnf
  obtain ⟨m1, hm1⟩ : ∃ m1 : Msg, (⟨kk, np, 0, none, [], 0, 0, 0, 0, 0⟩ : Msg) = m1 := ⟨_, rfl⟩
  have okm := okm_mk gm hm1 ⟨SlIs.nil _ _ _, lo0, hi0, Nat.zero_le _⟩
  have gm := gm.trans (congrArg (fun x : Msg => some (Ab.Obj.row true 9 x.cells)) hm1)
  have hep : ∀ i o, m1.ep = some (i, o) → h.next < i ∧ i ≠ bm := by
    rw [← hm1]
    exact fun i o e => by cases e
  have can : Canon m1 := by
    rw [← hm1]
    exact ⟨fun _ => ⟨rfl, rfl⟩, fun _ => ⟨rfl, rfl, rfl, rfl⟩, fun _ => rfl, fun _ _ hh => absurd h9 hh⟩
  have keq : ∀ m, Enc b m → eqM m m1 := by
    intro m hm
    rw [← hm1]
    have hc := hm.can
    have hkk := kkk m hm
    exact eqM.mk hkk (knp m hm) (hc.d (by omega)).symm (hc.r (by omega)).1.symm (hc.r (by omega)).2.symm (hc.n (by omega)).1.symm (hc.n (by omega)).2.1.symm (hc.n (by omega)).2.2.1.symm (hc.n (by omega)).2.2.2.symm
  clear hm1
  have rest : ∀ m, Enc b m → doneV xs sp = true := fun m hm => by
    have hkk := kkk m hm
    obtain ⟨t1, t2, _⟩ := kr.kn m hm
    skip
    rw [t1, t2]
    rfl
  rotate_left
  conv => whnf
  refine br_mk (fun h5 => ?_) (fun h5 => ?_)
  conv => whnf
  simp at h5
  refine (num26 r (by omega) ((5 : Nat) : Int)).mono ?_
  rintro _ _ q
  obtain ⟨nw, xs, sp, rfl, knw, bnw, r', kr', lx', mq⟩ := kr.num (k := 5) (by decide) (by decide) (R' := fun m => (2, (m.es.length : Int)) :: m.es.map fun v => (2, v)) (val := fun m => m.w) (fun m hm => by have := kkk m hm; exact tailP_5 (by omega)) q
  have gm := mq.get gm (.inl hbg)
  have g0 := mq.get g0 (.inl h0g)
  have mm := mm.trans' mq (S2 := none_) (fun _ _ k => k) hgo
  have r := r'
  have kr := kr'
  have lx := Nat.le_trans lx' lx
  clear r' kr' lx' q mq
  conv => whnf
  refine ⟨_, _, gm, Nat.le_of_ble_eq_true rfl, ?_⟩
  have ms := Mod.set (S := one bm) (ob := .row true 9 [i64 kk, i64 0, i64 0, .sl none 0, i64 nw, i64 0, i64 0, i64 0, i64 0]) rfl gm rfl
  have g0 := ms.get g0 (.inl h0b)
  have gm := H.obj_set_same (ob' := .row true 9 [i64 kk, i64 0, i64 0, .sl none 0, i64 nw, i64 0, i64 0, i64 0, i64 0]) gm
  have r := r.get ms (fun k => hbg k.symm)
  have mm := mm.trans' ms (S2 := none_) (fun _ _ k => k) hbm
  clear ms
  conv => whnf
  refine (num26 r (by omega) ((2 : Nat) : Int)).mono ?_
  rintro _ _ q
  obtain ⟨nn, xs, sp, rfl, knn, bnn, r', kr', lx', mq⟩ := kr.num (k := 2) (by decide) (by decide) (R' := fun m => m.es.map fun v => (2, v)) (val := fun m => (m.es.length : Int)) (fun m hm => rfl) q
  have gm := mq.get gm (.inl hbg)
  have g0 := mq.get g0 (.inl h0g)
  have mm := mm.trans' mq (S2 := none_) (fun _ _ k => k) hgo
  have r := r'
  have kr := kr'
  have lx := Nat.le_trans lx' lx
  clear r' kr' lx' q mq
  conv => whnf
  have e2 : (256 : Int) ^ 2 = 65536 := rfl
  rw [e2] at bnn
  have kr0 : KnR b xs sp fun m => (m.es.drop 0).map fun v => (2, v) := kr
  refine ⟨fun env hh => ∃ (z : Int) (es : List Int) (ep : Option (Nat × Nat)) (xs : List Int) (sp : Bool), z = es.length ∧ (es.length : Int) ≤ nn ∧ hh.obj h.next = some (.row true 9 [i64 0, i64 0, i64 0, .sl none 0, i64 0, i64 0, i64 0, i64 0, i64 0]) ∧ hh.obj bm = some (.row true 9 [i64 kk, i64 0, i64 0, .sl ep es.length, i64 nw, i64 0, i64 0, i64 0, i64 0]) ∧ SlIs hh ep es.length true 1 (ints .i64 es) ∧ (∀ i o, ep = some (i, o) → h.next < i ∧ i ≠ bm ∧ i ≠ h.next + 1) ∧ Rdr hh (h.next + 1) xs sp ∧ KnR b xs sp (fun m => (m.es.drop es.length).map fun v => (2, v)) ∧ (∀ m, Enc b m → es = m.es.take es.length) ∧ xs.length ≤ b.length ∧ Ab.Mod none_ h hh ∧ env = [(7, i64 z), (6, i64 nn), (5, .ptr (some (bm, 0))), (4, .ptr (some (h.next + 1, 0))), (2, .ptr (some (h.next, 0))), (0, .sl p b.length)],
    fun env _ => match get env 7 with
      | .int _ z => (nn - z).toNat
      | _ => 0, ⟨_, Forget.cons rfl (Forget.cons rfl (Forget.cons rfl (Forget.cons rfl (Forget.cons rfl (Forget.cons rfl (Forget.nil _)))))), _, [], none, _, _, rfl, bnn.1, g0, gm, SlIs.nil _ _ _, (fun _ _ e => by cases e), r, kr0, (fun m _ => rfl), lx, mm, rfl⟩, ?_⟩
  clear g0 gm r kr kr0 lx mm
  rintro _ _ ⟨z, es, ep, xs, sp, rfl, ha, g0, gm, se, hep, r, kr, ke, lx, mm, rfl⟩
  conv => whnf
  refine br_mk (fun hc => ?_) (fun hc => ?_)
  conv => whnf
  obtain ⟨pr, nr, rg, ro⟩ := r
  refine ⟨_, Cell.mk rg rfl, ?_⟩
  conv => whnf
  have r : Rdr _ (h.next + 1) xs sp := ⟨pr, nr, rg, ro⟩
  refine br_mk (fun hd => ?_) (fun hd => ?_)
  · conv => whnf
    simp at hc
    refine ⟨[0, 1, 2, 3, 4, 5, 6, 7], [0, 1, 0, 4, 12, 31, 63, 127], by kernel_rfl, ?_⟩
    conv => whnf
    refine ⟨_, Cell.mk gm rfl, ?_⟩
    conv => whnf
    refine (num26 r (by omega) ((2 : Nat) : Int)).mono ?_
    rintro _ h7 q
    have hdr : ∀ m, Enc b m → (m.es.drop es.length).map (fun v => ((2 : Nat), v)) = (2, m.es.getD es.length 0) :: (m.es.drop (es.length + 1)).map fun v => (2, v) := fun m hm => by
      have h1 := knn m hm
      rw [drop_cons (by omega)]
      rfl
    obtain ⟨ne, xs, sp, rfl, kne, bne, r', kr', lx', mq⟩ := kr.num (k := 2) (by decide) (by decide) (R' := fun m => (m.es.drop (es.length + 1)).map fun v => (2, v)) (val := fun m => m.es.getD es.length 0) hdr q
    have g0 := mq.get g0 (.inl h0g)
    have gm := mq.get gm (.inl hbg)
    have mm := mm.trans' mq (S2 := none_) (fun _ _ k => k) hgo
    have se := se.get mq (fun i o e => .inl (fun k => (hep i o e).2.2 k))
    conv => whnf
    refine ⟨?_, ?_⟩
    · conv => whnf
      exact ⟨_, Cell.mk gm rfl, rfl⟩
    conv => whnf
    rw [oneNum]
    have mp := Mod.push none_ h7 (.row true 1 (ints .i64 [ne]))
    refine ⟨_, _, se.get mp (fun _ _ _ => .inl (fun k => k)), (SlIs.row (n := 1) (H.obj_push_new _ _) rfl).weak, ?_, by omega, fun p9 h9 hs9 hm9 hf9 => ?_⟩
    · show (es.length + 1) * 8 ≤ 70368744177664
      omega
    conv => whnf
    have hnb : ∀ i, inSl ep i → h.next < i ∧ i ≠ bm ∧ i ≠ h.next + 1 := fun i ⟨o, e⟩ => hep i o e
    have hbl := h7.lt _ _ gm
    have g0 := hm9.get (mp.get g0 (.inl (fun k => k))) (.inl (fun k => by have := (hnb _ k).1; omega))
    have gm := hm9.get (mp.get gm (.inl (fun k => k))) (.inl (fun k => (hnb _ k).2.1 rfl))
    have r := (r'.get mp (fun k => k)).get hm9 (fun k => (hnb _ k).2.2 rfl)
    have mm7 := mm
    have mm := (mod_none mm mp).trans' hm9 (S2 := none_) (fun _ _ k => k) (fun i hi k => by have := (hnb _ k).1; omega)
    have hgl := r'.lt
    have hep9 : ∀ i o, p9 = some (i, o) → h.next < i ∧ i ≠ bm ∧ i ≠ h.next + 1 := fun i o e => by
      rcases hf9 i o e with k | k
      · exact hep i o (by rw [← k, e])
      · have k : h7.next + 1 ≤ i := k
        omega
    have se9 : SlIs h9 p9 (es.length + 1) true 1 (ints .i64 (es ++ [ne])) := by
      rw [ints_append]
      exact hs9
    refine ⟨_, _, gm, Nat.le_of_ble_eq_true rfl, ?_⟩
    have ms := Mod.set (S := one bm) (ob := .row true 9 [i64 kk, i64 0, i64 0, .sl p9 (es.length + 1), i64 nw, i64 0, i64 0, i64 0, i64 0]) rfl gm rfl
    have g0 := ms.get g0 (.inl h0b)
    have gm := H.obj_set_same (ob' := .row true 9 [i64 kk, i64 0, i64 0, .sl p9 (es.length + 1), i64 nw, i64 0, i64 0, i64 0, i64 0]) gm
    have r := r.get ms (fun k => hbg k.symm)
    have mm := mm.trans' ms (S2 := none_) (fun _ _ k => k) hbm
    have se9 := se9.get ms (fun i o e => .inl (fun k => (hep9 i o e).2.1 k))
    conv => whnf
    have hz : IntKind.i64.wrap ((es.length : Int) + 1) = ((es ++ [ne]).length : Int) := by
      rw [wrap_i64 (by omega) (by omega)]
      simp
    have hln : (es ++ [ne]).length = es.length + 1 := by simp
    refine ⟨_, Forget.cons rfl (Forget.cons rfl (Forget.cons rfl (Forget.cons rfl (Forget.cons rfl (Forget.cons rfl (Forget.nil _)))))), ⟨_, es ++ [ne], p9, xs, sp, hz, by rw [hln]; omega, g0, by rw [hln]; exact gm, by rw [hln]; exact se9, hep9, r, by rw [hln]; exact kr', fun m hm => ?_, Nat.le_trans lx' lx, mm, rfl⟩, ?_⟩
    · have h1 := knn m hm
      rw [hln, List.take_add_one, get_getD (by omega), ← ke m hm, kne m hm]
      rfl
    · show (nn - IntKind.i64.wrap ((es.length : Int) + 1)).toNat < (nn - (es.length : Int)).toNat
      rw [hz, hln]
      omega
  conv => whnf
  have hsp : sp = true := by simpa using hd
  have edge : ∀ m, Enc b m → es = m.es := fun m hm => by
    have := (kr.kn m hm).1
    rw [hsp] at this
    cases this
  obtain ⟨m1, hm1⟩ : ∃ m1 : Msg, (⟨kk, 0, 0, ep, es, nw, 0, 0, 0, 0⟩ : Msg) = m1 := ⟨_, rfl⟩
  have okm := okm_mk gm hm1 ⟨se.weak, lo0, hi0, by show es.length ≤ 100000; omega⟩
  have gm := gm.trans (congrArg (fun x : Msg => some (Ab.Obj.row true 9 x.cells)) hm1)
  have hep : ∀ i o, m1.ep = some (i, o) → h.next < i ∧ i ≠ bm := by
    rw [← hm1]
    exact fun i o e => ⟨(hep i o e).1, (hep i o e).2.1⟩
  have can : Canon m1 := by
    rw [← hm1]
    exact ⟨fun hh => absurd h5 hh, fun _ => ⟨rfl, rfl, rfl, rfl⟩, fun _ => rfl, fun _ _ _ => rfl⟩
  have keq : ∀ m, Enc b m → eqM m m1 := by
    intro m hm
    rw [← hm1]
    have hc := hm.can
    have hkk := kkk m hm
    exact eqM.mk hkk (hc.p (by omega) (by omega) (by omega)).symm (hc.d (by omega)).symm (edge m hm) (knw m hm) (hc.n (by omega)).1.symm (hc.n (by omega)).2.1.symm (hc.n (by omega)).2.2.1.symm (hc.n (by omega)).2.2.2.symm
  clear hm1
  have rest : ∀ m, Enc b m → doneV xs sp = true := fun m hm => by
    have hkk := kkk m hm
    obtain ⟨t1, t2, _⟩ := kr.kn m hm
    rw [hsp] at t1
    cases t1
  rotate_left
  conv => whnf
  simp at hc
  have edge : ∀ m, Enc b m → es = m.es := fun m hm => by
    have h1 := knn m hm
    rw [ke m hm]
    exact List.take_of_length_le (by omega)
  obtain ⟨m1, hm1⟩ : ∃ m1 : Msg, (⟨kk, 0, 0, ep, es, nw, 0, 0, 0, 0⟩ : Msg) = m1 := ⟨_, rfl⟩
  have okm := okm_mk gm hm1 ⟨se.weak, lo0, hi0, by show es.length ≤ 100000; omega⟩
  have gm := gm.trans (congrArg (fun x : Msg => some (Ab.Obj.row true 9 x.cells)) hm1)
  have hep : ∀ i o, m1.ep = some (i, o) → h.next < i ∧ i ≠ bm := by
    rw [← hm1]
    exact fun i o e => ⟨(hep i o e).1, (hep i o e).2.1⟩
  have can : Canon m1 := by
    rw [← hm1]
    exact ⟨fun hh => absurd h5 hh, fun _ => ⟨rfl, rfl, rfl, rfl⟩, fun _ => rfl, fun _ _ _ => rfl⟩
  have keq : ∀ m, Enc b m → eqM m m1 := by
    intro m hm
    rw [← hm1]
    have hc := hm.can
    have hkk := kkk m hm
    exact eqM.mk hkk (hc.p (by omega) (by omega) (by omega)).symm (hc.d (by omega)).symm (edge m hm) (knw m hm) (hc.n (by omega)).1.symm (hc.n (by omega)).2.1.symm (hc.n (by omega)).2.2.1.symm (hc.n (by omega)).2.2.2.symm
  clear hm1
  have rest : ∀ m, Enc b m → doneV xs sp = true := fun m hm => by
    have hkk := kkk m hm
    obtain ⟨t1, t2, _⟩ := kr.kn m hm
    rw [edge m hm, List.drop_length] at t2
    rw [t1, t2]
    rfl
  rotate_left
  conv => whnf
  refine br_mk (fun h7 => ?_) (fun h7 => ?_)
  conv => whnf
  simp at h7
  refine (num26 r (by omega) ((1 : Nat) : Int)).mono ?_
  rintro _ _ q
  obtain ⟨nc, xs, sp, rfl, knc, bnc, r', kr', lx', mq⟩ := kr.num (k := 1) (by decide) (by decide) (R' := fun m => [(2, IntKind.i64.wrap (m.e + 1)), (5, m.f), (5, m.l)]) (val := fun m => m.c) (fun m hm => by have := kkk m hm; exact tailP_7 (by omega)) q
  have gm := mq.get gm (.inl hbg)
  have g0 := mq.get g0 (.inl h0g)
  have mm := mm.trans' mq (S2 := none_) (fun _ _ k => k) hgo
  have r := r'
  have kr := kr'
  have lx := Nat.le_trans lx' lx
  clear r' kr' lx' q mq
  conv => whnf
  refine ⟨_, _, gm, Nat.le_of_ble_eq_true rfl, ?_⟩
  have ms := Mod.set (S := one bm) (ob := .row true 9 [i64 kk, i64 0, i64 0, .sl none 0, i64 0, i64 nc, i64 0, i64 0, i64 0]) rfl gm rfl
  have g0 := ms.get g0 (.inl h0b)
  have gm := H.obj_set_same (ob' := .row true 9 [i64 kk, i64 0, i64 0, .sl none 0, i64 0, i64 nc, i64 0, i64 0, i64 0]) gm
  have r := r.get ms (fun k => hbg k.symm)
  have mm := mm.trans' ms (S2 := none_) (fun _ _ k => k) hbm
  clear ms
  conv => whnf
  refine (num26 r (by omega) ((2 : Nat) : Int)).mono ?_
  rintro _ _ q
  obtain ⟨ne, xs, sp, rfl, kne, bne, r', kr', lx', mq⟩ := kr.num (k := 2) (by decide) (by decide) (R' := fun m => [(5, m.f), (5, m.l)]) (val := fun m => IntKind.i64.wrap (m.e + 1)) (fun m hm => rfl) q
  have gm := mq.get gm (.inl hbg)
  have g0 := mq.get g0 (.inl h0g)
  have mm := mm.trans' mq (S2 := none_) (fun _ _ k => k) hgo
  have r := r'
  have kr := kr'
  have lx := Nat.le_trans lx' lx
  clear r' kr' lx' q mq
  conv => whnf
  have e2 : (256 : Int) ^ 2 = 65536 := rfl
  rw [e2] at bne
  have hw : IntKind.i64.wrap (ne - 1) = ne - 1 := wrap_i64 (by omega) (by omega)
  rw [hw]
  refine ⟨_, _, gm, Nat.le_of_ble_eq_true rfl, ?_⟩
  have ms := Mod.set (S := one bm) (ob := .row true 9 [i64 kk, i64 0, i64 0, .sl none 0, i64 0, i64 nc, i64 (ne - 1), i64 0, i64 0]) rfl gm rfl
  have g0 := ms.get g0 (.inl h0b)
  have gm := H.obj_set_same (ob' := .row true 9 [i64 kk, i64 0, i64 0, .sl none 0, i64 0, i64 nc, i64 (ne - 1), i64 0, i64 0]) gm
  have r := r.get ms (fun k => hbg k.symm)
  have mm := mm.trans' ms (S2 := none_) (fun _ _ k => k) hbm
  clear ms
  conv => whnf
  refine (num26 r (by omega) ((5 : Nat) : Int)).mono ?_
  rintro _ _ q
  obtain ⟨nf, xs, sp, rfl, knf, bnf, r', kr', lx', mq⟩ := kr.num (k := 5) (by decide) (by decide) (R' := fun m => [(5, m.l)]) (val := fun m => m.f) (fun m hm => rfl) q
  have gm := mq.get gm (.inl hbg)
  have g0 := mq.get g0 (.inl h0g)
  have mm := mm.trans' mq (S2 := none_) (fun _ _ k => k) hgo
  have r := r'
  have kr := kr'
  have lx := Nat.le_trans lx' lx
  clear r' kr' lx' q mq
  conv => whnf
  refine ⟨_, _, gm, Nat.le_of_ble_eq_true rfl, ?_⟩
  have ms := Mod.set (S := one bm) (ob := .row true 9 [i64 kk, i64 0, i64 0, .sl none 0, i64 0, i64 nc, i64 (ne - 1), i64 nf, i64 0]) rfl gm rfl
  have g0 := ms.get g0 (.inl h0b)
  have gm := H.obj_set_same (ob' := .row true 9 [i64 kk, i64 0, i64 0, .sl none 0, i64 0, i64 nc, i64 (ne - 1), i64 nf, i64 0]) gm
  have r := r.get ms (fun k => hbg k.symm)
  have mm := mm.trans' ms (S2 := none_) (fun _ _ k => k) hbm
  clear ms
  conv => whnf
  refine (num26 r (by omega) ((5 : Nat) : Int)).mono ?_
  rintro _ _ q
  obtain ⟨nl, xs, sp, rfl, knl, bnl, r', kr', lx', mq⟩ := kr.num (k := 5) (by decide) (by decide) (R' := fun m => []) (val := fun m => m.l) (fun m hm => rfl) q
  have gm := mq.get gm (.inl hbg)
  have g0 := mq.get g0 (.inl h0g)
  have mm := mm.trans' mq (S2 := none_) (fun _ _ k => k) hgo
  have r := r'
  have kr := kr'
  have lx := Nat.le_trans lx' lx
  clear r' kr' lx' q mq
  conv => whnf
  refine ⟨_, _, gm, Nat.le_of_ble_eq_true rfl, ?_⟩
  have ms := Mod.set (S := one bm) (ob := .row true 9 [i64 kk, i64 0, i64 0, .sl none 0, i64 0, i64 nc, i64 (ne - 1), i64 nf, i64 nl]) rfl gm rfl
  have g0 := ms.get g0 (.inl h0b)
  have gm := H.obj_set_same (ob' := .row true 9 [i64 kk, i64 0, i64 0, .sl none 0, i64 0, i64 nc, i64 (ne - 1), i64 nf, i64 nl]) gm
  have r := r.get ms (fun k => hbg k.symm)
  have mm := mm.trans' ms (S2 := none_) (fun _ _ k => k) hbm
  clear ms
  conv => whnf
  obtain ⟨m1, hm1⟩ : ∃ m1 : Msg, (⟨kk, 0, 0, none, [], 0, nc, (ne - 1), nf, nl⟩ : Msg) = m1 := ⟨_, rfl⟩
  have okm := okm_mk gm hm1 ⟨SlIs.nil _ _ _, by show _ ≤ ne - 1; omega, by show ne - 1 ≤ _; omega, Nat.zero_le _⟩
  have gm := gm.trans (congrArg (fun x : Msg => some (Ab.Obj.row true 9 x.cells)) hm1)
  have hep : ∀ i o, m1.ep = some (i, o) → h.next < i ∧ i ≠ bm := by
    rw [← hm1]
    exact fun i o e => by cases e
  have can : Canon m1 := by
    rw [← hm1]
    exact ⟨fun _ => ⟨rfl, rfl⟩, fun hh => absurd h7 hh, fun _ => rfl, fun _ _ _ => rfl⟩
  have keq : ∀ m, Enc b m → eqM m m1 := by
    intro m hm
    rw [← hm1]
    have hc := hm.can
    have hkk := kkk m hm
    have h3 := kne m hm
    have h4 : ne - 1 = m.e := by
      have r1 := hm.e1
      have r2 := hm.e2
      by_cases hx : m.e = 9223372036854775807
      · rw [hx] at h3
        have : IntKind.i64.wrap (9223372036854775807 + 1) = -9223372036854775808 := rfl
        omega
      · rw [wrap_i64 (by omega) (by omega)] at h3
        omega
    exact eqM.mk hkk (hc.p (by omega) (by omega) (by omega)).symm (hc.d (by omega)).symm (hc.r (by omega)).1.symm (hc.r (by omega)).2.symm (knc m hm) h4 (knf m hm) (knl m hm)
  clear hm1
  have rest : ∀ m, Enc b m → doneV xs sp = true := fun m hm => by
    have hkk := kkk m hm
    obtain ⟨t1, t2, _⟩ := kr.kn m hm
    skip
    rw [t1, t2]
    rfl
  rotate_left
  conv => whnf
  simp at h1 h2 h9 h5 h7
  obtain ⟨m1, hm1⟩ : ∃ m1 : Msg, (⟨kk, 0, 0, none, [], 0, 0, 0, 0, 0⟩ : Msg) = m1 := ⟨_, rfl⟩
  have okm := okm_mk gm hm1 ⟨SlIs.nil _ _ _, lo0, hi0, Nat.zero_le _⟩
  have gm := gm.trans (congrArg (fun x : Msg => some (Ab.Obj.row true 9 x.cells)) hm1)
  have hep : ∀ i o, m1.ep = some (i, o) → h.next < i ∧ i ≠ bm := by
    rw [← hm1]
    exact fun i o e => by cases e
  have can : Canon m1 := by
    rw [← hm1]
    exact ⟨fun _ => ⟨rfl, rfl⟩, fun _ => ⟨rfl, rfl, rfl, rfl⟩, fun _ => rfl, fun _ _ _ => rfl⟩
  have keq : ∀ m, Enc b m → eqM m m1 := by
    intro m hm
    rw [← hm1]
    have hc := hm.can
    have hkk := kkk m hm
    exact eqM.mk hkk (hc.p (by omega) (by omega) (by omega)).symm (hc.d (by omega)).symm (hc.r (by omega)).1.symm (hc.r (by omega)).2.symm (hc.n (by omega)).1.symm (hc.n (by omega)).2.1.symm (hc.n (by omega)).2.2.1.symm (hc.n (by omega)).2.2.2.symm
  clear hm1
  have rest : ∀ m, Enc b m → doneV xs sp = true := fun m hm => by
    have hkk := kkk m hm
    obtain ⟨t1, t2, _⟩ := kr.kn m hm
    rw [tailP_0 (by omega) (by omega) (by omega) (by omega) (by omega)] at t2
    rw [t1, t2]
    rfl
  rotate_left
  all_goals
    refine ⟨m1.cells, Cells.mk gm (Nat.le_of_ble_eq_true rfl) rfl, ?_⟩
    conv => whnf
    refine (ref42 m1 okm).mono ?_
    rintro _ he ⟨qe, rfl, oe, me⟩
    conv => whnf
    refine ⟨_, rfl, ?_⟩
    conv => whnf
    refine ⟨_, rfl, ?_⟩
    conv => whnf
    have gm := me.get gm (.inl (fun k => k))
    have g0 := me.get g0 (.inl (fun k => k))
    have okm := okm.old me (fun _ _ k => k)
    have r := r.get me (fun k => k)
    have mm := mod_none mm me
    have no : (∀ m, ¬ Enc b m) → ∀ {hx : H}, Ab.Mod none_ h hx → DecRS b h (.tup [.agg msg0.cells, .bool false]) hx := fun hn hx mx => ⟨msg0, false, rfl, ⟨SlIs.nil _ _ _, by decide, by decide, by decide⟩, mx, .inr ⟨rfl, rfl, hn⟩, fun i o e => (by cases e)⟩
    refine (done32 r).mono ?_
    rintro _ h' ⟨eh, rfl⟩
    subst h'
    conv => whnf
    refine br_mk (fun hx => ?_) (fun hx => ?_)
    · conv => whnf
      refine ⟨_, _, g0, Nat.le_of_ble_eq_true rfl, ?_⟩
      conv => whnf
      have ms := Mod.set (S := one h.next) (ob := .row true 9 msg0.cells) rfl g0 rfl
      have g0 := H.obj_set_same (ob' := .row true 9 msg0.cells) g0
      refine ⟨msg0.cells, Cells.mk g0 (Nat.le_of_ble_eq_true rfl) rfl, ?_⟩
      conv => whnf
      have hx : doneV xs sp = false := by simpa using hx
      exact no (fun m hm => by rw [rest m hm] at hx; cases hx) (mm.trans' ms (S2 := none_) (fun _ _ k => k) hbo)
    conv => whnf
    refine br_mk (fun hy => ?_) (fun hy => ?_)
    · conv => whnf
      refine ⟨_, _, g0, Nat.le_of_ble_eq_true rfl, ?_⟩
      conv => whnf
      have ms := Mod.set (S := one h.next) (ob := .row true 9 msg0.cells) rfl g0 rfl
      have g0 := H.obj_set_same (ob' := .row true 9 msg0.cells) g0
      refine ⟨msg0.cells, Cells.mk g0 (Nat.le_of_ble_eq_true rfl) rfl, ?_⟩
      conv => whnf
      have ho : encOk m1 = false := by simpa using hy
      have dn := decA_no (.inl ho) keq
      rcases dn with ⟨k, _⟩ | ⟨_, _, dn⟩
      · cases k
      exact no dn (mm.trans' ms (S2 := none_) (fun _ _ k => k) hbo)
    conv => whnf
    have ho : encOk m1 = true := by simpa using hy
    refine ⟨_, oe.is, encB_bts m1, ?_⟩
    conv => whnf
    refine ⟨_, SlIs.old o.is mm (fun _ _ k => k), bb, ?_⟩
    conv => whnf
    refine br_mk (fun hz => ?_) (fun hz => ?_)
    · conv => whnf
      refine ⟨_, _, g0, Nat.le_of_ble_eq_true rfl, ?_⟩
      conv => whnf
      have ms := Mod.set (S := one h.next) (ob := .row true 9 msg0.cells) rfl g0 rfl
      have g0 := H.obj_set_same (ob' := .row true 9 msg0.cells) g0
      refine ⟨msg0.cells, Cells.mk g0 (Nat.le_of_ble_eq_true rfl) rfl, ?_⟩
      conv => whnf
      have hz : encB m1 ≠ b := by simpa using hz
      have dn := decA_no (.inr hz) keq
      rcases dn with ⟨k, _⟩ | ⟨_, _, dn⟩
      · cases k
      exact no dn (mm.trans' ms (S2 := none_) (fun _ _ k => k) hbo)
    conv => whnf
    have hz : encB m1 = b := by simpa using hz
    refine ⟨m1.cells, Cells.mk gm (Nat.le_of_ble_eq_true rfl) rfl, ?_⟩
    conv => whnf
    refine ⟨_, _, g0, Nat.le_of_ble_eq_true rfl, ?_⟩
    conv => whnf
    have ms := Mod.set (S := one h.next) (ob := .row true 9 m1.cells) rfl g0 rfl
    have gm2 := H.obj_set_same (ob' := .row true 9 m1.cells) g0
    refine ⟨m1.cells, Cells.mk gm2 (Nat.le_of_ble_eq_true rfl) rfl, ?_⟩
    conv => whnf
    refine ⟨m1, true, rfl, ⟨?_, okm.2⟩, mm.trans' ms (S2 := none_) (fun _ _ k => k) hbo, decA_yes can ho hz okm.2.1 okm.2.2.1 keq, fun i o e => (hep i o e).1⟩
    exact okm.1.get ms (fun i o e => .inl (Nat.ne_of_gt (hep i o e).1))
theorem bytesP_length : ∀ ps : List (Nat × Int), (bytesP ps).length = (ps.map (·.1)).sum
  | [] => rfl
  | q :: ps => by
    show (be q.2 q.1 ++ bytesP ps).length = _
    rw [List.length_append, be_length, bytesP_length ps]
    rfl
end Go.Proofs.YtmififfaljihgaaGreat
