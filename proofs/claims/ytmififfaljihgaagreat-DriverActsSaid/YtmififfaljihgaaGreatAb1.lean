/- The relations' movers: what stands for what, from one memory to the next. -/
import Derived.Test.YtmififfaljihgaaGreatAb0
set_option linter.unusedVariables false
namespace Go.Ab
open Go

theorem VRel.mono {ρ ρ' : Rho} (he : ∀ i l, ρ i = some l → ρ' i = some l) {v : V} {u : Value} (h : VRel ρ v u) : VRel ρ' v u := by
  induction h with
  | undef u => exact .undef u
  | int k n => exact .int k n
  | bool b => exact .bool b
  | str s => exact .str s
  | nilp => exact .nilp
  | ptr i o l h => exact .ptr i o l (he _ _ h)
  | nils => exact .nils
  | sl i o n cap a l h hn hm ha hl => exact .sl i o n cap a l (he _ _ h) hn hm ha hl
  | nilm => exact .nilm
  | mp i l h => exact .mp i l (he _ _ h)
  | fn f => exact .fn f
  | clo f cs us hl hc ih => exact .clo f cs us hl ih
  | clz f i l h h0 => exact .clz f i l (he _ _ h) h0
  | agg cs us h1 hl hc ih => exact .agg cs us h1 hl ih
  | tup cs us hl hc ih => exact .tup cs us hl ih

theorem VsRel.mono {ρ ρ' : Rho} (he : ∀ i l, ρ i = some l → ρ' i = some l) {cs : List V} {us : List Value} (h : VsRel ρ cs us) : VsRel ρ' cs us :=
  ⟨h.1, fun j c u hc hu => (h.2 j c u hc hu).mono he⟩
theorem VsRel.nil (ρ : Rho) : VsRel ρ [] [] := ⟨rfl, fun j c u h => by simp at h⟩
theorem VsRel.cons {ρ : Rho} {c : V} {u : Value} {cs : List V} {us : List Value} (h : VRel ρ c u) (hs : VsRel ρ cs us) : VsRel ρ (c :: cs) (u :: us) := by
  refine ⟨by simp [hs.1], fun j c' u' hc hu => ?_⟩
  cases j with
  | zero =>
    simp at hc hu
    subst hc hu
    exact h
  | succ j => exact hs.2 j c' u' (by simpa using hc) (by simpa using hu)
theorem VsRel.uncons {ρ : Rho} {c : V} {cs : List V} {us : List Value} (h : VsRel ρ (c :: cs) us) : ∃ u us', us = u :: us' ∧ VRel ρ c u ∧ VsRel ρ cs us' := by
  cases us with
  | nil => simp [VsRel] at h
  | cons u us => exact ⟨u, us, rfl, h.2 0 c u rfl rfl, by simpa using h.1, fun j c' u' hc hu => h.2 (j + 1) c' u' (by simpa using hc) (by simpa using hu)⟩
theorem VsRel.append {ρ : Rho} {cs ds : List V} {us ws : List Value} (h : VsRel ρ cs us) (k : VsRel ρ ds ws) : VsRel ρ (cs ++ ds) (us ++ ws) := by
  induction cs generalizing us with
  | nil =>
    have : us = [] := List.eq_nil_of_length_eq_zero (by simpa using h.1.symm)
    subst this
    simpa using k
  | cons c cs ih =>
    obtain ⟨u, us', rfl, h1, h2⟩ := h.uncons
    exact VsRel.cons h1 (ih h2)
theorem VsRel.drop {ρ : Rho} {cs : List V} {us : List Value} (h : VsRel ρ cs us) (n : Nat) : VsRel ρ (cs.drop n) (us.drop n) :=
  ⟨by simp [h.1], fun j c u hc hu => h.2 (n + j) c u (by simpa using hc) (by simpa using hu)⟩
theorem VsRel.take {ρ : Rho} {cs : List V} {us : List Value} (h : VsRel ρ cs us) (n : Nat) : VsRel ρ (cs.take n) (us.take n) := by
  refine ⟨by simp [h.1], fun j c u hc hu => ?_⟩
  rw [List.getElem?_take] at hc hu
  split at hc
  · rename_i hj
    rw [if_pos hj] at hu
    exact h.2 j c u hc hu
  · cases hc
theorem VsRel.set {ρ : Rho} {cs : List V} {us : List Value} (h : VsRel ρ cs us) (i : Nat) {c : V} {u : Value} (hc : VRel ρ c u) : VsRel ρ (cs.set i c) (us.set i u) := by
  refine ⟨by simp [h.1], fun j c' u' h1 h2 => ?_⟩
  rw [List.getElem?_set] at h1 h2
  split at h1
  · rename_i e
    subst e
    rw [if_pos rfl] at h2
    rw [h.1] at h1
    split at h1
    · rename_i hi
      rw [if_pos hi] at h2
      injection h1 with h1
      injection h2 with h2
      subst h1 h2
      exact hc
    · cases h1
  · rename_i e
    rw [if_neg e] at h2
    exact h.2 j c' u' h1 h2
theorem VsRel.get {ρ : Rho} {cs : List V} {us : List Value} (h : VsRel ρ cs us) {j : Nat} {c : V} (hc : cs[j]? = some c) : ∃ u, us[j]? = some u ∧ VRel ρ c u := by
  have hj : j < us.length := by
    have := (List.getElem?_eq_some_iff.1 hc).1
    rw [← h.1]
    exact this
  exact ⟨us[j], List.getElem?_eq_getElem hj, h.2 j c _ hc (List.getElem?_eq_getElem hj)⟩
theorem VsRel.of_get {ρ : Rho} {cs : List V} {us : List Value} (hl : cs.length = us.length) (h : ∀ (j : Nat) (c : V), cs[j]? = some c → ∃ u, us[j]? = some u ∧ VRel ρ c u) : VsRel ρ cs us :=
  ⟨hl, fun j c u hc hu => by
    obtain ⟨u', h1, h2⟩ := h j c hc
    rw [hu] at h1
    injection h1 with h1
    subst h1
    exact h2⟩
/-- The cells of a value. -/
theorem VRel.cells {ρ : Rho} {v : V} {u : Value} (h : VRel ρ v u) (hv : isV v = true) : VsRel ρ (vcells v) u.cells.toList ∧ ∀ x ∈ u.cells.toList, x.oneCell' = true := by
  have one : ∀ (c : V) (x : Value), VRel ρ c x → vcells c = [c] → x.cells = #[x] → x.oneCell' = true → VsRel ρ (vcells c) x.cells.toList ∧ ∀ y ∈ x.cells.toList, y.oneCell' = true := by
    intro c x h1 h2 h3 h4
    rw [h2, h3]
    exact ⟨VsRel.cons h1 (VsRel.nil ρ), fun y hy => by simp at hy; subst hy; exact h4⟩
  cases h with
  | undef u => simp [isV] at hv
  | int k n => exact one _ _ (.int k n) rfl rfl rfl
  | bool b => exact one _ _ (.bool b) rfl rfl rfl
  | str s => exact one _ _ (.str s) rfl rfl rfl
  | nilp => exact one _ _ .nilp rfl rfl rfl
  | ptr i o l h => exact one _ _ (.ptr i o l h) rfl rfl rfl
  | nils => exact one _ _ .nils rfl rfl rfl
  | sl i o n cap a l h hn hm ha hl => exact one _ _ (.sl i o n cap a l h hn hm ha hl) rfl rfl rfl
  | nilm => exact one _ _ .nilm rfl rfl rfl
  | mp i l h => exact one _ _ (.mp i l h) rfl rfl rfl
  | fn f => exact one _ _ (.fn f) rfl rfl rfl
  | clo f cs us hl hc => exact one _ _ (.clo f cs us hl hc) rfl rfl rfl
  | clz f i l h h0 => exact one _ _ (.clz f i l h h0) rfl rfl rfl
  | agg cs us h1 hl hc => exact ⟨⟨hl, hc⟩, by simpa [Value.cells] using h1⟩
  | tup cs us hl hc => simp [isV] at hv

theorem ObjRel.mono {ρ ρ' : Rho} (he : ∀ i l, ρ i = some l → ρ' i = some l) {w w' : World} {l : Loc} {ob : Obj} (h : ObjRel ρ w l ob) (hb : w'.heap[l.b]? = w.heap[l.b]?) : ObjRel ρ' w' l ob := by
  cases ob with
  | row own sz cs =>
    obtain ⟨h1, h2, cells, e, fr, h3, h4, h5, h6⟩ := h
    refine ⟨h1, h2, cells, e, fr, by rw [hb, h3], h4, h5, fun j c hc => ?_⟩
    obtain ⟨u, a, b, c⟩ := h6 j c hc
    exact ⟨u, a, b, c.mono he⟩
  | map own es =>
    obtain ⟨ms, clock, h1, h2, h3, h4, h5⟩ := h
    refine ⟨ms, clock, by rw [hb, h1], h2, h3, h4, fun j kv m hk hm => ?_⟩
    exact ⟨(h5 j kv m hk hm).1.mono he, (h5 j kv m hk hm).2.mono he⟩
  | mapb es bs cl =>
    obtain ⟨ms, h1, h2, h3, h4, h5, h6⟩ := h
    refine ⟨ms, by rw [hb, h1], h2, h3, h4, h5, fun j kv m hk hm => ?_⟩
    exact ⟨(h6 j kv m hk hm).1.mono he, (h6 j kv m hk hm).2.mono he⟩
  | itr i since seen last =>
    obtain ⟨lm, h1, h2, h3⟩ := h
    exact ⟨lm, he _ _ h1, h2, by rw [hb, h3]⟩
theorem ObjRel.lt {ρ : Rho} {w : World} {l : Loc} {ob : Obj} (h : ObjRel ρ w l ob) : l.b < w.heap.size := by
  cases ob with
  | row own sz cs =>
    obtain ⟨_, _, cells, e, fr, h3, _⟩ := h
    exact (Array.getElem?_eq_some_iff.1 h3).1
  | map own es =>
    obtain ⟨ms, clock, h1, _⟩ := h
    exact (Array.getElem?_eq_some_iff.1 h1).1
  | mapb es bs cl =>
    obtain ⟨ms, h1, _⟩ := h
    exact (Array.getElem?_eq_some_iff.1 h1).1
  | itr i since seen last =>
    obtain ⟨lm, _, _, h1⟩ := h
    exact (Array.getElem?_eq_some_iff.1 h1).1

theorem Since.refl (ρ : Rho) (h : H) (w : World) : Since ρ h w ρ h w :=
  ⟨fun _ _ e => e, rfl, rfl, rfl, Nat.le_refl _, Nat.le_refl _, fun _ _ _ => rfl, fun i ob l h1 h2 h3 => .inl ⟨i, ob, l, h1, h2, h3, rfl⟩⟩
theorem Since.trans {ρ ρ1 ρ2 : Rho} {h h1 h2 : H} {w w1 w2 : World} (a : Since ρ h w ρ1 h1 w1) (b : Since ρ1 h1 w1 ρ2 h2 w2) : Since ρ h w ρ2 h2 w2 := by
  refine ⟨fun i l e => b.ext i l (a.ext i l e), b.os.trans a.os, b.tape.trans a.tape, b.output.trans a.output, Nat.le_trans a.size b.size, Nat.le_trans a.next b.next, fun k hk hn => ?_, fun i ob l e1 e2 e3 => ?_⟩
  · rw [b.frame k (Nat.lt_of_lt_of_le hk a.size) (fun i ob l e1 e2 e3 e4 => ?_)]
    · exact a.frame k hk hn
    · rcases a.own i ob l e1 e2 e3 with ⟨j, oj, lj, f1, f2, f3, f4⟩ | hge
      · exact hn j oj lj f1 f2 f3 (f4.trans e4)
      · omega
  · rcases b.own i ob l e1 e2 e3 with ⟨j, oj, lj, f1, f2, f3, f4⟩ | hge
    · rcases a.own j oj lj f1 f2 f3 with ⟨k, ok, lk, g1, g2, g3, g4⟩ | hge
      · exact .inl ⟨k, ok, lk, g1, g2, g3, g4.trans f4⟩
      · exact .inr (by omega)
    · exact .inr (Nat.le_trans a.size hge)
/-- Nothing but the draws' count has turned. -/
theorem Since.drew (ρ : Rho) (h : H) (w : World) : Since ρ h w ρ h w.drew :=
  ⟨fun _ _ e => e, rfl, rfl, rfl, Nat.le_refl _, Nat.le_refl _, fun _ _ _ => rfl, fun i ob l h1 h2 h3 => .inl ⟨i, ob, l, h1, h2, h3, rfl⟩⟩
theorem Rel.drew {ρ : Rho} {h : H} {w : World} (r : Rel ρ h w) : Rel ρ h w.drew :=
  ⟨fun i ob e => by
    obtain ⟨l, h1, h2⟩ := r.obj i ob e
    exact ⟨l, h1, h2.mono (fun _ _ e => e) rfl⟩, r.sep⟩

/-! ### A new block -/
def Rho.add (ρ : Rho) (n : Nat) (l : Loc) : Rho := fun i => if i = n then some l else ρ i
theorem Rho.add_ext {ρ : Rho} {n : Nat} (hd : Dom ρ n) (l : Loc) : ∀ i x, ρ i = some x → ρ.add n l i = some x := by
  intro i x h
  unfold Rho.add
  rw [if_neg]
  · exact h
  · rintro rfl
    rw [hd i (Nat.le_refl _)] at h
    cases h
theorem Rho.add_self (ρ : Rho) (n : Nat) (l : Loc) : ρ.add n l n = some l := by simp [Rho.add]
theorem Dom.add {ρ : Rho} {n : Nat} (hd : Dom ρ n) (l : Loc) : Dom (ρ.add n l) (n + 1) := by
  intro i hi
  unfold Rho.add
  rw [if_neg (by omega)]
  exact hd i (by omega)
theorem Dom.mono {ρ : Rho} {n m : Nat} (hd : Dom ρ n) (h : n ≤ m) : Dom ρ m := fun i hi => hd i (by omega)
/-- A new object at a block that nobody has: one more. -/
theorem Rel.push {ρ : Rho} {h : H} {w w' : World} {l : Loc} {ob : Obj} (r : Rel ρ h w) (hd : Dom ρ h.next) (hl : w.heap.size ≤ l.b)
    (hold : ∀ b, b < w.heap.size → w'.heap[b]? = w.heap[b]?) (hob : ObjRel (ρ.add h.next l) w' l ob) : Rel (ρ.add h.next l) (h.push ob) w' := by
  have he := Rho.add_ext hd l
  constructor
  · intro i ob' hi
    simp only [H.push] at hi
    split at hi
    · rename_i e
      subst e
      injection hi with hi
      subst hi
      exact ⟨l, Rho.add_self _ _ _, hob⟩
    · obtain ⟨li, h1, h2⟩ := r.obj i ob' hi
      exact ⟨li, he _ _ h1, h2.mono he (hold _ h2.lt)⟩
  · intro i j oi oj li lj hi hj ho hij e1 e2
    simp only [H.push] at hi hj
    split at hi
    · rename_i e
      subst e
      rw [Rho.add_self] at e1
      injection e1 with e1
      subst e1
      rw [if_neg (fun e => hij e.symm)] at hj
      obtain ⟨lj', h1, h2⟩ := r.obj j oj hj
      rw [he _ _ h1] at e2
      injection e2 with e2
      subst e2
      have := h2.lt
      omega
    · obtain ⟨li', h1, h2⟩ := r.obj i oi hi
      rw [he _ _ h1] at e1
      injection e1 with e1
      subst e1
      split at hj
      · rename_i e
        subst e
        rw [Rho.add_self] at e2
        injection e2 with e2
        subst e2
        have := h2.lt
        omega
      · obtain ⟨lj', h3, h4⟩ := r.obj j oj hj
        rw [he _ _ h3] at e2
        injection e2 with e2
        subst e2
        exact r.sep i j oi oj _ _ hi hj ho hij h1 h3
theorem Since.push {ρ : Rho} {h : H} {w w' : World} {l : Loc} {ob : Obj} (r : Rel ρ h w) (hd : Dom ρ h.next) (hl : w.heap.size ≤ l.b) (hos : w'.os = w.os) (htape : w'.tape = w.tape) (hout : w'.output = w.output)
    (hsize : w.heap.size ≤ w'.heap.size) (hold : ∀ b, b < w.heap.size → w'.heap[b]? = w.heap[b]?) : Since ρ h w (ρ.add h.next l) (h.push ob) w' := by
  refine ⟨Rho.add_ext hd l, hos, htape, hout, hsize, Nat.le_succ _, fun b hb _ => hold b hb, fun i ob' l' h1 h2 h3 => ?_⟩
  simp only [H.push] at h1
  split at h1
  · rename_i e
    subst e
    rw [Rho.add_self] at h3
    injection h3 with h3
    subst h3
    exact .inr hl
  · obtain ⟨li, a, b⟩ := r.obj i ob' h1
    rw [Rho.add_ext hd l _ _ a] at h3
    injection h3 with h3
    subst h3
    exact .inl ⟨i, ob', li, h1, h2, a, rfl⟩
/-- A new row of cells. -/
theorem objRel_new {ρ : Rho} {w : World} {cells : List Value} {e sz lim : Nat} {cs : List V} (hv : VsRel ρ cs cells) (h1 : ∀ u ∈ cells, u.oneCell' = true) (rest : List Value) (hlim : lim = cells.length + rest.length) :
    ObjRel ρ { w with heap := w.heap.push (.cells (cells ++ rest).toArray e) } ⟨w.heap.size, 0, lim, sz⟩ (.row true sz cs) := by
  refine ⟨rfl, ?_, (cells ++ rest).toArray, e, (0, 0), by simp, ?_, fun _ => .inl rfl, fun j c hc => ?_⟩
  · simp only
    have := hv.1
    omega
  · simp
    omega
  · obtain ⟨u, hu, hr⟩ := hv.get hc
    have hj := (List.getElem?_eq_some_iff.1 hu).1
    refine ⟨u, ?_, h1 u (List.mem_of_getElem? hu), hr⟩
    simp only [Nat.zero_add, List.getElem?_toArray]
    rw [List.getElem?_append_left hj]
    exact hu
end Go.Ab
