/- Stores, appends: what they do to the relation. -/
import Derived.Test.YtmififfaljihgaaGreatAb1
set_option linter.unusedVariables false
namespace Go.Ab
open Go

theorem H.ext' {h k : H} (h1 : h.next = k.next) (h2 : h.obj = k.obj) : h = k := by
  cases h
  cases k
  simp at h1 h2
  subst h1 h2
  rfl
theorem H.obj_set_same {h : H} {i : Nat} {ob ob' : Obj} (hi : h.obj i = some ob) : (h.set i ob').obj i = some ob' := by simp [H.set, hi]
theorem H.obj_set_ne (h : H) {i j : Nat} (ob : Obj) (hj : j ≠ i) : (h.set i ob).obj j = h.obj j := by simp [H.set, hj]
theorem H.obj_push_new (h : H) (ob : Obj) : (h.push ob).obj h.next = some ob := by simp [H.push]
theorem H.obj_push_old {h : H} {i : Nat} (ob : Obj) (hi : i ≠ h.next) : (h.push ob).obj i = h.obj i := by simp [H.push, hi]
theorem H.obj_push {h : H} {i : Nat} {ob' : Obj} (ob : Obj) (hi : h.obj i = some ob') : (h.push ob).obj i = some ob' := by
  rw [H.obj_push_old _ (Nat.ne_of_lt (h.lt i ob' hi)), hi]
theorem H.obj_kill_same (h : H) (i : Nat) : (h.kill i).obj i = none := by simp [H.kill]
theorem H.obj_kill_ne (h : H) {i j : Nat} (hj : j ≠ i) : (h.kill i).obj j = h.obj j := by simp [H.kill, hj]
theorem H.set_set (h : H) (i : Nat) (a b : Obj) : (h.set i a).set i b = h.set i b := by
  refine H.ext' rfl (funext fun j => ?_)
  by_cases hj : j = i
  · subst hj
    cases hh : h.obj j <;> simp [H.set, hh]
  · simp [H.set, hj]
theorem H.set_self {h : H} {i : Nat} {ob : Obj} (hi : h.obj i = some ob) : h.set i ob = h := by
  refine H.ext' rfl (funext fun j => ?_)
  by_cases hj : j = i
  · subst hj
    simp [H.set, hi]
  · simp [H.set, hj]

section
variable {ρ : Rho} {h : H} {w w' : World} {i : Nat} {l : Loc} {ob ob' : Obj}
theorem Rel.upd (r : Rel ρ h w) (hi : h.obj i = some ob) (ho : ob.own = true) (hl : ρ i = some l) (hother : ∀ b, b ≠ l.b → w'.heap[b]? = w.heap[b]?) (hob : ObjRel ρ w' l ob') (ho' : ob'.own = true) : Rel ρ (h.set i ob') w' := by
  constructor
  · intro j oj hj
    by_cases e : j = i
    · subst e
      rw [H.obj_set_same hi] at hj
      injection hj with hj
      subst hj
      exact ⟨l, hl, hob⟩
    · rw [H.obj_set_ne _ _ e] at hj
      obtain ⟨lj, h1, h2⟩ := r.obj j oj hj
      refine ⟨lj, h1, h2.mono (fun _ _ e => e) (hother _ ?_)⟩
      exact fun e2 => r.sep i j ob oj l lj hi hj ho (fun e3 => e e3.symm) hl h1 e2.symm
  · intro j k oj ok lj lk hj hk hoj hjk e1 e2
    by_cases ej : j = i
    · subst ej
      rw [hl] at e1
      injection e1 with e1
      subst e1
      rw [H.obj_set_ne _ _ (fun e => hjk e.symm)] at hk
      exact r.sep j k ob ok l lk hi hk ho hjk hl e2
    · rw [H.obj_set_ne _ _ ej] at hj
      by_cases ek : k = i
      · subst ek
        rw [hl] at e2
        injection e2 with e2
        subst e2
        exact r.sep j k oj ob lj l hj hi hoj hjk e1 hl
      · rw [H.obj_set_ne _ _ ek] at hk
        exact r.sep j k oj ok lj lk hj hk hoj hjk e1 e2
theorem Since.upd (r : Rel ρ h w) (hi : h.obj i = some ob) (ho : ob.own = true) (hl : ρ i = some l) (hother : ∀ b, b ≠ l.b → w'.heap[b]? = w.heap[b]?) (ho' : ob'.own = true)
    (hos : w'.os = w.os) (htape : w'.tape = w.tape) (hout : w'.output = w.output) (hsize : w.heap.size ≤ w'.heap.size) : Since ρ h w ρ (h.set i ob') w' := by
  refine ⟨fun _ _ e => e, hos, htape, hout, hsize, Nat.le_refl _, fun b hb hn => hother b ?_, fun j oj lj h1 h2 h3 => ?_⟩
  · rintro rfl
    exact hn i ob l hi ho hl rfl
  · by_cases e : j = i
    · subst e
      exact .inl ⟨j, ob, lj, hi, ho, h3, rfl⟩
    · rw [H.obj_set_ne _ _ e] at h1
      exact .inl ⟨j, oj, lj, h1, h2, h3, rfl⟩
theorem Rel.kill (r : Rel ρ h w) (i : Nat) : Rel ρ (h.kill i) w := by
  constructor
  · intro j oj hj
    by_cases e : j = i
    · subst e
      simp [H.obj_kill_same] at hj
    · rw [H.obj_kill_ne _ e] at hj
      exact r.obj j oj hj
  · intro j k oj ok lj lk hj hk
    by_cases e : j = i
    · subst e
      simp [H.obj_kill_same] at hj
    by_cases e' : k = i
    · subst e'
      simp [H.obj_kill_same] at hk
    rw [H.obj_kill_ne _ e] at hj
    rw [H.obj_kill_ne _ e'] at hk
    exact r.sep j k oj ok lj lk hj hk
theorem Since.kill (ρ : Rho) (h : H) (w : World) (i : Nat) : Since ρ h w ρ (h.kill i) w := by
  refine ⟨fun _ _ e => e, rfl, rfl, rfl, Nat.le_refl _, Nat.le_refl _, fun _ _ _ => rfl, fun j ob l h1 h2 h3 => ?_⟩
  by_cases e : j = i
  · subst e
    simp [H.obj_kill_same] at h1
  · rw [H.obj_kill_ne _ e] at h1
    exact .inl ⟨j, ob, l, h1, h2, h3, rfl⟩
/-- A block goes over from one object to a new one. -/
theorem Rel.move {l' : Loc} (r : Rel ρ h w) (hd : Dom ρ h.next) (hi : h.obj i = some ob) (ho : ob.own = true) (hl : ρ i = some l) (hb : l'.b = l.b) (hother : ∀ b, b ≠ l.b → w'.heap[b]? = w.heap[b]?)
    (hob : ObjRel (ρ.add h.next l') w' l' ob') : Rel (ρ.add h.next l') ((h.kill i).push ob') w' := by
  have he := Rho.add_ext hd l'
  have hin : i ≠ h.next := Nat.ne_of_lt (h.lt i ob hi)
  have key : ∀ j oj, ((h.kill i).push ob').obj j = some oj → (j = h.next ∧ oj = ob') ∨ (j ≠ h.next ∧ j ≠ i ∧ h.obj j = some oj) := by
    intro j oj hj
    by_cases e : j = h.next
    · subst e
      have : ((h.kill i).push ob').obj h.next = some ob' := H.obj_push_new (h.kill i) ob'
      rw [this] at hj
      injection hj with hj
      exact .inl ⟨rfl, hj.symm⟩
    · have : ((h.kill i).push ob').obj j = (h.kill i).obj j := H.obj_push_old (h := h.kill i) ob' e
      rw [this] at hj
      by_cases e' : j = i
      · subst e'
        simp [H.obj_kill_same] at hj
      · rw [H.obj_kill_ne _ e'] at hj
        exact .inr ⟨e, e', hj⟩
  have far : ∀ j oj lj, j ≠ i → h.obj j = some oj → ρ j = some lj → lj.b ≠ l.b := fun j oj lj e hj e1 e2 => r.sep i j ob oj l lj hi hj ho (fun e3 => e e3.symm) hl e1 e2.symm
  constructor
  · intro j oj hj
    rcases key j oj hj with ⟨rfl, rfl⟩ | ⟨e1, e2, e3⟩
    · exact ⟨l', Rho.add_self _ _ _, hob⟩
    · obtain ⟨lj, h1, h2⟩ := r.obj j oj e3
      exact ⟨lj, he _ _ h1, h2.mono he (hother _ (far j oj lj e2 e3 h1))⟩
  · intro j k oj ok lj lk hj hk hoj hjk e1 e2
    rcases key j oj hj with ⟨rfl, rfl⟩ | ⟨a1, a2, a3⟩
    · rw [Rho.add_self] at e1
      injection e1 with e1
      subst e1
      rcases key k ok hk with ⟨rfl, rfl⟩ | ⟨b1, b2, b3⟩
      · exact absurd rfl hjk
      · obtain ⟨lk', h1, _⟩ := r.obj k ok b3
        rw [he _ _ h1] at e2
        injection e2 with e2
        subst e2
        rw [hb]
        exact fun e => far k ok lk' b2 b3 h1 e.symm
    · obtain ⟨lj', h1, _⟩ := r.obj j oj a3
      rw [he _ _ h1] at e1
      injection e1 with e1
      subst e1
      rcases key k ok hk with ⟨rfl, rfl⟩ | ⟨b1, b2, b3⟩
      · rw [Rho.add_self] at e2
        injection e2 with e2
        subst e2
        rw [hb]
        exact far j oj lj' a2 a3 h1
      · obtain ⟨lk', h3, _⟩ := r.obj k ok b3
        rw [he _ _ h3] at e2
        injection e2 with e2
        subst e2
        exact r.sep j k oj ok _ _ a3 b3 hoj hjk h1 h3
theorem Since.move {l' : Loc} (r : Rel ρ h w) (hd : Dom ρ h.next) (hi : h.obj i = some ob) (ho : ob.own = true) (hl : ρ i = some l) (hb : l'.b = l.b) (hother : ∀ b, b ≠ l.b → w'.heap[b]? = w.heap[b]?)
    (hos : w'.os = w.os) (htape : w'.tape = w.tape) (hout : w'.output = w.output) (hsize : w.heap.size ≤ w'.heap.size) : Since ρ h w (ρ.add h.next l') ((h.kill i).push ob') w' := by
  refine ⟨Rho.add_ext hd l', hos, htape, hout, hsize, Nat.le_succ _, fun b hb' hn => hother b ?_, fun j oj lj h1 h2 h3 => ?_⟩
  · rintro rfl
    exact hn i ob l hi ho hl rfl
  · by_cases e : j = h.next
    · subst e
      rw [Rho.add_self] at h3
      injection h3 with h3
      subst h3
      exact .inl ⟨i, ob, l, hi, ho, hl, hb.symm⟩
    · have : ((h.kill i).push ob').obj j = (h.kill i).obj j := H.obj_push_old (h := h.kill i) ob' e
      rw [this] at h1
      by_cases e' : j = i
      · subst e'
        simp [H.obj_kill_same] at h1
      · rw [H.obj_kill_ne _ e'] at h1
        obtain ⟨lj', a, b⟩ := r.obj j oj h1
        rw [Rho.add_ext hd l' _ _ a] at h3
        injection h3 with h3
        subst h3
        exact .inl ⟨j, oj, lj', h1, h2, a, rfl⟩
end

theorem add_plain (b o n : Nat) : (⟨b, o, none⟩ : Addr).add n = ⟨b, o + n, none⟩ := by unfold Addr.add; split <;> simp_all

/-! ### Reading cells -/
theorem Rel.cell {ρ : Rho} {h : H} {w : World} {i off : Nat} {v : V} {l : Loc} (r : Rel ρ h w) (hc : Cell h i off v) (hl : ρ i = some l) : ∃ u, w.cell? ⟨l.b, l.o + off, none⟩ = some u ∧ u.oneCell' = true ∧ VRel ρ v u := by
  obtain ⟨o, sz, cs, hi, hv⟩ := hc
  obtain ⟨l', h1, _, _, cells, e, fr, h2, _, _, h3⟩ := r.obj i _ hi
  rw [hl] at h1
  injection h1 with h1
  subst h1
  obtain ⟨u, h4, h5, h6⟩ := h3 off v hv
  exact ⟨u, by simp [World.cell?, h2, h4], h5, h6⟩
theorem Rel.cells {ρ : Rho} {h : H} {w : World} {i off n : Nat} {vs : List V} {l : Loc} (r : Rel ρ h w) (hc : Cells h i off n vs) (hl : ρ i = some l) :
    ∃ us : List Value, VsRel ρ vs us ∧ us.length = n ∧ (∀ u ∈ us, u.oneCell' = true) ∧ ∀ j u, us[j]? = some u → w.cell? ⟨l.b, l.o + off + j, none⟩ = some u := by
  obtain ⟨o, sz, cs, hi, hn, rfl⟩ := hc
  have hcell : ∀ j, j < n → ∃ v u, cs[off + j]? = some v ∧ w.cell? ⟨l.b, l.o + off + j, none⟩ = some u ∧ u.oneCell' = true ∧ VRel ρ v u := by
    intro j hj
    have hlt : off + j < cs.length := by omega
    obtain ⟨u, h1, h2, h3⟩ := r.cell (off := off + j) ⟨o, sz, cs, hi, List.getElem?_eq_getElem hlt⟩ hl
    exact ⟨_, u, List.getElem?_eq_getElem hlt, by rw [Nat.add_assoc]; exact h1, h2, h3⟩
  refine ⟨(List.range n).map fun j => (w.cell? ⟨l.b, l.o + off + j, none⟩).getD default, ?_, by simp, ?_, ?_⟩
  · refine VsRel.of_get (by simp; omega) fun j c hj => ?_
    rw [List.getElem?_take] at hj
    split at hj
    · rename_i hlt
      obtain ⟨v, u, h1, h2, h3, h4⟩ := hcell j hlt
      rw [List.getElem?_drop, h1] at hj
      injection hj with hj
      subst hj
      exact ⟨u, by simp [hlt, h2], h4⟩
    · cases hj
  · intro u hu
    simp only [List.mem_map, List.mem_range] at hu
    obtain ⟨j, hj, rfl⟩ := hu
    obtain ⟨v, u, h1, h2, h3, h4⟩ := hcell j hj
    rw [h2]
    exact h3
  · intro j u hu
    have hlt : j < n := by
      have := (List.getElem?_eq_some_iff.1 hu).1
      simpa using this
    obtain ⟨v, u', h1, h2, h3, h4⟩ := hcell j hlt
    simp [hlt, h2] at hu
    subst hu
    exact h2
theorem run_loadCells_plain {P : Program} {w : World} {b o : Nat} {us : List Value} (h : ∀ j u, us[j]? = some u → w.cell? ⟨b, o + j, none⟩ = some u) : (loadCells ⟨b, o, none⟩ us.length).run P w = .ok us.toArray w :=
  run_loadCells_list w _ us (fun j v hj => by rw [add_plain]; exact h j v hj)

/-! ### Storing cells -/
theorem store1 {P : Program} {ρ : Rho} {h : H} {w : World} {i off sz : Nat} {cs : List V} {l : Loc} {c : V} {u : Value} (r : Rel ρ h w) (hi : h.obj i = some (.row true sz cs)) (hl : ρ i = some l) (ho : off < cs.length)
    (hc : VRel ρ c u) (h1 : u.oneCell' = true) : ∃ w', (store ⟨l.b, l.o + off, none⟩ u).run P w = .ok () w' ∧ Rel ρ (h.set i (.row true sz (cs.set off c))) w' ∧ Since ρ h w ρ (h.set i (.row true sz (cs.set off c))) w' := by
  obtain ⟨l', e1, g1, g2, cells, e, fr, g3, g4, g5, g6⟩ := r.obj i _ hi
  rw [hl] at e1
  injection e1 with e1
  subst e1
  have hfr : frOk fr cells.size := g5 rfl
  obtain ⟨f1, f2⟩ := fr
  have hlt : l.o + off < cells.size := by omega
  have hb := (Array.getElem?_eq_some_iff.1 g3).1
  refine ⟨w.setCell ⟨l.b, l.o + off, none⟩ u, ?_, ?_, ?_⟩
  · rw [run_store P w _ u .plain h1]
    have hnf : ¬ (f1 ≤ l.o + off ∧ l.o + off < f2) := hfr.no hlt
    simp [World.cell?, World.frozen?, g3, hlt]
    exact fun a => Nat.le_of_not_lt (fun b => hnf ⟨a, b⟩)
  · refine r.upd hi rfl hl (fun b hne => ?_) ?_ rfl
    · simp [World.setCell, Array.getElem?_modify, hne.symm]
    · refine ⟨g1, by simpa using g2, cells.setIfInBounds (l.o + off) u, e, (f1, f2), ?_, by simpa using g4, fun _ => by simpa using hfr, fun j c' hj => ?_⟩
      · simp [World.setCell, Array.getElem?_modify, g3]
      · rw [List.getElem?_set] at hj
        split at hj
        · rename_i e'
          subst e'
          injection hj with hj
          subst hj
          exact ⟨u, by simp [hlt], h1, hc⟩
        · rename_i e'
          obtain ⟨u', a1, a2, a3⟩ := g6 j c' hj
          refine ⟨u', ?_, a2, a3⟩
          rw [Array.getElem?_setIfInBounds_ne (by omega)]
          exact a1
  · exact Since.upd r hi rfl hl (fun b hne => by simp [World.setCell, Array.getElem?_modify, hne.symm]) rfl rfl rfl rfl (by simp [World.setCell])

theorem stores {P : Program} {ρ : Rho} {i off sz : Nat} {l : Loc} (hl : ρ i = some l) : ∀ (us : List Value) (vs : List V) (k : Nat) (cs : List V) (h : H) (w : World), Rel ρ h w → h.obj i = some (.row true sz cs) → VsRel ρ vs us → (∀ u ∈ us, u.oneCell' = true) →
    off + k + vs.length ≤ cs.length → ∃ w', (storeCells ⟨l.b, l.o + off, none⟩ us k).run P w = .ok () w' ∧ Rel ρ (h.set i (.row true sz (splice cs (off + k) vs))) w' ∧ Since ρ h w ρ (h.set i (.row true sz (splice cs (off + k) vs))) w'
  | [], vs, k, cs, h, w, r, hi, hv, h1, hn => by
    have : vs = [] := List.eq_nil_of_length_eq_zero hv.1
    subst this
    refine ⟨w, rfl, ?_, ?_⟩
    · simp only [splice]
      rw [H.set_self hi]
      exact r
    · simp only [splice]
      rw [H.set_self hi]
      exact Since.refl _ _ _
  | u :: us, vs, k, cs, h, w, r, hi, hv, h1, hn => by
    cases vs with
    | nil => simp [VsRel] at hv
    | cons v vs =>
      obtain ⟨u', us', e, hvu, hvs⟩ := hv.uncons
      injection e with e1 e2
      subst e1 e2
      simp only [List.length_cons] at hn
      obtain ⟨w1, s1, s2, s3⟩ := store1 (P := P) r hi hl (off := off + k) (by omega) hvu (h1 u (by simp))
      obtain ⟨w2, t1, t2, t3⟩ := stores (off := off) hl us vs (k + 1) (cs.set (off + k) v) (h.set i (.row true sz (cs.set (off + k) v))) w1 s2 (H.obj_set_same hi) hvs (fun x hx => h1 x (by simp [hx])) (by simp; omega)
      refine ⟨w2, ?_, ?_, ?_⟩
      · rw [← Nat.add_assoc] at s1
        simp only [storeCells, add_plain, Sem.run_bind, s1, Result.andThen_ok]
        exact t1
      · rw [H.set_set] at t2
        simp only [splice]
        exact t2
      · rw [H.set_set] at t3
        simp only [splice]
        exact s3.trans t3
end Go.Ab
