/- TimerApart: plain laws: what is begun, and when it is due. -/
import Derived.Test.YtpefdmidfllhoaaQ29
set_option linter.unusedVariables false
namespace Go.Proofs.Ytpefdmidfllhoaa
open Go Go.Ab
abbrev Zt := Int × Int × Nat
/-- when one that was begun at s is due, for the k-th time -/
def Dn (s : Int) : Nat → Int
  | 0 => s + 3
  | k + 1 => Dn s k + waitV 3 9 ((k + 1 : Nat) : Int)
theorem wv_rng (n : Int) : 3 ≤ waitV 3 9 n ∧ waitV 3 9 n ≤ 9 := waitV_rng (by decide) (by decide) n
theorem Dn_le (s : Int) : ∀ k, s + 3 ≤ Dn s k ∧ Dn s k ≤ s + 9 * ((k : Int) + 1)
  | 0 => by rw [Dn]; omega
  | k + 1 => by
    have := Dn_le s k
    have := wv_rng ((k + 1 : Nat) : Int)
    rw [Dn]
    omega
theorem Dn_mono (s : Int) {i : Nat} : ∀ {k : Nat}, i < k → Dn s i + 3 ≤ Dn s k
  | 0, h => by omega
  | k + 1, h => by
    have := wv_rng ((k + 1 : Nat) : Int)
    rw [Dn]
    by_cases e : i = k
    · subst e
      omega
    · have := Dn_mono s (i := i) (k := k) (by omega)
      omega
theorem keys_length {β : Type} (S : List (Int × β)) : (keys S).length = S.length := by simp [keys]
def f1 (z : Int × Nat) : Int × Int := (Dn z.1 z.2, (z.2 : Int))
theorem encM_asc {β γ : Type} (f : β → γ) {Z : List (Int × β)} : AscS (encM f Z) ↔ AscS Z := by
  unfold AscS keys
  rw [encM_keys]
theorem encM_get {β γ : Type} (f : β → γ) (k : Int) : ∀ Z : List (Int × β), sget (encM f Z) k = (sget Z k).map f
  | [] => rfl
  | p :: Z => by
    have e : encM f (p :: Z) = (p.1, f p.2) :: encM f Z := rfl
    rw [e, sget_cons, sget_cons, encM_get f k Z]
    by_cases h : p.1 = k
    · rw [if_pos h, if_pos h]; rfl
    · rw [if_neg h, if_neg h]
theorem encM_filter {β γ : Type} (f : β → γ) (P : Int → Bool) : ∀ Z : List (Int × β), (encM f Z).filter (fun p => P p.1) = encM f (Z.filter fun p => P p.1)
  | [] => rfl
  | p :: Z => by
    have e : encM f (p :: Z) = (p.1, f p.2) :: encM f Z := rfl
    rw [e]
    by_cases h : P p.1 = true
    · rw [List.filter_cons_of_pos (by exact h), List.filter_cons_of_pos (by exact h), encM_filter f P Z]; rfl
    · rw [List.filter_cons_of_neg (by exact h), List.filter_cons_of_neg (by exact h), encM_filter f P Z]
theorem encM_ins {β γ : Type} (f : β → γ) (Z : List (Int × β)) (id : Int) (v : β) : insS (encM f Z) id (f v) = encM f (insS Z id v) := by
  rw [insS, encM_filter f (fun x => decide (x < id)), encM_filter f (fun x => decide (id < x)), insS]
  simp [encM]
theorem encM_del {β γ : Type} (f : β → γ) (Z : List (Int × β)) (id : Int) : delS (encM f Z) id = encM f (delS Z id) := encM_filter f (fun x => x != id) Z
structure GoodZ (R : Int) (now : Int) (Z : List Zt) : Prop where
  asc : AscS Z
  all : ∀ z ∈ Z, 0 ≤ z.1 ∧ z.1 < 6 ∧ 0 ≤ z.2.1 ∧ z.2.1 ≤ now ∧ (z.2.2 : Int) ≤ R ∧ now ≤ Dn z.2.1 z.2.2 ∧ ∀ i, i < z.2.2 → Dn z.2.1 i < now
theorem GoodZ.ins {R now : Int} {Z : List Zt} (g : GoodZ R now Z) {id : Int} (h0 : 0 ≤ id) (h1 : id < 6) (hn : 0 ≤ now) (hR : 0 ≤ R) : GoodZ R now (insS Z id (now, 0)) :=
  ⟨insS_asc g.asc _ _, fun z hz => by
    rw [insS, List.mem_append, List.mem_cons] at hz
    rcases hz with hz | rfl | hz
    · exact g.all z (List.mem_filter.1 hz).1
    · refine ⟨h0, h1, hn, Int.le_refl _, hR, ?_, fun i hi => absurd hi (Nat.not_lt_zero i)⟩
      show now ≤ now + 3
      omega
    · exact g.all z (List.mem_filter.1 hz).1⟩
theorem GoodZ.del {R now : Int} {Z : List Zt} (g : GoodZ R now Z) (id : Int) : GoodZ R now (delS Z id) :=
  ⟨delS_asc g.asc _, fun z hz => g.all z (List.mem_filter.1 hz).1⟩
/-- what becomes of one at a tick -/
def gZ (R now : Int) (z : Zt) : Option Zt := if Dn z.2.1 z.2.2 > now then some z else if (z.2.2 : Int) < R then some (z.1, z.2.1, z.2.2 + 1) else none
def agZ (R now : Int) (z : Zt) : Bool := decide (Dn z.2.1 z.2.2 = now) && decide ((z.2.2 : Int) < R)
def ovZ (R now : Int) (z : Zt) : Bool := decide (Dn z.2.1 z.2.2 = now) && !decide ((z.2.2 : Int) < R)
theorem ev1 {R now : Int} : ∀ {Z : List Zt}, (∀ z ∈ Z, now ≤ Dn z.2.1 z.2.2) → rsS 3 9 R now (encM f1 Z) = encM f1 (Z.filterMap (gZ R now)) ∧ agS R now (encM f1 Z) = keys (Z.filter (agZ R now)) ∧ ovS R now (encM f1 Z) = keys (Z.filter (ovZ R now)) ∧ encM Prod.fst (Z.filterMap (gZ R now)) = encM Prod.fst (Z.filter fun z => !ovZ R now z)
  | [], _ => ⟨rfl, rfl, rfl, rfl⟩
  | z :: Z, h => by
    obtain ⟨h1, h2, h3, h4⟩ := ev1 (Z := Z) (fun y hy => h y (List.mem_cons_of_mem _ hy))
    have hz := h z (by simp)
    have e : encM f1 (z :: Z) = (z.1, Dn z.2.1 z.2.2, (z.2.2 : Int)) :: encM f1 Z := rfl
    rw [e]
    unfold rsS agS ovS at *
    have ew : waitV 3 9 ((z.2.2 : Int) + 1) = waitV 3 9 ((z.2.2 + 1 : Nat) : Int) := by rw [show ((z.2.2 + 1 : Nat) : Int) = (z.2.2 : Int) + 1 by omega]
    by_cases c1 : Dn z.2.1 z.2.2 > now
    · have q1 : dueF 3 9 R now (z.1, Dn z.2.1 z.2.2, (z.2.2 : Int)) = some (z.1, Dn z.2.1 z.2.2, (z.2.2 : Int)) := by rw [dueF, if_pos c1]
      have q2 : agB R now (z.1, Dn z.2.1 z.2.2, (z.2.2 : Int)) = false := by rw [agB, decide_eq_true c1]; rfl
      have q3 : ovB R now (z.1, Dn z.2.1 z.2.2, (z.2.2 : Int)) = false := by rw [ovB, decide_eq_true c1]; rfl
      have p1 : gZ R now z = some z := by rw [gZ, if_pos c1]
      have p2 : agZ R now z = false := by rw [agZ, decide_eq_false (by omega)]; rfl
      have p3 : ovZ R now z = false := by rw [ovZ, decide_eq_false (by omega)]; rfl
      refine ⟨?_, ?_, ?_, ?_⟩
      · rw [List.filterMap_cons, q1, List.filterMap_cons, p1, h1]; rfl
      · rw [List.filter_cons_of_neg (by rw [q2]; simp), List.filter_cons_of_neg (by rw [p2]; simp), h2]
      · rw [List.filter_cons_of_neg (by rw [q3]; simp), List.filter_cons_of_neg (by rw [p3]; simp), h3]
      · rw [List.filterMap_cons, p1, List.filter_cons_of_pos (by rw [p3]; rfl)]
        show (z.1, z.2.1) :: encM Prod.fst _ = (z.1, z.2.1) :: encM Prod.fst _
        rw [h4]
    · by_cases c2 : (z.2.2 : Int) < R
      · have q1 : dueF 3 9 R now (z.1, Dn z.2.1 z.2.2, (z.2.2 : Int)) = some (z.1, now + waitV 3 9 ((z.2.2 : Int) + 1), (z.2.2 : Int) + 1) := by rw [dueF, if_neg c1, if_pos c2]
        have q2 : agB R now (z.1, Dn z.2.1 z.2.2, (z.2.2 : Int)) = true := by rw [agB, decide_eq_false c1, decide_eq_true c2]; rfl
        have q3 : ovB R now (z.1, Dn z.2.1 z.2.2, (z.2.2 : Int)) = false := by rw [ovB, decide_eq_false c1, decide_eq_true c2]; rfl
        have p1 : gZ R now z = some (z.1, z.2.1, z.2.2 + 1) := by rw [gZ, if_neg c1, if_pos c2]
        have p2 : agZ R now z = true := by rw [agZ, decide_eq_true (by omega), decide_eq_true c2]; rfl
        have p3 : ovZ R now z = false := by rw [ovZ, decide_eq_true c2, Bool.not_true, Bool.and_false]
        refine ⟨?_, ?_, ?_, ?_⟩
        · rw [List.filterMap_cons, q1, List.filterMap_cons, p1, h1]
          have : Dn z.2.1 z.2.2 = now := by omega
          show (z.1, now + waitV 3 9 ((z.2.2 : Int) + 1), (z.2.2 : Int) + 1) :: encM f1 _ = (z.1, Dn z.2.1 (z.2.2 + 1), ((z.2.2 + 1 : Nat) : Int)) :: encM f1 _
          rw [Dn, this, ew]
          congr 1
        · rw [List.filter_cons_of_pos (by rw [q2]), List.filter_cons_of_pos (by rw [p2])]
          show z.1 :: keys _ = z.1 :: keys _
          rw [h2]
        · rw [List.filter_cons_of_neg (by rw [q3]; simp), List.filter_cons_of_neg (by rw [p3]; simp), h3]
        · rw [List.filterMap_cons, p1, List.filter_cons_of_pos (by rw [p3]; rfl)]
          show (z.1, z.2.1) :: encM Prod.fst _ = (z.1, z.2.1) :: encM Prod.fst _
          rw [h4]
      · have q1 : dueF 3 9 R now (z.1, Dn z.2.1 z.2.2, (z.2.2 : Int)) = none := by rw [dueF, if_neg c1, if_neg c2]
        have q2 : agB R now (z.1, Dn z.2.1 z.2.2, (z.2.2 : Int)) = false := by rw [agB, decide_eq_false c2, Bool.and_false]
        have q3 : ovB R now (z.1, Dn z.2.1 z.2.2, (z.2.2 : Int)) = true := by rw [ovB, decide_eq_false c1, decide_eq_false c2]; rfl
        have p1 : gZ R now z = none := by rw [gZ, if_neg c1, if_neg c2]
        have p2 : agZ R now z = false := by rw [agZ, decide_eq_false c2, Bool.and_false]
        have p3 : ovZ R now z = true := by rw [ovZ, decide_eq_true (by omega), decide_eq_false c2]; rfl
        refine ⟨?_, ?_, ?_, ?_⟩
        · rw [List.filterMap_cons, q1, List.filterMap_cons, p1, h1]
        · rw [List.filter_cons_of_neg (by rw [q2]; simp), List.filter_cons_of_neg (by rw [p2]; simp), h2]
        · rw [List.filter_cons_of_pos (by rw [q3]), List.filter_cons_of_pos (by rw [p3])]
          show z.1 :: keys _ = z.1 :: keys _
          rw [h3]
        · rw [List.filterMap_cons, p1, List.filter_cons_of_neg (by rw [p3]; simp), h4]
theorem GoodZ.next {R now : Int} {Z : List Zt} (g : GoodZ R now Z) : GoodZ R (now + 1) (Z.filterMap (gZ R now)) := by
  refine ⟨?_, fun z hz => ?_⟩
  · have h4 := (ev1 (R := R) (fun z hz => (g.all z hz).2.2.2.2.2.1)).2.2.2
    rw [← encM_asc Prod.fst, h4, encM_asc]
    exact List.Pairwise.sublist (List.Sublist.map _ List.filter_sublist) g.asc
  · obtain ⟨y, hy, e⟩ := List.mem_filterMap.1 hz
    obtain ⟨a1, a2, a3, a4, a5, a6, a7⟩ := g.all y hy
    unfold gZ at e
    split at e
    · injection e with e
      subst e
      exact ⟨a1, a2, a3, by omega, a5, by omega, fun i hi => by have := a7 i hi; omega⟩
    · split at e
      · injection e with e
        subst e
        have hw := wv_rng ((y.2.2 + 1 : Nat) : Int)
        refine ⟨a1, a2, a3, by show y.2.1 ≤ now + 1; omega, by show ((y.2.2 + 1 : Nat) : Int) ≤ R; omega, ?_, fun i hi => ?_⟩
        · show now + 1 ≤ Dn y.2.1 y.2.2 + waitV 3 9 ((y.2.2 + 1 : Nat) : Int)
          omega
        · have hi : i < y.2.2 + 1 := hi
          by_cases e2 : i = y.2.2
          · rw [e2]
            show Dn y.2.1 y.2.2 < now + 1
            omega
          · have := a7 i (by omega)
            show Dn y.2.1 i < now + 1
            omega
      · cases e
/-- how many of them come ahead of e -/
def cntL (A : List Int) (e : Int) : Nat := (A.filter fun x => decide (x < e)).length
theorem asc_split {A : List Int} (h : A.Pairwise (· < ·)) (e : Int) : A = (A.filter fun x => decide (x < e)) ++ (A.filter fun x => !decide (x < e)) := by
  induction A with
  | nil => rfl
  | cons a A ih =>
    rw [List.pairwise_cons] at h
    by_cases c : a < e
    · rw [List.filter_cons_of_pos (by simpa using c), List.filter_cons_of_neg (by simpa using c)]
      conv => lhs; rw [ih h.2]
      rfl
    · rw [List.filter_cons_of_neg (by simpa using c), List.filter_cons_of_pos (by simpa using c)]
      have : (A.filter fun x => decide (x < e)) = [] := List.filter_eq_nil_iff.2 (fun x hx => by
        have := h.1 x hx
        simp
        omega)
      have h2 : (A.filter fun x => !decide (x < e)) = A := List.filter_eq_self.2 (fun x hx => by
        have := h.1 x hx
        simp
        omega)
      rw [this, h2]
      rfl
theorem asc_head {A : List Int} (h : A.Pairwise (· < ·)) {e : Int} (he : e ∈ A) : (A.filter fun x => !decide (x < e)) = e :: (A.filter fun x => !decide (x < e + 1)) := by
  refine asc_ext (h.sublist List.filter_sublist) ?_ (fun x => ?_)
  · rw [List.pairwise_cons]
    refine ⟨fun x hx => ?_, h.sublist List.filter_sublist⟩
    have := (List.mem_filter.1 hx).2
    simp at this
    omega
  · simp only [List.mem_filter, List.mem_cons, Bool.not_eq_true', decide_eq_false_iff_not]
    constructor
    · rintro ⟨a, b⟩
      by_cases c : x = e
      · exact .inl c
      · exact .inr ⟨a, by omega⟩
    · rintro (rfl | ⟨a, b⟩)
      · exact ⟨he, by omega⟩
      · exact ⟨a, by omega⟩
theorem asc_miss {A : List Int} {e : Int} (he : e ∉ A) : (A.filter fun x => !decide (x < e)) = (A.filter fun x => !decide (x < e + 1)) :=
  List.filter_congr (fun x hx => by
    have : x ≠ e := fun k => he (k ▸ hx)
    congr 1
    exact decide_eq_decide.2 (by omega))
theorem drop_cnt {A : List Int} (h : A.Pairwise (· < ·)) (e : Int) : A.drop (cntL A e) = A.filter fun x => !decide (x < e) := by
  conv => lhs; rw [asc_split h e]
  rw [cntL, List.drop_left' (by rw [← asc_split h e])]
theorem cnt_in {A : List Int} (h : A.Pairwise (· < ·)) {e : Int} (he : e ∈ A) : cntL A e < A.length ∧ A.getD (cntL A e) 0 = e ∧ cntL A (e + 1) = cntL A e + 1 := by
  have hd := drop_cnt h e
  rw [asc_head h he] at hd
  have hlt : cntL A e < A.length := by
    have := congrArg List.length hd
    rw [List.length_drop, List.length_cons] at this
    omega
  have hd2 := drop_cons' 0 hlt
  rw [hd] at hd2
  injection hd2 with q1 q2
  refine ⟨hlt, q1.symm, ?_⟩
  have hd3 := drop_cnt h (e + 1)
  rw [q2] at hd3
  have hl := congrArg List.length hd3
  rw [List.length_drop, List.length_drop] at hl
  have : cntL A (e + 1) ≤ A.length := List.length_filter_le _ _
  omega
theorem cnt_out {A : List Int} (h : A.Pairwise (· < ·)) {e : Int} (he : e ∉ A) : cntL A (e + 1) = cntL A e := by
  unfold cntL
  rw [List.filter_congr (fun x hx => ?_)]
  have : x ≠ e := fun k => he (k ▸ hx)
  exact decide_eq_decide.2 (by omega)
theorem cnt_all {A : List Int} {e : Int} (h : ∀ x ∈ A, x < e) : cntL A e = A.length := by
  unfold cntL
  rw [List.filter_eq_self.2 (fun x hx => by simpa using h x hx)]
theorem cnt_none {A : List Int} {e : Int} (h : ∀ x ∈ A, e ≤ x) : cntL A e = 0 := by
  unfold cntL
  rw [List.filter_eq_nil_iff.2 (fun x hx => by have := h x hx; simp; omega)]
  rfl
theorem mem_keysf {β : Type} {Z : List (Int × β)} (h : AscS Z) {P : Int × β → Bool} {e : Int} {v : β} (hv : sget Z e = some v) : e ∈ keys (Z.filter P) ↔ P (e, v) = true := by
  have hm := (sget_mem h.nodup).1 hv
  constructor
  · intro he
    obtain ⟨p, hp, rfl⟩ := List.mem_map.1 he
    obtain ⟨h1, h2⟩ := List.mem_filter.1 hp
    have := (sget_mem (k := p.1) (v := p.2) h.nodup).2 h1
    rw [this] at hv
    injection hv with hv
    rw [← hv]
    exact h2
  · intro hp
    exact List.mem_map.2 ⟨(e, v), List.mem_filter.2 ⟨hm, hp⟩, rfl⟩
theorem not_keysf {β : Type} {Z : List (Int × β)} {P : Int × β → Bool} {e : Int} (hv : sget Z e = none) : e ∉ keys (Z.filter P) := fun he => by
  obtain ⟨p, hp, rfl⟩ := List.mem_map.1 he
  exact sget_none.1 hv (List.mem_map.2 ⟨p, (List.mem_filter.1 hp).1, rfl⟩)
theorem keysf_asc {β : Type} {Z : List (Int × β)} (h : AscS Z) (P : Int × β → Bool) : (keys (Z.filter P)).Pairwise (· < ·) := List.Pairwise.sublist (List.Sublist.map _ List.filter_sublist) h
/-- what is begun still, e looked at -/
def bgE (R now : Int) (Z : List Zt) (e : Int) : List Zt := Z.filter fun z => !(ovZ R now z && decide (z.1 < e))
theorem bgE_asc {R now : Int} {Z : List Zt} (h : AscS Z) (e : Int) : AscS (bgE R now Z e) := List.Pairwise.sublist (List.Sublist.map _ List.filter_sublist) h
theorem bgE_get {R now : Int} {Z : List Zt} (h : AscS Z) (e : Int) : sget (bgE R now Z e) e = sget Z e := by
  refine opt_ext fun w => ?_
  rw [sget_mem (bgE_asc h e).nodup, sget_mem h.nodup, bgE, List.mem_filter]
  simp
theorem bgE_same {R now : Int} {Z : List Zt} {e : Int} (h : ∀ v, sget Z e = some v → ovZ R now (e, v) = false) (ha : AscS Z) : bgE R now Z (e + 1) = bgE R now Z e :=
  List.filter_congr (fun z hz => by
    by_cases c : z.1 = e
    · have := h z.2 ((sget_mem ha.nodup).2 (by rw [← c]; exact hz))
      rw [← c] at this
      have e2 : ovZ R now z = false := this
      rw [e2]
      rfl
    · rw [show decide (z.1 < e + 1) = decide (z.1 < e) from decide_eq_decide.2 (by omega)])
theorem bgE_del {R now : Int} {Z : List Zt} {e : Int} {v : Int × Nat} (hv : sget Z e = some v) (ho : ovZ R now (e, v) = true) (ha : AscS Z) : bgE R now Z (e + 1) = delS (bgE R now Z e) e := by
  unfold delS bgE
  rw [List.filter_filter]
  refine List.filter_congr (fun z hz => ?_)
  by_cases c : z.1 = e
  · have e1 : sget Z z.1 = some z.2 := (sget_mem ha.nodup).2 hz
    rw [c, hv] at e1
    injection e1 with e1
    have e2 : ovZ R now z = true := by
      have : z = (e, v) := Prod.ext c e1.symm
      rw [this]
      exact ho
    rw [e2, c]
    simp
    omega
  · rw [show decide (z.1 < e + 1) = decide (z.1 < e) from decide_eq_decide.2 (by omega)]
    simp [c]
theorem bgE_zero {R now : Int} {Z : List Zt} (h : ∀ z ∈ Z, 0 ≤ z.1) : bgE R now Z 0 = Z := List.filter_eq_self.2 (fun z hz => by
  have := h z hz
  rw [decide_eq_false (by omega), Bool.and_false]
  rfl)
theorem bgE_six {R now : Int} {Z : List Zt} (h : ∀ z ∈ Z, z.1 < 6) : bgE R now Z 6 = Z.filter fun z => !ovZ R now z := List.filter_congr (fun z hz => by
  have := h z hz
  rw [decide_eq_true (by omega), Bool.and_true])
end Go.Proofs.Ytpefdmidfllhoaa
