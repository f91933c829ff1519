/- Takers: what lies in memory; what is got. -/
import Derived.Test.YtpefdmidfllhoaaQ40
set_option linter.unusedVariables false
namespace Go.Proofs.Ytpefdmidfllhoaa
open Go Go.Ab
/-- a body: where it lies, and its octets -/
abbrev Bd := Option (Nat × Nat) × List Int
def slV (x : Bd) : V := .sl x.1 x.2.length
def slC (x : Bd) : List V := [slV x]
theorem slC_len (x : Bd) : (slC x).length = 1 := rfl
def bOk (h : H) (x : Bd) : Prop := RoSl h x.1 x.2.length 1 (ints .u8 x.2)
abbrev Ent := List (Int × Bd)
structure TkSt (h : H) (g mi : Nat) (W N : Int) (S : Ent) : Prop where
  box : h.obj g = some (.row true 3 [i64 W, i64 N, .mp (some mi)])
  map : ∃ ms, h.obj mi = some (.map true (mpE .i64 (encM slV ms))) ∧ Same ms S
  asc : AscS S
  ent : ∀ x ∈ S, bOk h x.2
  sep : mi ≠ g
theorem TkSt.lt {h : H} {g mi : Nat} {W N : Int} {S : Ent} (s : TkSt h g mi W N S) : g < h.next ∧ mi < h.next := by
  obtain ⟨ms, h1, _⟩ := s.map
  exact ⟨h.lt _ _ s.box, h.lt _ _ h1⟩
theorem TkSt.get {Z : Nat → Prop} {h h' : H} {g mi : Nat} {W N : Int} {S : Ent} (s : TkSt h g mi W N S) (m : Ab.Mod Z h h') (hg : ¬ Z g) (hm : ¬ Z mi) : TkSt h' g mi W N S := by
  obtain ⟨ms, h1, h2⟩ := s.map
  exact ⟨m.get s.box (.inl hg), ⟨ms, m.get h1 (.inl hm), h2⟩, s.asc, fun x hx => (s.ent x hx).get m, s.sep⟩
theorem TkSt.old {h h' : H} {g mi : Nat} {W N : Int} {S : Ent} (s : TkSt h g mi W N S) (m : Ab.Mod none_ h h') : TkSt h' g mi W N S := s.get m (fun k => k) (fun k => k)
theorem TkSt.ro {h : H} {g mi : Nat} {W N : Int} {S : Ent} (s : TkSt h g mi W N S) {i : Nat} (hg : g ≠ i) (hm : mi ≠ i) : TkSt (h.ro i) g mi W N S := by
  obtain ⟨ms, h1, h2⟩ := s.map
  exact ⟨by rw [H.ro_ne _ hg, s.box], ⟨ms, by rw [H.ro_ne _ hm, h1], h2⟩, s.asc, fun x hx => (s.ent x hx).ro i, s.sep⟩
theorem TkSt.turn {h : H} {g mi : Nat} {W N : Int} {S S' : Ent} (s : TkSt h g mi W N S) {ms' : Ent} (hs : Same ms' S') (ha : AscS S') (he : ∀ x ∈ S', bOk h x.2) :
    TkSt (h.set mi (.map true (mpE .i64 (encM slV ms')))) g mi W N S' ∧ Ab.Mod (one mi) h (h.set mi (.map true (mpE .i64 (encM slV ms')))) := by
  obtain ⟨ms, h1, _⟩ := s.map
  have m : Ab.Mod (one mi) h (h.set mi (.map true (mpE .i64 (encM slV ms')))) := Mod.set rfl h1 rfl
  exact ⟨⟨by rw [H.obj_set_ne h _ s.sep.symm, s.box], ⟨ms', H.obj_set_same h1, hs⟩, ha, fun x hx => (he x hx).get m, s.sep⟩, m⟩
theorem TkSt.next {h : H} {g mi : Nat} {W N : Int} {S : Ent} (s : TkSt h g mi W N S) (N' : Int) :
    TkSt (h.set g (.row true 3 [i64 W, i64 N', .mp (some mi)])) g mi W N' S ∧ Ab.Mod (one g) h (h.set g (.row true 3 [i64 W, i64 N', .mp (some mi)])) := by
  obtain ⟨ms, h1, h2⟩ := s.map
  have m : Ab.Mod (one g) h (h.set g (.row true 3 [i64 W, i64 N', .mp (some mi)])) := Mod.set rfl s.box rfl
  exact ⟨⟨H.obj_set_same s.box, ⟨ms, by rw [H.obj_set_ne h _ s.sep, h1], h2⟩, s.asc, fun x hx => (s.ent x hx).get m, s.sep⟩, m⟩
/-- what is got, how far one is, what is left -/
def chn {β : Type} : Int → List (Int × β) → List β × Int × List (Int × β)
  | N, [] => ([], N, [])
  | N, p :: C => if p.1 = N then (p.2 :: (chn (N + 1) C).1, (chn (N + 1) C).2) else ([], N, p :: C)
theorem chn_yes {β : Type} (N : Int) (v : β) (C : List (Int × β)) : chn N ((N, v) :: C) = (v :: (chn (N + 1) C).1, (chn (N + 1) C).2) := by
  rw [chn, if_pos rfl]
theorem head_yes {β : Type} {S : List (Int × β)} (ha : AscS S) {N : Int} (hk : ∀ k ∈ keys S, N ≤ k) {v : β} (h : sget S N = some v) : ∃ R, S = (N, v) :: R := by
  have hm := (sget_mem ha.nodup).1 h
  cases S with
  | nil => cases hm
  | cons p S =>
    rcases List.mem_cons.1 hm with e | e
    · exact ⟨S, by rw [← e]⟩
    · have h1 : p.1 < N := by
        rw [AscS, keys, List.map_cons, List.pairwise_cons] at ha
        exact ha.1 _ (List.mem_map.2 ⟨_, e, rfl⟩)
      have := hk p.1 (by simp [keys])
      omega
theorem head_no {β : Type} {S : List (Int × β)} {N : Int} (h : sget S N = none) : chn N S = ([], N, S) := by
  cases S with
  | nil => rfl
  | cons p S =>
    rw [chn, if_neg]
    intro e
    rw [sget_cons, if_pos e] at h
    cases h
theorem chn_map {β γ : Type} (f : β → γ) : ∀ (N : Int) (C : List (Int × β)), chn N (encM f C) = ((chn N C).1.map f, (chn N C).2.1, encM f (chn N C).2.2)
  | N, [] => rfl
  | N, p :: C => by
    have e : encM f (p :: C) = (p.1, f p.2) :: encM f C := rfl
    rw [e, chn, chn]
    by_cases h : p.1 = N
    · rw [if_pos h, if_pos h, chn_map f (N + 1) C]
      rfl
    · rw [if_neg h, if_neg h]
      rfl
theorem chn_len {β : Type} : ∀ (N : Int) (C : List (Int × β)), (chn N C).1.length ≤ C.length ∧ (chn N C).2.1 = N + (chn N C).1.length ∧ (chn N C).2.2.length ≤ C.length
  | N, [] => ⟨Nat.le_refl _, by simp [chn], Nat.le_refl _⟩
  | N, p :: C => by
    rw [chn]
    by_cases h : p.1 = N
    · rw [if_pos h]
      obtain ⟨h1, h2, h3⟩ := chn_len (N + 1) C
      refine ⟨Nat.succ_le_succ h1, ?_, Nat.le_succ_of_le h3⟩
      show (chn (N + 1) C).2.1 = N + (((chn (N + 1) C).1.length + 1 : Nat) : Int)
      omega
    · rw [if_neg h]
      exact ⟨Nat.zero_le _, by simp, Nat.le_refl _⟩
theorem chn_keys {β : Type} : ∀ (N : Int) (C : List (Int × β)), AscS C → (∀ k ∈ keys C, N ≤ k) → AscS (chn N C).2.2 ∧ (∀ k ∈ keys (chn N C).2.2, (chn N C).2.1 < k) ∧ (∀ x ∈ (chn N C).2.2, x ∈ C)
  | N, [], _, _ => ⟨List.Pairwise.nil, fun k hk => by simp [chn, keys] at hk, fun x hx => by simp [chn] at hx⟩
  | N, p :: C, ha, hk => by
    have ha2 := ha
    rw [AscS, keys, List.map_cons, List.pairwise_cons] at ha2
    rw [chn]
    by_cases h : p.1 = N
    · rw [if_pos h]
      obtain ⟨h1, h2, h3⟩ := chn_keys (N + 1) C ha2.2 (fun k hk => by have := ha2.1 k hk; omega)
      exact ⟨h1, h2, fun x hx => List.mem_cons_of_mem _ (h3 x hx)⟩
    · rw [if_neg h]
      refine ⟨ha, fun k hk2 => ?_, fun x hx => hx⟩
      have h0 := hk p.1 (by simp [keys])
      show N < k
      have hk2 : k ∈ p.1 :: C.map (·.1) := hk2
      rcases List.mem_cons.1 hk2 with rfl | hm
      · omega
      · have := ha2.1 k hm
        omega
/-- a sorted list between two numbers is short -/
theorem asc_short : ∀ {l : List Int} {a b : Int}, l.Pairwise (· < ·) → (∀ x ∈ l, a ≤ x ∧ x < b) → (l.length : Int) ≤ max 0 (b - a)
  | [], a, b, _, _ => by simp; omega
  | x :: l, a, b, h, hb => by
    rw [List.pairwise_cons] at h
    have h0 := hb x (by simp)
    have := asc_short (l := l) (a := x + 1) (b := b) h.2 (fun y hy => ⟨by have := h.1 y hy; omega, (hb y (List.mem_cons_of_mem _ hy)).2⟩)
    rw [List.length_cons]
    omega
def okW (W : Int) : Bool := decide (1 ≤ W) && decide (W ≤ 16)
def NewKQ (W : Int) (h : H) (r : V) (h' : H) : Prop :=
  (okW W = false ∧ r = .tup [.ptr none, i64 1] ∧ h' = h) ∨ (okW W = true ∧ ∃ g mi, r = .tup [.ptr (some (g, 0)), i64 0] ∧ TkSt h' g mi W 0 [] ∧ h.next ≤ g ∧ h.next ≤ mi ∧ Ab.Mod none_ h h')
theorem new27 (h : H) (W : Int) : ACalls Try.prog 27 [i64 W] h (fun r h' => NewKQ W h r h') := by
  refine call_ Try.func27 rfl rfl (by kernel_rfl) ?_
  conv => whnf
  refine br_mk (fun ha => ?_) (fun ha => ?_)
  · conv => whnf
    have ha : W < 1 := by simpa using ha
    exact .inl ⟨by rw [okW, decide_eq_false (by omega)]; rfl, rfl, rfl⟩
  conv => whnf
  have ha : ¬ W < 1 := by simpa using ha
  refine br_mk (fun hb => ?_) (fun hb => ?_)
  · conv => whnf
    have hb : W > 16 := by simpa using hb
    exact .inl ⟨by rw [okW, decide_eq_false (show ¬ W ≤ 16 by omega), Bool.and_false], rfl, rfl⟩
  conv => whnf
  have hb : ¬ W > 16 := by simpa using hb
  refine .inr ⟨by rw [okW, decide_eq_true (show 1 ≤ W by omega), decide_eq_true (show W ≤ 16 by omega)]; rfl, h.next + 1, h.next, rfl, ⟨H.obj_push_new _ _, ⟨[], H.obj_push _ (H.obj_push_new _ _), List.Pairwise.nil, fun _ => rfl⟩, List.Pairwise.nil, (fun x hx => by cases hx), by omega⟩, by omega, Nat.le_refl _, mod_none (Mod.push none_ h _) (Mod.push none_ _ _)⟩
theorem newK_yes {W : Int} {h h' : H} {r : V} (q : NewKQ W h r h') (ok : okW W = true) : ∃ g mi, r = .tup [.ptr (some (g, 0)), i64 0] ∧ TkSt h' g mi W 0 [] ∧ h.next ≤ g ∧ h.next ≤ mi ∧ Ab.Mod none_ h h' := by
  rcases q with ⟨e, _⟩ | ⟨_, q⟩
  · rw [ok] at e
    cases e
  · exact q
theorem newK_no {W : Int} {h h' : H} {r : V} (q : NewKQ W h r h') (ok : okW W = false) : r = .tup [.ptr none, i64 1] ∧ h' = h := by
  rcases q with ⟨_, q⟩ | ⟨e, _⟩
  · exact q
  · rw [ok] at e
    cases e
theorem next32 {h : H} {g mi : Nat} {W N : Int} {S : Ent} (s : TkSt h g mi W N S) : ACalls Try.prog 32 [.ptr (some (g, 0))] h (fun r h' => h' = h ∧ r = i64 N) := by
  refine call_ Try.func32 rfl rfl (by kernel_rfl) ?_
  conv => whnf
  refine ⟨_, Cell.mk s.box rfl, ?_⟩
  conv => whnf
  exact ⟨rfl, rfl⟩
theorem next32n (h : H) : ACalls Try.prog 32 [.ptr none] h (fun r h' => h' = h ∧ r = i64 0) := by
  refine call_ Try.func32 rfl rfl (by kernel_rfl) ?_
  conv => whnf
  exact ⟨rfl, rfl⟩
def HeldR (h : H) (l : List Int) (r : V) (h' : H) : Prop := ∃ q, r = .sl q l.length ∧ RoSl h' q l.length 1 (ints .i64 l) ∧ Ab.Mod none_ h h'
theorem held34 {h : H} {g mi : Nat} {W N : Int} {S : Ent} (s : TkSt h g mi W N S) (hr : ∀ k ∈ keys S, inI k) (hS : S.length ≤ 1000) : ACalls Try.prog 34 [.ptr (some (g, 0))] h (HeldR h (keys S)) := by
  refine ACalls.ro (Q := fun r h' => ∃ q, r = .sl q (keys S).length ∧ NewSl h h' q (keys S).length 1 (ints .i64 (keys S)) ∧ Ab.Mod none_ h h') ?_ (by
    rintro r h' ⟨q, rfl, a, b⟩
    obtain ⟨i, h1, h2, h3⟩ := a.freeze b
    exact ⟨i, q, rfl, h2, h3⟩)
  refine call_ Try.func34 rfl rfl (by kernel_rfl) ?_
  conv => whnf
  refine ⟨_, Cell.mk s.box rfl, ?_⟩
  conv => whnf
  refine (keys69 h mi).mono ?_
  rintro _ h1 ⟨rfl, e1⟩
  subst e1
  conv => whnf
  obtain ⟨ms, g1, g2⟩ := s.map
  have mP := Mod.push none_ h (.row true 1 [.mp (some mi)])
  have gP := mP.get g1 (.inl (fun k => k))
  have hkm : ∀ p ∈ encM slV ms, inI p.1 := fun p hp => by
    obtain ⟨x, hx, rfl⟩ := List.mem_map.1 hp
    refine hr x.1 ?_
    rw [← sget_some, ← g2.2, sget_some]
    exact List.mem_map.2 ⟨x, hx, rfl⟩
  refine (sorted66 (.inr rfl) (H.obj_push_new h _) gP (by rw [encM_keys]; exact g2.1) hkm (by rw [encM_length, g2.length s.asc]; omega)).mono ?_
  rintro _ h2 ⟨q, rfl, nq, m2⟩
  rw [encM_keys, encM_length, g2.keys s.asc, g2.length s.asc] at nq
  rw [encM_length, g2.length s.asc]
  conv => whnf
  rw [← keys_length S] at nq ⊢
  exact ⟨q, rfl, ⟨nq.1, fun i o e => Nat.le_of_succ_le (nq.2 i o e)⟩, mod_none mP m2⟩
theorem clone63 {h : H} {p : Option (Nat × Nat)} {n : Nat} {cs : List V} (o : SlIs h p n false 1 cs) (hn : n ≤ 1000000) : ACalls Try.prog 63 [.sl p n] h (fun v h' => ∃ q, v = .sl q n ∧ RoSl h' q n 1 cs ∧ Ab.Mod none_ h h') := by
  refine ACalls.ro (Q := fun v h' => ∃ q, v = .sl q n ∧ NewSl h h' q n 1 cs ∧ Ab.Mod none_ h h') ?_ (by
    rintro r h' ⟨q, rfl, a, b⟩
    obtain ⟨i, h1, h2, h3⟩ := a.freeze b
    exact ⟨i, q, rfl, h2, h3⟩)
  refine call_ Try.func63 rfl rfl (by kernel_rfl) ?_
  conv => whnf
  refine br_mk (fun hb => ?_) (fun hb => ?_)
  · conv => whnf
    cases p with
    | some x => simp at hb
    | none =>
      have hl := o.1
      rcases o.2 with ⟨h0, _⟩ | ⟨i, j, b, r, e, _⟩
      · subst h0
        rw [Nat.zero_mul] at hl
        rw [List.eq_nil_of_length_eq_zero hl]
        exact ⟨none, rfl, NewSl.nil _ _ _, ⟨Nat.le_refl _, fun _ _ _ => rfl⟩⟩
      · cases e
  conv => whnf
  obtain ⟨y1, y2, y3⟩ := app0 (h0 := h) o
  refine ⟨_, _, y1, y2, by rw [show (T.at_ 5).bytes = 1 from rfl]; omega, by omega, fun p' h' hs hm hf => ?_⟩
  obtain ⟨n1, m1⟩ := y3 p' h' hs hm hf
  conv => whnf
  rw [Nat.zero_add]
  exact ⟨p', rfl, n1, m1⟩
end Go.Proofs.Ytpefdmidfllhoaa
