/- U4: texts of another seat, turned to this one. -/
import Derived.Test.YtoljllfbabahpaaU3
set_option linter.unusedVariables false
set_option linter.unusedSimpArgs false
namespace Go.Proofs.Ytoljllfbabahpaa
open Go Go.Ab Go.Shelf
/-- a body: where it lies, and its octets -/
abbrev Bd := Option (Nat × Nat) × List Int
def slV (x : Bd) : V := .sl x.1 x.2.length
def slC (x : Bd) : List V := [slV x]
theorem slC_len (x : Bd) : (slC x).length = 1 := rfl
def bOk (h : H) (x : Bd) : Prop := RoSl h x.1 x.2.length 1 (ints .u8 x.2)
abbrev Ent := List (Int × Bd)
structure TkSt (h : H) (g mi : Nat) (W N : Int) (S : Ent) : Prop where
  box : h.obj g = some (.row true 3 [i64 W, i64 N, .mp (some mi)])
  map : ∃ ms, h.obj mi = some (.map true (mpE .i64 (encM slV ms))) ∧ Same ms S
  asc : AscS S
  ent : ∀ x ∈ S, bOk h x.2
  sep : mi ≠ g
theorem TkSt.lt {h : H} {g mi : Nat} {W N : Int} {S : Ent} (s : TkSt h g mi W N S) : g < h.next ∧ mi < h.next := by
  obtain ⟨ms, h1, _⟩ := s.map
  exact ⟨h.lt _ _ s.box, h.lt _ _ h1⟩
theorem TkSt.get {Z : Nat → Prop} {h h' : H} {g mi : Nat} {W N : Int} {S : Ent} (s : TkSt h g mi W N S) (m : Ab.Mod Z h h') (hg : ¬ Z g) (hm : ¬ Z mi) : TkSt h' g mi W N S := by
  obtain ⟨ms, h1, h2⟩ := s.map
  exact ⟨m.get s.box (.inl hg), ⟨ms, m.get h1 (.inl hm), h2⟩, s.asc, fun x hx => (s.ent x hx).get m, s.sep⟩
theorem TkSt.old {h h' : H} {g mi : Nat} {W N : Int} {S : Ent} (s : TkSt h g mi W N S) (m : Ab.Mod none_ h h') : TkSt h' g mi W N S := s.get m (fun k => k) (fun k => k)
theorem TkSt.ro {h : H} {g mi : Nat} {W N : Int} {S : Ent} (s : TkSt h g mi W N S) {i : Nat} (hg : g ≠ i) (hm : mi ≠ i) : TkSt (h.ro i) g mi W N S := by
  obtain ⟨ms, h1, h2⟩ := s.map
  exact ⟨by rw [H.ro_ne _ hg, s.box], ⟨ms, by rw [H.ro_ne _ hm, h1], h2⟩, s.asc, fun x hx => (s.ent x hx).ro i, s.sep⟩
theorem TkSt.turn {h : H} {g mi : Nat} {W N : Int} {S S' : Ent} (s : TkSt h g mi W N S) {ms' : Ent} (hs : Same ms' S') (ha : AscS S') (he : ∀ x ∈ S', bOk h x.2) :
    TkSt (h.set mi (.map true (mpE .i64 (encM slV ms')))) g mi W N S' ∧ Ab.Mod (one mi) h (h.set mi (.map true (mpE .i64 (encM slV ms')))) := by
  obtain ⟨ms, h1, _⟩ := s.map
  have m : Ab.Mod (one mi) h (h.set mi (.map true (mpE .i64 (encM slV ms')))) := Mod.set rfl h1 rfl
  exact ⟨⟨by rw [H.obj_set_ne h _ s.sep.symm, s.box], ⟨ms', H.obj_set_same h1, hs⟩, ha, fun x hx => (he x hx).get m, s.sep⟩, m⟩
theorem TkSt.next {h : H} {g mi : Nat} {W N : Int} {S : Ent} (s : TkSt h g mi W N S) (N' : Int) :
    TkSt (h.set g (.row true 3 [i64 W, i64 N', .mp (some mi)])) g mi W N' S ∧ Ab.Mod (one g) h (h.set g (.row true 3 [i64 W, i64 N', .mp (some mi)])) := by
  obtain ⟨ms, h1, h2⟩ := s.map
  have m : Ab.Mod (one g) h (h.set g (.row true 3 [i64 W, i64 N', .mp (some mi)])) := Mod.set rfl s.box rfl
  exact ⟨⟨H.obj_set_same s.box, ⟨ms, by rw [H.obj_set_ne h _ s.sep, h1], h2⟩, s.asc, fun x hx => (s.ent x hx).get m, s.sep⟩, m⟩
/-- what is got, how far one is, what is left -/
def chn {β : Type} : Int → List (Int × β) → List β × Int × List (Int × β)
  | N, [] => ([], N, [])
  | N, p :: C => if p.1 = N then (p.2 :: (chn (N + 1) C).1, (chn (N + 1) C).2) else ([], N, p :: C)
theorem chn_yes {β : Type} (N : Int) (v : β) (C : List (Int × β)) : chn N ((N, v) :: C) = (v :: (chn (N + 1) C).1, (chn (N + 1) C).2) := by
  rw [chn, if_pos rfl]
theorem head_yes {β : Type} {S : List (Int × β)} (ha : AscS S) {N : Int} (hk : ∀ k ∈ keys S, N ≤ k) {v : β} (h : sget S N = some v) : ∃ R, S = (N, v) :: R := by
  have hm := (sget_mem ha.nodup).1 h
  cases S with
  | nil => cases hm
  | cons p S =>
    rcases List.mem_cons.1 hm with e | e
    · exact ⟨S, by rw [← e]⟩
    · have h1 : p.1 < N := by
        rw [AscS, keys, List.map_cons, List.pairwise_cons] at ha
        exact ha.1 _ (List.mem_map.2 ⟨_, e, rfl⟩)
      have := hk p.1 (by simp [keys])
      omega
theorem head_no {β : Type} {S : List (Int × β)} {N : Int} (h : sget S N = none) : chn N S = ([], N, S) := by
  cases S with
  | nil => rfl
  | cons p S =>
    rw [chn, if_neg]
    intro e
    rw [sget_cons, if_pos e] at h
    cases h
theorem chn_map {β γ : Type} (f : β → γ) : ∀ (N : Int) (C : List (Int × β)), chn N (encM f C) = ((chn N C).1.map f, (chn N C).2.1, encM f (chn N C).2.2)
  | N, [] => rfl
  | N, p :: C => by
    have e : encM f (p :: C) = (p.1, f p.2) :: encM f C := rfl
    rw [e, chn, chn]
    by_cases h : p.1 = N
    · rw [if_pos h, if_pos h, chn_map f (N + 1) C]
      rfl
    · rw [if_neg h, if_neg h]
      rfl
theorem chn_len {β : Type} : ∀ (N : Int) (C : List (Int × β)), (chn N C).1.length ≤ C.length ∧ (chn N C).2.1 = N + (chn N C).1.length ∧ (chn N C).2.2.length ≤ C.length
  | N, [] => ⟨Nat.le_refl _, by simp [chn], Nat.le_refl _⟩
  | N, p :: C => by
    rw [chn]
    by_cases h : p.1 = N
    · rw [if_pos h]
      obtain ⟨h1, h2, h3⟩ := chn_len (N + 1) C
      refine ⟨Nat.succ_le_succ h1, ?_, Nat.le_succ_of_le h3⟩
      show (chn (N + 1) C).2.1 = N + (((chn (N + 1) C).1.length + 1 : Nat) : Int)
      omega
    · rw [if_neg h]
      exact ⟨Nat.zero_le _, by simp, Nat.le_refl _⟩
theorem chn_keys {β : Type} : ∀ (N : Int) (C : List (Int × β)), AscS C → (∀ k ∈ keys C, N ≤ k) → AscS (chn N C).2.2 ∧ (∀ k ∈ keys (chn N C).2.2, (chn N C).2.1 < k) ∧ (∀ x ∈ (chn N C).2.2, x ∈ C)
  | N, [], _, _ => ⟨List.Pairwise.nil, fun k hk => by simp [chn, keys] at hk, fun x hx => by simp [chn] at hx⟩
  | N, p :: C, ha, hk => by
    have ha2 := ha
    rw [AscS, keys, List.map_cons, List.pairwise_cons] at ha2
    rw [chn]
    by_cases h : p.1 = N
    · rw [if_pos h]
      obtain ⟨h1, h2, h3⟩ := chn_keys (N + 1) C ha2.2 (fun k hk => by have := ha2.1 k hk; omega)
      exact ⟨h1, h2, fun x hx => List.mem_cons_of_mem _ (h3 x hx)⟩
    · rw [if_neg h]
      refine ⟨ha, fun k hk2 => ?_, fun x hx => hx⟩
      have h0 := hk p.1 (by simp [keys])
      show N < k
      have hk2 : k ∈ p.1 :: C.map (·.1) := hk2
      rcases List.mem_cons.1 hk2 with rfl | hm
      · omega
      · have := ha2.1 k hm
        omega
/-- a sorted list between two numbers is short -/
theorem asc_short : ∀ {l : List Int} {a b : Int}, l.Pairwise (· < ·) → (∀ x ∈ l, a ≤ x ∧ x < b) → (l.length : Int) ≤ max 0 (b - a)
  | [], a, b, _, _ => by simp; omega
  | x :: l, a, b, h, hb => by
    rw [List.pairwise_cons] at h
    have h0 := hb x (by simp)
    have := asc_short (l := l) (a := x + 1) (b := b) h.2 (fun y hy => ⟨by have := h.1 y hy; omega, (hb y (List.mem_cons_of_mem _ hy)).2⟩)
    rw [List.length_cons]
    omega
def okW (W : Int) : Bool := decide (1 ≤ W) && decide (W ≤ 16)
def NewKQ (W : Int) (h : H) (r : V) (h' : H) : Prop :=
  (okW W = false ∧ r = .tup [.ptr none, i64 1] ∧ h' = h) ∨ (okW W = true ∧ ∃ g mi, r = .tup [.ptr (some (g, 0)), i64 0] ∧ TkSt h' g mi W 0 [] ∧ h.next ≤ g ∧ h.next ≤ mi ∧ Ab.Mod none_ h h')
theorem new27 (h : H) (W : Int) : ACalls Try.prog 67 [i64 W] h (fun r h' => NewKQ W h r h') := by
  refine call_ Try.func67 rfl rfl (by kernel_rfl) ?_
  conv => whnf
  refine br_mk (fun ha => ?_) (fun ha => ?_)
  · conv => whnf
    have ha : W < 1 := by simpa using ha
    exact .inl ⟨by rw [okW, decide_eq_false (by omega)]; rfl, rfl, rfl⟩
  conv => whnf
  have ha : ¬ W < 1 := by simpa using ha
  refine br_mk (fun hb => ?_) (fun hb => ?_)
  · conv => whnf
    have hb : W > 16 := by simpa using hb
    exact .inl ⟨by rw [okW, decide_eq_false (show ¬ W ≤ 16 by omega), Bool.and_false], rfl, rfl⟩
  conv => whnf
  have hb : ¬ W > 16 := by simpa using hb
  refine .inr ⟨by rw [okW, decide_eq_true (show 1 ≤ W by omega), decide_eq_true (show W ≤ 16 by omega)]; rfl, h.next + 1, h.next, rfl, ⟨H.obj_push_new _ _, ⟨[], H.obj_push _ (H.obj_push_new _ _), List.Pairwise.nil, fun _ => rfl⟩, List.Pairwise.nil, (fun x hx => by cases hx), by omega⟩, by omega, Nat.le_refl _, mod_none (Mod.push none_ h _) (Mod.push none_ _ _)⟩
theorem newK_yes {W : Int} {h h' : H} {r : V} (q : NewKQ W h r h') (ok : okW W = true) : ∃ g mi, r = .tup [.ptr (some (g, 0)), i64 0] ∧ TkSt h' g mi W 0 [] ∧ h.next ≤ g ∧ h.next ≤ mi ∧ Ab.Mod none_ h h' := by
  rcases q with ⟨e, _⟩ | ⟨_, q⟩
  · rw [ok] at e
    cases e
  · exact q
theorem newK_no {W : Int} {h h' : H} {r : V} (q : NewKQ W h r h') (ok : okW W = false) : r = .tup [.ptr none, i64 1] ∧ h' = h := by
  rcases q with ⟨_, q⟩ | ⟨e, _⟩
  · exact q
  · rw [ok] at e
    cases e
theorem next32 {h : H} {g mi : Nat} {W N : Int} {S : Ent} (s : TkSt h g mi W N S) : ACalls Try.prog 72 [.ptr (some (g, 0))] h (fun r h' => h' = h ∧ r = i64 N) := by
  refine call_ Try.func72 rfl rfl (by kernel_rfl) ?_
  conv => whnf
  refine ⟨_, Cell.mk s.box rfl, ?_⟩
  conv => whnf
  exact ⟨rfl, rfl⟩
theorem next32n (h : H) : ACalls Try.prog 72 [.ptr none] h (fun r h' => h' = h ∧ r = i64 0) := by
  refine call_ Try.func72 rfl rfl (by kernel_rfl) ?_
  conv => whnf
  exact ⟨rfl, rfl⟩
def HeldR (h : H) (l : List Int) (r : V) (h' : H) : Prop := ∃ q, r = .sl q l.length ∧ RoSl h' q l.length 1 (ints .i64 l) ∧ Ab.Mod none_ h h'
theorem clone63 {h : H} {p : Option (Nat × Nat)} {n : Nat} {cs : List V} (o : SlIs h p n false 1 cs) (hn : n ≤ 1000000) : ACalls Try.prog 69 [.sl p n] h (fun v h' => ∃ q, v = .sl q n ∧ RoSl h' q n 1 cs ∧ Ab.Mod none_ h h') := by
  refine ACalls.ro (Q := fun v h' => ∃ q, v = .sl q n ∧ NewSl h h' q n 1 cs ∧ Ab.Mod none_ h h') ?_ (by
    rintro r h' ⟨q, rfl, a, b⟩
    obtain ⟨i, h1, h2, h3⟩ := a.freeze b
    exact ⟨i, q, rfl, h2, h3⟩)
  refine call_ Try.func69 rfl rfl (by kernel_rfl) ?_
  conv => whnf
  refine br_mk (fun hb => ?_) (fun hb => ?_)
  · conv => whnf
    cases p with
    | some x => simp at hb
    | none =>
      have hl := o.1
      rcases o.2 with ⟨h0, _⟩ | ⟨i, j, b, r, e, _⟩
      · subst h0
        rw [Nat.zero_mul] at hl
        rw [List.eq_nil_of_length_eq_zero hl]
        exact ⟨none, rfl, NewSl.nil _ _ _, ⟨Nat.le_refl _, fun _ _ _ => rfl⟩⟩
      · cases e
  conv => whnf
  obtain ⟨y1, y2, y3⟩ := app0 (h0 := h) o
  refine ⟨_, _, y1, y2, by rw [show (T.at_ 5).bytes = 1 from rfl]; omega, by omega, fun p' h' hs hm hf => ?_⟩
  obtain ⟨n1, m1⟩ := y3 p' h' hs hm hf
  conv => whnf
  rw [Nat.zero_add]
  exact ⟨p', rfl, n1, m1⟩
def mayT (W N seq : Int) (S : Ent) : Bool := decide (N ≤ seq) && decide (seq < N + W) && (sget S seq).isNone
def TakeQ (h : H) (g mi : Nat) (W N : Int) (S : Ent) (seq : Int) (body : List Int) (r : V) (h' : H) : Prop :=
  (mayT W N seq S = false ∧ r = .tup [.sl none 0, .bool false] ∧ TkSt h' g mi W N S ∧ Ab.Mod (two g mi) h h') ∨
  (mayT W N seq S = true ∧ ∃ p' q G N' S', chn N (insS S seq (p', body)) = (G, N', S') ∧ r = .tup [.sl q G.length, .bool true] ∧ NewSl h h' q G.length 1 (G.flatMap slC) ∧ (∀ x ∈ G, bOk h' x) ∧ TkSt h' g mi W N' S' ∧ Ab.Mod (two g mi) h h')
theorem insS_ent {h : H} {S : Ent} (he : ∀ x ∈ S, bOk h x.2) {b : Bd} (hb : bOk h b) (seq : Int) : ∀ x ∈ insS S seq b, bOk h x.2 := fun x hx => by
  rw [insS, List.mem_append, List.mem_cons] at hx
  rcases hx with hx | rfl | hx
  · exact he x (List.mem_filter.1 hx).1
  · exact hb
  · exact he x (List.mem_filter.1 hx).1
theorem insS_keys {β : Type} {S : List (Int × β)} {P : Int → Prop} (hS : ∀ k ∈ keys S, P k) {seq : Int} (hs : P seq) (b : β) : ∀ k ∈ keys (insS S seq b), P k := fun k hk => by
  obtain ⟨x, hx, rfl⟩ := List.mem_map.1 hk
  rw [insS, List.mem_append, List.mem_cons] at hx
  rcases hx with hx | rfl | hx
  · exact hS _ (List.mem_map.2 ⟨x, (List.mem_filter.1 hx).1, rfl⟩)
  · exact hs
  · exact hS _ (List.mem_map.2 ⟨x, (List.mem_filter.1 hx).1, rfl⟩)
theorem insS_len {β : Type} (id : Int) (v : β) (S : List (Int × β)) : (insS S id v).length ≤ S.length + 1 := by
  have key : ∀ l : List (Int × β), (l.filter fun p => decide (p.1 < id)).length + (l.filter fun p => decide (id < p.1)).length ≤ l.length := by
    intro l
    induction l with
    | nil => simp
    | cons p l ih =>
      by_cases h1 : p.1 < id
      · rw [List.filter_cons_of_pos (by simpa using h1), List.filter_cons_of_neg (by simp; omega)]
        simp only [List.length_cons]
        omega
      · rw [List.filter_cons_of_neg (by simpa using h1)]
        by_cases h2 : id < p.1
        · rw [List.filter_cons_of_pos (by simpa using h2)]
          simp only [List.length_cons]
          omega
        · rw [List.filter_cons_of_neg (by simpa using h2)]
          simp only [List.length_cons]
          omega
  rw [insS, List.length_append, List.length_cons]
  exact Nat.succ_le_succ (key S)
theorem sl_flat (G : List Bd) : (G.flatMap slC).length = G.length := by
  have := flat_length slC_len G
  omega
set_option maxHeartbeats 1000000 in
theorem take29 {h : H} {g mi : Nat} {W N : Int} {S : Ent} (s : TkSt h g mi W N S) (ok : okW W = true) (hK : ∀ k ∈ keys S, N < k) (hN0 : 0 ≤ N) (hN1 : N ≤ 1000000) (hS : S.length ≤ 1000) {seq : Int} (hs : inI seq) {q : Option (Nat × Nat)} {m : Nat} {body : List Int} (nm : SlIs h q m false 1 (ints .u8 body)) (hm : m ≤ 100000) :
    ACalls Try.prog 71 [.ptr (some (g, 0)), i64 seq, .sl q m] h (TakeQ h g mi W N S seq body) := by
  have hW : 1 ≤ W ∧ W ≤ 16 := by simpa [okW] using ok
  have hl := slo_len nm
  have hlt := s.lt
  have hsb : seq ≤ 9223372036854775807 := by
    have := hs.2
    simp [IntKind.max, IntKind.signed, IntKind.bits] at this
    exact this
  refine call_ Try.func71 rfl rfl (by kernel_rfl) ?_
  conv => whnf
  refine ⟨[0, 1, 2, 3, 4, 5, 6, 7, 8, 9, 10, 11, 12, 13, 14, 15, 16, 17, 18, 19, 20, 21, 22], [0, 1, 3, 7, 7, 23, 55, 119, 255, 511, 1023, 2047, 2047, 6143, 14335, 30719, 65535, 2047, 133119, 395263, 919551, 2097151, 4194303], by kernel_rfl, ?_⟩
  conv => whnf
  refine ⟨_, Cell.mk s.box rfl, ?_⟩
  conv => whnf
  have no : mayT W N seq S = false → TakeQ h g mi W N S seq body (.tup [.sl none 0, .bool false]) h := fun hn => .inl ⟨hn, rfl, s, ⟨Nat.le_refl _, fun _ _ _ => rfl⟩⟩
  refine br_mk (fun ha => ?_) (fun ha => ?_)
  · conv => whnf
    have ha : seq < N := by simpa using ha
    exact no (by rw [mayT, decide_eq_false (by omega)]; rfl)
  conv => whnf
  have ha : ¬ seq < N := by simpa using ha
  refine ⟨_, Cell.mk s.box rfl, ?_⟩
  conv => whnf
  refine ⟨_, Cell.mk s.box rfl, ?_⟩
  conv => whnf
  have hsub : IntKind.i64.wrap (seq - N) = seq - N := wrap_i64 (by omega) (by omega)
  rw [hsub]
  refine br_mk (fun hb => ?_) (fun hb => ?_)
  · conv => whnf
    have hb : seq - N ≥ W := by simpa using hb
    exact no (by rw [mayT, decide_eq_false (show ¬ seq < N + W by omega), Bool.and_false, Bool.false_and])
  conv => whnf
  have hb : ¬ seq - N ≥ W := by simpa using hb
  refine ⟨_, Cell.mk s.box rfl, ?_⟩
  conv => whnf
  obtain ⟨ms, k1, k2⟩ := s.map
  have e1 : mget (encM slV ms) seq = (sget S seq).map slV := by rw [mget_enc, k2.2]
  refine ⟨true, encM slV ms, k1, ?_⟩
  rw [e1]
  cases hz : sget S seq with
  | some v =>
    conv => whnf
    refine ⟨_, rfl, ?_⟩
    conv => whnf
    refine ⟨_, rfl, ?_⟩
    conv => whnf
    exact no (by rw [mayT, hz]; simp)
  | none =>
  conv => whnf
  refine ⟨_, rfl, ?_⟩
  conv => whnf
  refine ⟨_, rfl, ?_⟩
  conv => whnf
  have may : mayT W N seq S = true := by
    rw [mayT, hz, decide_eq_true (show N ≤ seq by omega), decide_eq_true (show seq < N + W by omega)]
    rfl
  refine ⟨[0, 1, 2, 3, 4, 5, 6, 7], [0, 1, 3, 7, 0, 0, 32, 127], by kernel_rfl, ?_⟩
  conv => whnf
  refine ⟨_, Cell.mk s.box rfl, ?_⟩
  conv => whnf
  refine (clone63 nm (by omega)).mono ?_
  rintro _ h1 ⟨p', rfl, rb, m1⟩
  have s1 := s.old m1
  rw [hl] at rb
  rw [hl]
  conv => whnf
  refine ⟨⟨_, Cell.mk s1.box rfl, rfl⟩, ?_⟩
  conv => whnf
  have k1' := m1.get k1 (.inl (fun k => k))
  refine ⟨encM slV ms, k1', ?_⟩
  conv => whnf
  have em := mput_enc slV seq (p', body) ms
  obtain ⟨t1, t2⟩ := s1.turn (k2.put seq (p', body) (insS_get s.asc seq (p', body))) (insS_asc s.asc seq (p', body)) (insS_ent s1.ent (b := (p', body)) rb seq)
  rw [← em] at t1 t2
  have hkS : ∀ k ∈ keys (insS S seq (p', body)), N ≤ k := insS_keys (fun k hk => by have := hK k hk; omega) (by omega) _
  have hlen := insS_len seq (p', body) S
  have mA : Ab.Mod (two g mi) h _ := m1.trans' t2 (S2 := two g mi) (fun _ _ k => k.elim) (fun _ _ k => .inr k)
  obtain ⟨S1, hS1⟩ : ∃ S1, S1 = insS S seq (p', body) := ⟨_, rfl⟩
  rw [← hS1] at t1 hkS hlen
  refine ⟨fun env hh => ∃ (N' : Int) (G : List Bd) (S' : Ent) (qg : Option (Nat × Nat)), chn N S1 = (G ++ (chn N' S').1, (chn N' S').2) ∧ (∀ k ∈ keys S', N' ≤ k) ∧ N' = N + G.length ∧ G.length + S'.length ≤ S1.length ∧ NewSl h hh qg G.length 1 (G.flatMap slC) ∧ (∀ x ∈ G, bOk hh x) ∧ TkSt hh g mi W N' S' ∧ Ab.Mod (two g mi) h hh ∧ env = [(6, .sl qg G.length), (0, .ptr (some (g, 0)))],
    fun env _ => match get env 6 with
      | .sl _ n => S1.length - n
      | _ => 0, ⟨_, Forget.cons rfl (Forget.cons rfl (Forget.nil _)), N, [], S1, none, rfl, hkS, by simp, by simp, NewSl.nil _ _ _, (fun x hx => by cases hx), t1, mA, rfl⟩, ?_⟩
  clear t1 t2 mA s1 m1 rb k1' em
  rintro _ hh ⟨N', G, S', qg, hch, hk', hN', hGS, ng, hG, st, mo, rfl⟩
  conv => whnf
  refine ⟨[0, 1, 2, 3, 4, 5, 6, 7, 8, 9, 10, 11, 12, 13], [0, 1, 3, 7, 0, 16, 48, 112, 255, 511, 1023, 1023, 2047, 8191], by kernel_rfl, ?_⟩
  conv => whnf
  refine ⟨_, Cell.mk st.box rfl, ?_⟩
  conv => whnf
  refine ⟨_, Cell.mk st.box rfl, ?_⟩
  conv => whnf
  obtain ⟨ms2, l1, l2⟩ := st.map
  have e2 : mget (encM slV ms2) N' = (sget S' N').map slV := by rw [mget_enc, l2.2]
  refine ⟨true, encM slV ms2, l1, ?_⟩
  rw [e2]
  cases hz2 : sget S' N' with
  | none =>
    conv => whnf
    refine ⟨_, rfl, ?_⟩
    conv => whnf
    refine ⟨_, rfl, ?_⟩
    conv => whnf
    rw [head_no hz2, List.append_nil] at hch
    rw [hS1] at hch
    exact .inr ⟨may, p', qg, G, N', S', hch, rfl, ng, hG, st, mo⟩
  | some v =>
    obtain ⟨R, hR⟩ := head_yes st.asc hk' hz2
    conv => whnf
    refine ⟨_, rfl, ?_⟩
    conv => whnf
    refine ⟨_, rfl, ?_⟩
    conv => whnf
    refine ⟨[0, 1, 2, 3, 4, 5, 6, 7, 8], [0, 1, 3, 7, 0, 16, 48, 112, 255], by kernel_rfl, ?_⟩
    conv => whnf
    refine ⟨_, Cell.mk st.box rfl, ?_⟩
    conv => whnf
    refine ⟨_, Cell.mk st.box rfl, ?_⟩
    conv => whnf
    refine .inl ⟨encM slV ms2, l1, ?_⟩
    conv => whnf
    have em := mdel_enc slV N' ms2
    have hascR : AscS ([] ++ (N', v) :: R) := by
      have := st.asc
      rw [hR] at this
      exact this
    have hdel : ∀ k, sget R k = if k = N' then none else sget S' k := fun k => by
      rw [hR]
      exact sget_del (A := []) hascR k
    obtain ⟨t1, t2⟩ := st.turn (l2.del N' hdel) (asc_del (A := []) hascR) (fun x hx => st.ent x (by rw [hR]; exact List.mem_cons_of_mem _ hx))
    rw [← em] at t1 t2
    have kp : ∀ i, one mi i → i < h.next := fun i hi => by
      have : i = mi := hi
      omega
    have kg : ∀ i, one g i → i < h.next := fun i hi => by
      have : i = g := hi
      omega
    have ng1 := NewSl.keep ng t2 kp
    have hG1 : ∀ x ∈ G, bOk _ x := fun x hx => (hG x hx).get t2
    have hv1 := (st.ent (N', v) (by rw [hR]; exact List.mem_cons_self)).get t2
    have mo1 := mo.trans' t2 (S2 := two g mi) (fun _ _ k => k) (fun _ _ k => .inr k)
    have hgl : (G.flatMap slC).length = G.length := sl_flat G
    obtain ⟨y1, y2, y3⟩ := app1 ng1 mo1 (slC v) rfl
    refine ⟨_, _, y1, y2, by rw [show (T.at_ 33).bytes = 24 from rfl]; omega, by omega, fun pG hY hs2 hm2 hf2 => ?_⟩
    obtain ⟨ng2, mo2, my⟩ := y3 pG hY hs2 hm2 hf2
    have st2 := t1.get my (fun k => by
      obtain ⟨o, k⟩ := k
      have := ng1.2 g o k
      omega) (fun k => by
      obtain ⟨o, k⟩ := k
      have := ng1.2 mi o k
      omega)
    have hG2 : ∀ x ∈ G ++ [v], bOk hY x := fun x hx => by
      rcases List.mem_append.1 hx with hx | hx
      · exact (hG1 x hx).get my
      · obtain rfl : x = v := by simpa using hx
        exact hv1.get my
    have e6 : G.flatMap slC ++ slC v = (G ++ [v]).flatMap slC := by rw [List.flatMap_append]; simp
    have e7 : G.length + 1 = (G ++ [v]).length := by simp
    rw [e6, e7] at ng2
    conv => whnf
    rw [e7]
    refine ⟨_, Cell.mk st2.box rfl, ?_⟩
    conv => whnf
    have hSR : S'.length = R.length + 1 := by rw [hR]; rfl
    have hwr : IntKind.i64.wrap (N' + 1) = N' + 1 := wrap_i64 (by omega) (by omega)
    rw [hwr]
    refine ⟨_, _, st2.box, Nat.le_of_ble_eq_true rfl, ?_⟩
    conv => whnf
    obtain ⟨u1, u2⟩ := st2.next (N' + 1)
    refine ⟨_, Forget.cons rfl (Forget.cons rfl (Forget.nil _)), ⟨N' + 1, G ++ [v], R, pG, ?_, ?_, by omega, by omega, NewSl.keep ng2 u2 kg, fun x hx => (hG2 x hx).get u2, u1, mo2.trans' u2 (S2 := two g mi) (fun _ _ k => k) (fun _ _ k => .inl k), rfl⟩, ?_⟩
    · rw [hch, hR, chn_yes]
      simp
    · intro k hk
      have ha2 := st.asc
      rw [hR, AscS, keys, List.map_cons, List.pairwise_cons] at ha2
      have := ha2.1 k hk
      have : N' < k := this
      omega
    · show S1.length - (G ++ [v]).length < S1.length - G.length
      omega
abbrev Hd := List (Int × List Int)
def TkC (h : H) (g mi : Nat) (W N : Int) (C : Hd) : Prop := ∃ S, TkSt h g mi W N S ∧ encM Prod.snd S = C
theorem TkC.get {Z : Nat → Prop} {h h' : H} {g mi : Nat} {W N : Int} {C : Hd} (s : TkC h g mi W N C) (m : Ab.Mod Z h h') (hg : ¬ Z g) (hm : ¬ Z mi) : TkC h' g mi W N C := by
  obtain ⟨S, h1, h2⟩ := s
  exact ⟨S, h1.get m hg hm, h2⟩
theorem TkC.old {h h' : H} {g mi : Nat} {W N : Int} {C : Hd} (s : TkC h g mi W N C) (m : Ab.Mod none_ h h') : TkC h' g mi W N C := s.get m (fun k => k) (fun k => k)
theorem TkC.lt {h : H} {g mi : Nat} {W N : Int} {C : Hd} (s : TkC h g mi W N C) : g < h.next ∧ mi < h.next := by
  obtain ⟨S, h1, _⟩ := s
  exact h1.lt
/-- rows of octets -/
def Rws (h : H) (q : Option (Nat × Nat)) (L : List (List Int)) : Prop := ∃ G : List Bd, RoSl h q L.length 1 (G.flatMap slC) ∧ (∀ x ∈ G, bOk h x) ∧ G.map Prod.snd = L
theorem Rws.get {Z : Nat → Prop} {h h' : H} {q : Option (Nat × Nat)} {L : List (List Int)} (s : Rws h q L) (m : Ab.Mod Z h h') : Rws h' q L := by
  obtain ⟨G, h1, h2, h3⟩ := s
  exact ⟨G, h1.get m, fun x hx => (h2 x hx).get m, h3⟩
theorem Rws.cell {h : H} {q : Option (Nat × Nat)} {L : List (List Int)} (s : Rws h q L) {j : Nat} (hj : j < L.length) :
    ∃ i c p, q = some (i, c) ∧ Cell h i (c + j * 1) (.sl p (L[j]).length) ∧ RoSl h p (L[j]).length 1 (ints .u8 L[j]) := by
  obtain ⟨G, h1, h2, rfl⟩ := s
  have hl : j < G.length := by simpa using hj
  have e1 : (G.map Prod.snd).length = G.length := by simp
  rw [e1] at h1
  obtain ⟨i, c, f1, _, f3⟩ := sls_get slC_len h1.is rfl hl
  have := f3 0 (slV G[j]) rfl
  refine ⟨i, c, G[j].1, f1, ?_, ?_⟩
  · rw [List.getElem_map]
    exact this
  · rw [List.getElem_map]
    exact h2 _ (List.getElem_mem hl)
def mayC (W N seq : Int) (C : Hd) : Bool := decide (N ≤ seq) && decide (seq < N + W) && (sget C seq).isNone
def tkV (W N : Int) (C : Hd) (seq : Int) (body : List Int) : Bool × List (List Int) × Int × Hd := if mayC W N seq C then (true, chn N (insS C seq body)) else (false, [], N, C)
structure OkH (W N : Int) (C : Hd) : Prop where
  asc : AscS C
  key : ∀ k ∈ keys C, N < k ∧ k < N + W
theorem OkH.nil (W N : Int) : OkH W N [] := ⟨List.Pairwise.nil, fun k hk => by simp [keys] at hk⟩
theorem OkH.len {W N : Int} {C : Hd} (o : OkH W N C) (hW : 1 ≤ W) : (C.length : Int) ≤ W - 1 := by
  have := asc_short (l := keys C) (a := N + 1) (b := N + W) o.asc (fun x hx => by have := o.key x hx; omega)
  rw [keys_length] at this
  omega
theorem OkH.take {W N : Int} {C : Hd} (o : OkH W N C) (hW : 1 ≤ W) (seq : Int) (body : List Int) : OkH W (tkV W N C seq body).2.2.1 (tkV W N C seq body).2.2.2 ∧ N ≤ (tkV W N C seq body).2.2.1 ∧ (tkV W N C seq body).2.2.1 = N + (tkV W N C seq body).2.1.length ∧ ((tkV W N C seq body).2.1.length : Int) ≤ W := by
  unfold tkV
  by_cases hm : mayC W N seq C = true
  · rw [if_pos hm]
    simp only [mayC, Bool.and_eq_true, decide_eq_true_eq] at hm
    have hk : ∀ k ∈ keys (insS C seq body), N ≤ k ∧ k < N + W := insS_keys (fun k hk => by have := o.key k hk; omega) (by omega) body
    obtain ⟨h1, h2, h3⟩ := chn_keys N (insS C seq body) (insS_asc o.asc seq body) (fun k hk2 => (hk k hk2).1)
    obtain ⟨l1, l2, _⟩ := chn_len N (insS C seq body)
    have l3 := insS_len seq body C
    have l4 := o.len hW
    refine ⟨⟨h1, fun k hk2 => ⟨h2 k hk2, ?_⟩⟩, ?_, l2, ?_⟩
    · obtain ⟨x, hx, rfl⟩ := List.mem_map.1 hk2
      have := hk x.1 (List.mem_map.2 ⟨x, h3 x hx, rfl⟩)
      show x.1 < (chn N (insS C seq body)).2.1 + W
      omega
    · show N ≤ (chn N (insS C seq body)).2.1
      omega
    · show ((chn N (insS C seq body)).1.length : Int) ≤ W
      omega
  · rw [if_neg hm]
    exact ⟨o, Int.le_refl _, by simp, by simp; omega⟩
def TakeC (h : H) (g mi : Nat) (W N : Int) (C : Hd) (seq : Int) (body : List Int) (r : V) (h' : H) : Prop :=
  ∃ q, r = .tup [.sl q (tkV W N C seq body).2.1.length, .bool (tkV W N C seq body).1] ∧ Rws h' q (tkV W N C seq body).2.1 ∧ TkC h' g mi W (tkV W N C seq body).2.2.1 (tkV W N C seq body).2.2.2 ∧ Ab.Mod (two g mi) h h'
theorem take29c {h : H} {g mi : Nat} {W N : Int} {C : Hd} (s : TkC h g mi W N C) (ok : okW W = true) (o : OkH W N C) (hN0 : 0 ≤ N) (hN1 : N ≤ 1000000) {seq : Int} (hs : inI seq) {q : Option (Nat × Nat)} {m : Nat} {body : List Int} (nm : SlIs h q m false 1 (ints .u8 body)) (hm : m ≤ 100000) :
    ACalls Try.prog 71 [.ptr (some (g, 0)), i64 seq, .sl q m] h (TakeC h g mi W N C seq body) := by
  obtain ⟨S, st, hC⟩ := s
  have hW : 1 ≤ W ∧ W ≤ 16 := by simpa [okW] using ok
  have hkeq : keys C = keys S := by rw [← hC]; exact encM_keys Prod.snd S
  have hlt := st.lt
  have hlen : C.length = S.length := by rw [← hC, encM_length]
  have hl := o.len hW.1
  have hmay : mayT W N seq S = mayC W N seq C := by
    rw [mayT, mayC, ← hC, encM_get]
    cases sget S seq <;> rfl
  refine (take29 st ok (fun k hk => (o.key k (by rw [hkeq]; exact hk)).1) hN0 hN1 (by omega) hs nm hm).ro ?_
  rintro r h' (⟨e, rfl, st', m'⟩ | ⟨e, p', q', G, N', S', hch, rfl, ng, hG, st', m'⟩)
  · rw [hmay] at e
    have hv : tkV W N C seq body = (false, [], N, C) := by rw [tkV, if_neg (by rw [e]; simp)]
    have := st'.lt
    unfold TakeC
    rw [hv]
    exact ⟨h'.next, none, rfl, ⟨[], RoSl.nil _ _ _, (fun x hx => by cases hx), rfl⟩, ⟨S, st'.ro (by omega) (by omega), hC⟩, m'.ro_new m'.next⟩
  · rw [hmay] at e
    have key : chn N (insS C seq body) = (G.map Prod.snd, N', encM Prod.snd S') := by
      have e1 : insS C seq body = encM Prod.snd (insS S seq (p', body)) := by rw [← hC]; exact encM_ins Prod.snd S seq (p', body)
      rw [e1, chn_map, hch]
    have hv : tkV W N C seq body = (true, G.map Prod.snd, N', encM Prod.snd S') := by rw [tkV, if_pos e, key]
    obtain ⟨i, h1, h2, h3⟩ := ng.freeze m'
    have hgl : (G.map Prod.snd).length = G.length := by simp
    unfold TakeC
    rw [hv]
    refine ⟨i, q', ?_, ⟨G, ?_, fun x hx => (hG x hx).ro i, rfl⟩, ⟨S', st'.ro (by omega) (by omega), rfl⟩, h3⟩
    · show V.tup [.sl q' G.length, .bool true] = V.tup [.sl q' (G.map Prod.snd).length, .bool true]
      rw [hgl]
    · show RoSl _ q' (G.map Prod.snd).length 1 _
      rw [hgl]
      exact h2
theorem next32c {h : H} {g mi : Nat} {W N : Int} {C : Hd} (s : TkC h g mi W N C) : ACalls Try.prog 72 [.ptr (some (g, 0))] h (fun r h' => h' = h ∧ r = i64 N) := by
  obtain ⟨S, st, _⟩ := s
  exact next32 st
theorem take29n (h : H) (seq : Int) (q : Option (Nat × Nat)) (m : Nat) : ACalls Try.prog 71 [.ptr none, i64 seq, .sl q m] h (fun r h' => h' = h ∧ r = .tup [.sl none 0, .bool false]) := by
  refine call_ Try.func71 rfl rfl (by kernel_rfl) ?_
  conv => whnf
  refine ⟨[0, 1, 2, 3, 4, 5, 6, 7, 8, 9, 10, 11, 12, 13, 14, 15, 16, 17, 18, 19, 20, 21, 22], [0, 1, 3, 7, 7, 23, 55, 119, 255, 511, 1023, 2047, 2047, 6143, 14335, 30719, 65535, 2047, 133119, 395263, 919551, 2097151, 4194303], by kernel_rfl, ?_⟩
  conv => whnf
  exact ⟨rfl, rfl⟩
theorem laid_oct (h : H) (zs : List Int) : SlIs (h.push (.row true 1 (ints .u8 zs))) (some (h.next, 0)) zs.length false 1 (ints .u8 zs) ∧ Ab.Mod none_ h (h.push (.row true 1 (ints .u8 zs))) :=
  ⟨(SlIs.row (n := zs.length) (H.obj_push_new _ _) (by rw [ints_length, Nat.mul_one])).weak, Mod.push none_ h _⟩
/-- as it is known to be -/
theorem TakeC.val {h : H} {g mi : Nat} {W N : Int} {C : Hd} {seq : Int} {body : List Int} {r : V} {h' : H} (t : TakeC h g mi W N C seq body r h') (b : Bool) (L : List (List Int)) (N' : Int) (C' : Hd) (hv : tkV W N C seq body = (b, L, N', C')) :
    ∃ q, r = .tup [.sl q L.length, .bool b] ∧ Rws h' q L ∧ TkC h' g mi W N' C' ∧ Ab.Mod (two g mi) h h' := by
  unfold TakeC at t
  rw [hv] at t
  exact t
end Go.Proofs.Ytoljllfbabahpaa
