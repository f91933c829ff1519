/- G4: texts of another seat, turned to this one. -/
import Derived.Test.YtmififfaljihgaaGreatG3
set_option linter.unusedVariables false
set_option linter.unusedSimpArgs false
namespace Go.Proofs.YtmififfaljihgaaGreat
open Go Go.Ab Go.Shelf
theorem bdel_spec {β : Type} (f : β → V) (n : Int) : ∀ (ms : List (Int × β)) (bs : List Nat), bs.length = ms.length → bs.Nodup → (keys ms).Nodup → ∀ (p : Nat) (v : β) (b : Nat), ms[p]? = some (n, v) → bs[p]? = some b →
    (bdel (encM f ms) bs n).length = (sdel ms n).length ∧ (∀ (p' : Nat) (x : Int × β) (b' : Nat), (sdel ms n)[p']? = some x → (bdel (encM f ms) bs n)[p']? = some b' → ∃ q : Nat, ms[q]? = some x ∧ bs[q]? = some b' ∧ b' ≠ b) ∧ List.Sublist (bdel (encM f ms) bs n) bs ∧ b ∉ bdel (encM f ms) bs n
  | [], _, _, _, _, p, v, b, h, _ => by simp at h
  | _ :: _, [], hl, _, _, _, _, _, _, _ => by simp at hl
  | y :: ms, c :: bs, hl, hn, hk, p, v, b, hp, hb => by
    have hn2 := List.nodup_cons.1 hn
    have hk2 := List.nodup_cons.1 (show (y.1 :: keys ms).Nodup from hk)
    have hl2 : bs.length = ms.length := by simpa using hl
    have e1 : bdel (encM f (y :: ms)) (c :: bs) n = if y.1 = n then bs else c :: bdel (encM f ms) bs n := rfl
    have e2 : sdel (y :: ms) n = if y.1 = n then ms else y :: sdel ms n := rfl
    cases p with
    | zero =>
      simp at hp hb
      subst hp hb
      rw [e1, e2, if_pos rfl, if_pos rfl]
      refine ⟨hl2, fun p' x b' h1 h2 => ⟨p' + 1, by simpa using h1, by simpa using h2, ?_⟩, List.sublist_cons_self _ _, hn2.1⟩
      rintro rfl
      exact hn2.1 (List.mem_of_getElem? h2)
    | succ p =>
      have hp : ms[p]? = some (n, v) := by simpa using hp
      have hb : bs[p]? = some b := by simpa using hb
      have hne : y.1 ≠ n := by
        rintro e
        exact hk2.1 (by rw [e]; exact List.mem_map.2 ⟨_, List.mem_of_getElem? hp, rfl⟩)
      have hcb : c ≠ b := by
        rintro rfl
        exact hn2.1 (List.mem_of_getElem? hb)
      obtain ⟨a1, a2, a3, a4⟩ := bdel_spec f n ms bs hl2 hn2.2 hk2.2 p v b hp hb
      rw [e1, e2, if_neg hne, if_neg hne]
      refine ⟨by simpa using a1, fun p' x b' h1 h2 => ?_, a3.cons_cons c, ?_⟩
      · cases p' with
        | zero =>
          simp at h1 h2
          subst h1 h2
          exact ⟨0, rfl, rfl, hcb⟩
        | succ p' =>
          obtain ⟨q, q1, q2, q3⟩ := a2 p' x b' (by simpa using h1) (by simpa using h2)
          exact ⟨q + 1, by simpa using q1, by simpa using q2, q3⟩
      · rw [List.mem_cons]
        rintro (e | e)
        · exact hcb e.symm
        · exact a4 e
/-- what has not come yet grows less -/
theorem left_lt {l l' : List Nat} (hs : List.Sublist l' l) {b : Nat} (hb : b ∈ l) {seen : List Nat} (hn : b ∉ seen) : (l'.filter fun x => decide (x ∉ seen ++ [b])).length < (l.filter fun x => decide (x ∉ seen)).length := by
  have h1 : (l'.filter fun x => decide (x ∉ seen ++ [b])).length ≤ (l.filter fun x => decide (x ∉ seen ++ [b])).length := (hs.filter _).length_le
  have h2 : (l.filter fun x => decide (x ∉ seen ++ [b])) = (l.filter fun x => decide (x ∉ seen)).filter fun x => decide (x ≠ b) := by
    rw [List.filter_filter]
    refine List.filter_congr (fun x _ => ?_)
    rw [Bool.eq_iff_iff]
    simp
    exact and_comm
  have h3 : b ∈ l.filter fun x => decide (x ∉ seen) := List.mem_filter.2 ⟨hb, by simpa using hn⟩
  have h4 : ((l.filter fun x => decide (x ∉ seen)).filter fun x => decide (x ≠ b)).length < (l.filter fun x => decide (x ∉ seen)).length :=
    List.length_filter_lt_length_iff_exists.2 ⟨b, h3, by simp⟩
  rw [h2] at h1
  omega
structure SdSt (h : H) (g mi tg tmi : Nat) (W N : Int) (ov : Bool) (S : Ent) (B M R : Int) (TS : List Wt) : Prop where
  box : h.obj g = some (.row true 5 [.ptr (some (tg, 0)), i64 W, i64 N, .mp (some mi), .bool ov])
  map : ∃ ms, h.obj mi = some (.map true (mpE .i64 (encM slV ms))) ∧ Same ms S
  asc : AscS S
  ent : ∀ x ∈ S, bOk h x.2
  tm : TSt h tg tmi B M R TS
  sep : mi ≠ g ∧ tg ≠ g ∧ tmi ≠ g ∧ tg ≠ mi ∧ tmi ≠ mi
theorem SdSt.lt {h : H} {g mi tg tmi : Nat} {W N : Int} {ov : Bool} {S : Ent} {B M R : Int} {TS : List Wt} (s : SdSt h g mi tg tmi W N ov S B M R TS) : g < h.next ∧ mi < h.next ∧ tg < h.next ∧ tmi < h.next := by
  obtain ⟨ms, h1, _⟩ := s.map
  exact ⟨h.lt _ _ s.box, h.lt _ _ h1, s.tm.lt.1, s.tm.lt.2⟩
theorem SdSt.get {Z : Nat → Prop} {h h' : H} {g mi tg tmi : Nat} {W N : Int} {ov : Bool} {S : Ent} {B M R : Int} {TS : List Wt} (s : SdSt h g mi tg tmi W N ov S B M R TS) (m : Ab.Mod Z h h') (h1 : ¬ Z g) (h2 : ¬ Z mi) (h3 : ¬ Z tg) (h4 : ¬ Z tmi) : SdSt h' g mi tg tmi W N ov S B M R TS := by
  obtain ⟨ms, k1, k2⟩ := s.map
  exact ⟨m.get s.box (.inl h1), ⟨ms, m.get k1 (.inl h2), k2⟩, s.asc, fun x hx => (s.ent x hx).get m, s.tm.get m h3 h4, s.sep⟩
theorem SdSt.old {h h' : H} {g mi tg tmi : Nat} {W N : Int} {ov : Bool} {S : Ent} {B M R : Int} {TS : List Wt} (s : SdSt h g mi tg tmi W N ov S B M R TS) (m : Ab.Mod none_ h h') : SdSt h' g mi tg tmi W N ov S B M R TS := s.get m (fun k => k) (fun k => k) (fun k => k) (fun k => k)
theorem SdSt.ro {h : H} {g mi tg tmi : Nat} {W N : Int} {ov : Bool} {S : Ent} {B M R : Int} {TS : List Wt} (s : SdSt h g mi tg tmi W N ov S B M R TS) {i : Nat} (h1 : g ≠ i) (h2 : mi ≠ i) (h3 : tg ≠ i) (h4 : tmi ≠ i) : SdSt (h.ro i) g mi tg tmi W N ov S B M R TS := by
  obtain ⟨ms, k1, k2⟩ := s.map
  exact ⟨by rw [H.ro_ne _ h1, s.box], ⟨ms, by rw [H.ro_ne _ h2, k1], k2⟩, s.asc, fun x hx => (s.ent x hx).ro i, s.tm.ro h3 h4, s.sep⟩
theorem SdSt.len {h : H} {g mi tg tmi : Nat} {W N : Int} {ov : Bool} {S : Ent} {B M R : Int} {TS : List Wt} (s : SdSt h g mi tg tmi W N ov S B M R TS) {ms : Ent} (h1 : Same ms S) : (mpE .i64 (encM slV ms)).length = S.length := by
  rw [mpE, List.length_map, encM_length, h1.length s.asc]
def NewSQ (W : Int) (h : H) (tg tmi : Nat) (B M R : Int) (TS : List Wt) (r : V) (h' : H) : Prop :=
  (okW W = false ∧ r = .tup [.ptr none, i64 1] ∧ h' = h) ∨ (okW W = true ∧ ∃ g mi, r = .tup [.ptr (some (g, 0)), i64 0] ∧ SdSt h' g mi tg tmi W 0 false [] B M R TS ∧ h.next ≤ g ∧ h.next ≤ mi ∧ Ab.Mod none_ h h')
theorem sNew {h : H} {tg tmi : Nat} {B M R : Int} {TS : List Wt} (t : TSt h tg tmi B M R TS) (W : Int) : ACalls Tryz.prog 57 [i64 W, .ptr (some (tg, 0))] h (fun r h' => NewSQ W h tg tmi B M R TS r h') := by
  have hlt := t.lt
  refine call_ Tryz.func57 rfl rfl (by kernel_rfl) ?_
  conv => whnf
  refine br_mk (fun ha => ?_) (fun ha => ?_)
  · conv => whnf
    have ha : W < 1 := by simpa using ha
    exact .inl ⟨by rw [okW, decide_eq_false (by omega)]; rfl, rfl, rfl⟩
  conv => whnf
  have ha : ¬ W < 1 := by simpa using ha
  refine br_mk (fun hb => ?_) (fun hb => ?_)
  · conv => whnf
    have hb : W > 16 := by simpa using hb
    exact .inl ⟨by rw [okW, decide_eq_false (show ¬ W ≤ 16 by omega), Bool.and_false], rfl, rfl⟩
  conv => whnf
  have hb : ¬ W > 16 := by simpa using hb
  have m1 := Mod.push none_ h (.map true [])
  have m2 := Mod.push none_ (h.push (.map true [])) (.row true 5 [.ptr (some (tg, 0)), i64 W, i64 0, .mp (some h.next), .bool false])
  refine .inr ⟨by rw [okW, decide_eq_true (show 1 ≤ W by omega), decide_eq_true (show W ≤ 16 by omega)]; rfl, h.next + 1, h.next, rfl, ⟨H.obj_push_new _ _, ⟨[], H.obj_push _ (H.obj_push_new _ _), List.Pairwise.nil, fun _ => rfl⟩, List.Pairwise.nil, (fun x hx => by cases hx), (t.old m1).old m2, by omega, by omega, by omega, by omega, by omega⟩, by omega, Nat.le_refl _, mod_none m1 m2⟩
theorem sOver {h : H} {g mi tg tmi : Nat} {W N : Int} {ov : Bool} {S : Ent} {B M R : Int} {TS : List Wt} (s : SdSt h g mi tg tmi W N ov S B M R TS) : ACalls Tryz.prog 95 [.ptr (some (g, 0))] h (fun r h' => h' = h ∧ r = .bool ov) := by
  refine call_ Tryz.func95 rfl rfl (by kernel_rfl) ?_
  conv => whnf
  refine ⟨_, Cell.mk s.box rfl, ?_⟩
  conv => whnf
  exact ⟨rfl, rfl⟩
def roomV (W : Int) (ov : Bool) (n : Nat) : Int := if ov then 0 else W - n
theorem sRoom {h : H} {g mi tg tmi : Nat} {W N : Int} {ov : Bool} {S : Ent} {B M R : Int} {TS : List Wt} (s : SdSt h g mi tg tmi W N ov S B M R TS) (ok : okW W = true) (hS : S.length ≤ 100000) : ACalls Tryz.prog 98 [.ptr (some (g, 0))] h (fun r h' => h' = h ∧ r = i64 (roomV W ov S.length)) := by
  have hW : 1 ≤ W ∧ W ≤ 16 := by simpa [okW] using ok
  refine call_ Tryz.func98 rfl rfl (by kernel_rfl) ?_
  conv => whnf
  refine (sOver s).mono ?_
  rintro _ h1 ⟨eh, rfl⟩
  subst eh
  cases ov with
  | true =>
    conv => whnf
    exact ⟨rfl, rfl⟩
  | false =>
  conv => whnf
  refine ⟨[0, 1, 2, 3, 4, 5, 6, 7, 8, 9, 10], [0, 1, 3, 7, 0, 16, 48, 112, 240, 511, 1023], by kernel_rfl, ?_⟩
  conv => whnf
  refine ⟨_, Cell.mk s.box rfl, ?_⟩
  conv => whnf
  refine ⟨_, Cell.mk s.box rfl, ?_⟩
  conv => whnf
  obtain ⟨ms, k1, k2⟩ := s.map
  refine ⟨true, _, k1, ?_⟩
  conv => whnf
  refine ⟨rfl, ?_⟩
  rw [s.len k2, wrap_i64 (by omega) (by omega)]
  rfl
def AckQ (h : H) (g mi tg tmi : Nat) (W N : Int) (ov : Bool) (S : Ent) (B M R : Int) (TS : List Wt) (ack : Int) (r : V) (h' : H) : Prop :=
  (ack > N ∧ r = i64 0 ∧ SdSt h' g mi tg tmi W N ov S B M R TS ∧ Ab.Mod (two mi tmi) h h') ∨ (ack ≤ N ∧ r = i64 ((S.filter fun p => decide (p.1 < ack)).length : Int) ∧ SdSt h' g mi tg tmi W N ov (S.filter fun p => decide (ack ≤ p.1)) B M R (TS.filter fun p => decide (ack ≤ p.1)) ∧ Ab.Mod (two mi tmi) h h')
/-- in the round -/
structure AckI (h hh : H) (g mi tg tmi : Nat) (W N : Int) (ov : Bool) (S : Ent) (B M R : Int) (TS : List Wt) (ack : Int) (cl : Nat) (ms : Ent) (bs seen : List Nat) (dl : List Int) : Prop where
  box : hh.obj g = some (.row true 5 [.ptr (some (tg, 0)), i64 W, i64 N, .mp (some mi), .bool ov])
  mpb : hh.obj mi = some (.mapb (mpE .i64 (encM slV ms)) bs cl)
  itr : hh.obj h.next = some (.itr mi cl seen cl)
  len : bs.length = ms.length
  nd : bs.Nodup
  same : Same ms (S.filter fun p => decide (p.1 ∉ dl))
  seen : ∀ (p : Nat) (x : Int × Bd) (b : Nat), ms[p]? = some x → bs[p]? = some b → b ∈ seen → ack ≤ x.1
  tm : TSt hh tg tmi B M R (TS.filter fun p => decide (p.1 ∉ dl))
  dn : dl.Nodup
  dk : ∀ k ∈ dl, k ∈ keys S ∧ k < ack
  mod : Ab.Mod (two mi tmi) h hh
  tot : dl.length + ms.length = S.length
theorem filter_asc {β : Type} {S : List (Int × β)} (ha : AscS S) (P : Int × β → Bool) : AscS (S.filter P) := List.Pairwise.sublist (List.Sublist.map _ List.filter_sublist) ha
theorem filter_get {β : Type} {S : List (Int × β)} (ha : AscS S) (P : Int → Bool) (k : Int) : sget (S.filter fun p => P p.1) k = if P k then sget S k else none := by
  refine opt_ext (fun v => ?_)
  rw [sget_mem (filter_asc ha _).nodup, List.mem_filter]
  by_cases e : P k = true
  · rw [if_pos e, sget_mem ha.nodup]
    exact ⟨fun q => q.1, fun q => ⟨q, e⟩⟩
  · rw [if_neg e]
    exact ⟨fun q => absurd q.2 e, fun q => by cases q⟩
theorem filter_notin_del {β : Type} (S : List (Int × β)) (dl : List Int) (n : Int) : (S.filter fun p => decide (p.1 ∉ dl)).filter (fun p => p.1 != n) = S.filter fun p => decide (p.1 ∉ dl ++ [n]) := by
  rw [List.filter_filter]
  refine List.filter_congr (fun x _ => ?_)
  rw [Bool.eq_iff_iff]
  simp
  exact and_comm
theorem ack_all {S : Ent} (ha : AscS S) {ack : Int} {ms : Ent} {bs seen : List Nat} {dl : List Int} (hl : bs.length = ms.length) (hs : Same ms (S.filter fun p => decide (p.1 ∉ dl))) (hseen : ∀ (p : Nat) (x : Int × Bd) (b : Nat), ms[p]? = some x → bs[p]? = some b → b ∈ seen → ack ≤ x.1)
    (hd : ∀ k ∈ dl, k ∈ keys S ∧ k < ack) (hall : ∀ b ∈ bs, b ∈ seen) : ∀ k ∈ keys S, decide (k ∉ dl) = decide (ack ≤ k) := fun k hk => by
  refine decide_eq_decide.2 ⟨fun hn => ?_, fun hle hm => by have := (hd k hm).2; omega⟩
  obtain ⟨v, hv⟩ : ∃ v, sget S k = some v := by
    cases e : sget S k with
    | none => exact absurd hk (sget_none.1 e)
    | some v => exact ⟨v, rfl⟩
  have h1 : sget (S.filter fun p => decide (p.1 ∉ dl)) k = some v := by
    have := filter_get ha (fun k => decide (k ∉ dl)) k
    rw [this, if_pos (by simpa using hn), hv]
  rw [← hs.2, sget_mem hs.1] at h1
  obtain ⟨p, hp, e⟩ := List.getElem_of_mem h1
  have hb : p < bs.length := by omega
  exact hseen p (k, v) bs[p] (by rw [List.getElem?_eq_getElem hp, e]) (List.getElem?_eq_getElem hb) (hall _ (List.getElem_mem hb))
theorem ack_len {S : Ent} (ha : AscS S) {ack : Int} {dl : List Int} (hd : ∀ k ∈ dl, k ∈ keys S ∧ k < ack) (hn : dl.Nodup) (hall : ∀ k ∈ keys S, decide (k ∉ dl) = decide (ack ≤ k)) : dl.length = (S.filter fun p => decide (p.1 < ack)).length := by
  have h1 : (keys (S.filter fun p => decide (p.1 < ack))).Nodup := (filter_asc ha _).nodup
  have h2 : dl.Perm (keys (S.filter fun p => decide (p.1 < ack))) := by
    rw [List.perm_ext_iff_of_nodup hn h1]
    intro k
    constructor
    · intro hk
      obtain ⟨a, b⟩ := hd k hk
      obtain ⟨x, hx, rfl⟩ := List.mem_map.1 a
      exact List.mem_map.2 ⟨x, List.mem_filter.2 ⟨hx, by simpa using b⟩, rfl⟩
    · intro hk
      obtain ⟨x, hx, rfl⟩ := List.mem_map.1 hk
      obtain ⟨a, b⟩ := List.mem_filter.1 hx
      have := decide_eq_decide.1 (hall x.1 (List.mem_map.2 ⟨x, a, rfl⟩))
      have b : x.1 < ack := by simpa using b
      exact Decidable.by_contra (fun q => by have := this.1 q; omega)
  have := h2.length_eq
  rw [keys_length] at this
  exact this
def three (a b c : Nat) : Nat → Prop := fun i => i = a ∨ i = b ∨ i = c
theorem SdSt.next {h : H} {g mi tg tmi : Nat} {W N : Int} {ov : Bool} {S : Ent} {B M R : Int} {TS : List Wt} (s : SdSt h g mi tg tmi W N ov S B M R TS) (N' : Int) (ov' : Bool) :
    SdSt (h.set g (.row true 5 [.ptr (some (tg, 0)), i64 W, i64 N', .mp (some mi), .bool ov'])) g mi tg tmi W N' ov' S B M R TS ∧ Ab.Mod (one g) h (h.set g (.row true 5 [.ptr (some (tg, 0)), i64 W, i64 N', .mp (some mi), .bool ov'])) := by
  obtain ⟨ms, h1, h2⟩ := s.map
  obtain ⟨p1, p2, p3, p4, p5⟩ := s.sep
  have m : Ab.Mod (one g) h (h.set g (.row true 5 [.ptr (some (tg, 0)), i64 W, i64 N', .mp (some mi), .bool ov'])) := Mod.set rfl s.box rfl
  exact ⟨⟨H.obj_set_same s.box, ⟨ms, m.get h1 (.inl p1), h2⟩, s.asc, fun x hx => (s.ent x hx).get m, s.tm.get m p2 p3, s.sep⟩, m⟩
theorem SdSt.turn {h : H} {g mi tg tmi : Nat} {W N : Int} {ov : Bool} {S S' : Ent} {B M R : Int} {TS : List Wt} (s : SdSt h g mi tg tmi W N ov S B M R TS) {ms' : Ent} (hs : Same ms' S') (ha : AscS S') (he : ∀ x ∈ S', bOk h x.2) :
    SdSt (h.set mi (.map true (mpE .i64 (encM slV ms')))) g mi tg tmi W N ov S' B M R TS ∧ Ab.Mod (one mi) h (h.set mi (.map true (mpE .i64 (encM slV ms')))) := by
  obtain ⟨ms, h1, _⟩ := s.map
  obtain ⟨p1, p2, p3, p4, p5⟩ := s.sep
  have m : Ab.Mod (one mi) h (h.set mi (.map true (mpE .i64 (encM slV ms')))) := Mod.set rfl h1 rfl
  exact ⟨⟨m.get s.box (.inl (fun k => p1 (Eq.symm k))), ⟨ms', H.obj_set_same h1, hs⟩, ha, fun x hx => (he x hx).get m, s.tm.get m p4 p5, s.sep⟩, m⟩
theorem SdSt.tmr {h h' : H} {g mi tg tmi : Nat} {W N : Int} {ov : Bool} {S : Ent} {B M R : Int} {TS TS' : List Wt} (s : SdSt h g mi tg tmi W N ov S B M R TS) (t : TSt h' tg tmi B M R TS') (m : Ab.Mod (one tmi) h h') : SdSt h' g mi tg tmi W N ov S B M R TS' := by
  obtain ⟨ms, h1, h2⟩ := s.map
  obtain ⟨p1, p2, p3, p4, p5⟩ := s.sep
  exact ⟨m.get s.box (.inl (fun k => p3 (Eq.symm k))), ⟨ms, m.get h1 (.inl (fun k => p5 (Eq.symm k))), h2⟩, s.asc, fun x hx => (s.ent x hx).get m, t, s.sep⟩
/-- told, sent or not -/
def SendQ (h : H) (g mi tg tmi : Nat) (W N : Int) (ov : Bool) (S : Ent) (B M R : Int) (TS : List Wt) (now : Int) (body : List Int) (r : V) (h' : H) : Prop :=
  (ov = true ∧ r = .tup [i64 0, i64 6] ∧ h' = h) ∨ (ov = false ∧ (S.length : Int) = W ∧ r = .tup [i64 0, i64 5] ∧ h' = h) ∨
  (ov = false ∧ (S.length : Int) ≠ W ∧ r = .tup [i64 N, i64 0] ∧ ∃ p', SdSt h' g mi tg tmi W (N + 1) false (insS S N (p', body)) B M R (insS TS N (now + waitV B M 0, 0)) ∧ Ab.Mod (three g mi tmi) h h')
set_option maxHeartbeats 1000000 in
theorem sSend {h : H} {g mi tg tmi : Nat} {W N : Int} {ov : Bool} {S : Ent} {B M R : Int} {TS : List Wt} (s : SdSt h g mi tg tmi W N ov S B M R TS) (ok : okW W = true) (okt : okT B M R = true) (hS : S.length ≤ 100000) (hN0 : 0 ≤ N) (hN1 : N ≤ 100000000) {now : Int} (hn0 : -1000000000 ≤ now) (hn1 : now ≤ 1000000000) {q : Option (Nat × Nat)} {m : Nat} {body : List Int} (nm : SlIs h q m false 1 (ints .u8 body)) (hq : ∀ h', Ab.Mod (one g) h h' → SlIs h' q m false 1 (ints .u8 body)) (hm : m ≤ 100000) :
    ACalls Tryz.prog 99 [.ptr (some (g, 0)), i64 now, .sl q m] h (SendQ h g mi tg tmi W N ov S B M R TS now body) := by
  have hW : 1 ≤ W ∧ W ≤ 16 := by simpa [okW] using ok
  have hl := slo_len nm
  have hlt := s.lt
  obtain ⟨p1, p2, p3, p4, p5⟩ := s.sep
  refine call_ Tryz.func99 rfl rfl (by kernel_rfl) ?_
  conv => whnf
  refine (sOver s).mono ?_
  rintro _ h1 ⟨eh, rfl⟩
  subst eh
  cases ov with
  | true =>
    conv => whnf
    exact .inl ⟨rfl, rfl, rfl⟩
  | false =>
  conv => whnf
  refine (sRoom s ok hS).mono ?_
  rintro _ h1 ⟨eh, rfl⟩
  subst eh
  conv => whnf
  refine br_mk (fun ha => ?_) (fun ha => ?_)
  · conv => whnf
    have ha : W - S.length = 0 := by simpa [roomV] using ha
    exact .inr (.inl ⟨rfl, by omega, rfl, rfl⟩)
  have ha : ¬ W - S.length = 0 := by
    intro e
    simp [roomV, e] at ha
  conv => whnf
  refine ⟨_, Cell.mk s.box rfl, ?_⟩
  conv => whnf
  refine ⟨_, Cell.mk s.box rfl, ?_⟩
  conv => whnf
  have hwr : IntKind.i64.wrap (N + 1) = N + 1 := wrap_i64 (by omega) (by omega)
  rw [hwr]
  refine ⟨_, _, s.box, Nat.le_of_ble_eq_true rfl, ?_⟩
  conv => whnf
  obtain ⟨s1, m1⟩ := s.next (N + 1) false
  have nm1 := hq _ m1
  refine ⟨[0, 1, 2, 3, 4, 5, 6, 7], [0, 1, 3, 7, 0, 0, 32, 127], by kernel_rfl, ?_⟩
  conv => whnf
  refine ⟨_, Cell.mk s1.box rfl, ?_⟩
  conv => whnf
  refine (clone63 nm1 (by omega)).mono ?_
  rintro _ h3 ⟨p', rfl, rb, m3⟩
  have s3 := s1.old m3
  rw [hl] at rb
  rw [hl]
  conv => whnf
  refine ⟨⟨_, Cell.mk s3.box rfl, rfl⟩, ?_⟩
  conv => whnf
  obtain ⟨ms, k1, k2⟩ := s3.map
  refine ⟨encM slV ms, k1, ?_⟩
  conv => whnf
  have em := mput_enc slV N (p', body) ms
  obtain ⟨t1, t2⟩ := s3.turn (k2.put N (p', body) (insS_get s3.asc N (p', body))) (insS_asc s3.asc N (p', body)) (insS_ent s3.ent (b := (p', body)) rb N)
  rw [← em] at t1 t2
  refine ⟨_, Cell.mk t1.box rfl, ?_⟩
  conv => whnf
  refine (start23 t1.tm okt (id := N) (i64_in (by omega) (by omega)) hn0 hn1).mono ?_
  rintro _ h5 ⟨t5, m5⟩
  conv => whnf
  refine .inr (.inr ⟨rfl, by omega, rfl, p', t1.tmr t5 m5, ?_⟩)
  have mA := m1.trans' m3 (S2 := three g mi tmi) (fun _ _ k => .inl k) (fun _ _ k => k.elim)
  have mB := mA.trans' t2 (S2 := three g mi tmi) (fun _ _ k => k) (fun _ _ k => .inr (.inl k))
  exact mB.trans' m5 (S2 := three g mi tmi) (fun _ _ k => k) (fun _ _ k => .inr (.inr k))
def bodyV (C : Hd) (seq : Int) : List Int := (sget C seq).getD []
def BodyQ (h : H) (C : Hd) (seq : Int) (r : V) (h' : H) : Prop := ∃ q, r = .tup [.sl q (bodyV C seq).length, .bool (sget C seq).isSome] ∧ RoSl h' q (bodyV C seq).length 1 (ints .u8 (bodyV C seq)) ∧ Ab.Mod none_ h h'
theorem sBody {h : H} {g mi tg tmi : Nat} {W N : Int} {ov : Bool} {S : Ent} {B M R : Int} {TS : List Wt} (s : SdSt h g mi tg tmi W N ov S B M R TS) (hb : ∀ x ∈ S, x.2.2.length ≤ 100000) (seq : Int) :
    ACalls Tryz.prog 97 [.ptr (some (g, 0)), i64 seq] h (BodyQ h (encM Prod.snd S) seq) := by
  have hC : sget (encM Prod.snd S) seq = (sget S seq).map Prod.snd := encM_get Prod.snd seq S
  unfold BodyQ bodyV
  rw [hC]
  refine call_ Tryz.func97 rfl rfl (by kernel_rfl) ?_
  conv => whnf
  refine ⟨_, Cell.mk s.box rfl, ?_⟩
  conv => whnf
  obtain ⟨ms, k1, k2⟩ := s.map
  have e1 : mget (encM slV ms) seq = (sget S seq).map slV := by rw [mget_enc, k2.2]
  refine ⟨true, encM slV ms, k1, ?_⟩
  rw [e1]
  cases hz : sget S seq with
  | none =>
    conv => whnf
    refine ⟨_, rfl, ?_⟩
    conv => whnf
    refine ⟨_, rfl, ?_⟩
    conv => whnf
    refine (clone63 (p := none) (n := 0) (cs := []) (SlIs.nil _ _ _) (by omega)).mono ?_
    rintro _ h3 ⟨p', rfl, rb, m3⟩
    conv => whnf
    exact ⟨p', rfl, rb, m3⟩
  | some b =>
  have hbo := s.ent (seq, b) ((sget_mem s.asc.nodup).1 hz)
  have hbl := hb (seq, b) ((sget_mem s.asc.nodup).1 hz)
  conv => whnf
  refine ⟨_, rfl, ?_⟩
  conv => whnf
  refine ⟨_, rfl, ?_⟩
  conv => whnf
  refine (clone63 hbo.is (by omega)).mono ?_
  rintro _ h3 ⟨p', rfl, rb, m3⟩
  conv => whnf
  exact ⟨p', rfl, rb, m3⟩
/-- how many entries are left to come -/
def leftN (mi j : Nat) (h : H) : Nat := match h.obj mi, h.obj j with
  | some (.mapb _ bs _), some (.itr _ _ seen _) => (bs.filter fun x => decide (x ∉ seen)).length
  | _, _ => 0
theorem leftN_eq {mi j : Nat} {h : H} {es : List (V × V)} {bs seen : List Nat} {cl a b c : Nat} (h1 : h.obj mi = some (.mapb es bs cl)) (h2 : h.obj j = some (.itr a b seen c)) : leftN mi j h = (bs.filter fun x => decide (x ∉ seen)).length := by
  unfold leftN
  rw [h1, h2]
theorem sdel_length {β : Type} {n : Int} : ∀ {ms : List (Int × β)} {p : Nat} {v : β}, ms[p]? = some (n, v) → (sdel ms n).length + 1 = ms.length
  | [], p, v, h => by simp at h
  | y :: ms, p, v, h => by
    have e2 : sdel (y :: ms) n = if y.1 = n then ms else y :: sdel ms n := rfl
    rw [e2]
    by_cases e : y.1 = n
    · rw [if_pos e]
      rfl
    · rw [if_neg e]
      cases p with
      | zero =>
        simp at h
        subst h
        exact absurd rfl e
      | succ p =>
        have := sdel_length (ms := ms) (p := p) (v := v) (by simpa using h)
        simpa using this
theorem encM_at {β γ : Type} {f : β → γ} {ms : List (Int × β)} {p : Nat} {n : Int} {v : γ} (h : (encM f ms)[p]? = some (n, v)) : ∃ w, ms[p]? = some (n, w) ∧ f w = v := by
  unfold encM at h
  rw [List.getElem?_map] at h
  cases e : ms[p]? with
  | none => rw [e] at h; cases h
  | some x =>
    rw [e] at h
    injection h with h
    injection h with h1 h2
    subst h1
    exact ⟨x.2, rfl, h2⟩
set_option maxHeartbeats 1000000 in
theorem sAcked {h : H} {g mi tg tmi : Nat} {W N : Int} {ov : Bool} {S : Ent} {B M R : Int} {TS : List Wt} (s : SdSt h g mi tg tmi W N ov S B M R TS) (hS : S.length ≤ 1000) (hT : ∀ k ∈ keys TS, k ∈ keys S) (ack : Int) :
    ACalls Tryz.prog 82 [.ptr (some (g, 0)), i64 ack] h (AckQ h g mi tg tmi W N ov S B M R TS ack) := by
  have hlt := s.lt
  obtain ⟨p1, p2, p3, p4, p5⟩ := s.sep
  have hTf : ∀ (hh : H), TSt hh tg tmi B M R TS → TSt hh tg tmi B M R (TS.filter fun p => decide (p.1 ∉ ([] : List Int))) := fun hh t => by
    rw [List.filter_eq_self.2 (fun x _ => by simp)]
    exact t
  refine ACalls.ro (Q := fun r h' => (ack > N ∧ r = i64 0 ∧ h' = h) ∨ (ack ≤ N ∧ ∃ cl ms bs seen dl, r = i64 (dl.length : Int) ∧ AckI h h' g mi tg tmi W N ov S B M R TS ack cl ms bs seen dl ∧ ∀ b ∈ bs, b ∈ seen)) ?_ ?_
  · refine call_ Tryz.func82 rfl rfl (by kernel_rfl) ?_
    conv => whnf
    refine ⟨_, Cell.mk s.box rfl, ?_⟩
    conv => whnf
    refine br_mk (fun ha => ?_) (fun ha => ?_)
    · conv => whnf
      exact .inl ⟨by simpa using ha, rfl, rfl⟩
    conv => whnf
    have ha : ack ≤ N := by
      have : ¬ ack > N := by simpa using ha
      omega
    refine ⟨_, Cell.mk s.box rfl, ?_⟩
    conv => whnf
    obtain ⟨ms, k1, k2⟩ := s.map
    refine ⟨encM slV ms, k1, fun bs cl b1 b2 b3 => ?_⟩
    conv => whnf
    have b1 : bs.length = ms.length := by rw [b1, encM_length]
    have mS : Ab.Mod (one mi) h (h.set mi (.mapb (mpE .i64 (encM slV ms)) bs cl)) := Mod.set rfl k1 rfl
    have mP := Mod.push none_ (h.set mi (.mapb (mpE .i64 (encM slV ms)) bs cl)) (.itr mi cl [] cl)
    have I0 : AckI h ((h.set mi (.mapb (mpE .i64 (encM slV ms)) bs cl)).push (.itr mi cl [] cl)) g mi tg tmi W N ov S B M R TS ack cl ms bs [] [] := by
      refine ⟨mP.get (mS.get s.box (.inl (fun k => p1 (Eq.symm k)))) (.inl (fun k => k)), mP.get (H.obj_set_same k1) (.inl (fun k => k)), H.obj_push_new _ _, b1, b2, ?_, (fun p x b _ _ hm => by cases hm), hTf _ ((s.tm.get mS p4 p5).old mP), List.nodup_nil, (fun k hk => by cases hk), mS.trans' mP (fun _ _ k => .inl k) (fun _ _ k => k.elim), ?_⟩
      · rw [List.filter_eq_self.2 (fun x _ => by simp)]
        exact k2
      · rw [k2.length s.asc]
        exact Nat.zero_add _
    refine ⟨fun env hh => ∃ (ms2 : Ent) (bs2 seen : List Nat) (dl : List Int) (c : Int), c = dl.length ∧ AckI h hh g mi tg tmi W N ov S B M R TS ack cl ms2 bs2 seen dl ∧ env = [(20, .ptr (some (h.next, 0))), (4, i64 c), (0, .ptr (some (g, 0))), (1, i64 ack)],
      fun _ hh => leftN mi h.next hh, ⟨_, Forget.cons rfl (Forget.cons rfl (Forget.cons rfl (Forget.cons rfl (Forget.nil _)))), ms, bs, [], [], 0, rfl, I0, rfl⟩, ?_⟩
    clear I0 mS mP b1 b2 b3 k1 k2
    rintro _ hh ⟨ms2, bs2, seen, dl, c, rfl, I, rfl⟩
    conv => whnf
    have hmj : mi ≠ h.next := by omega
    have hgj : g ≠ h.next := by omega
    refine ⟨mi, cl, seen, .i64, encM slV ms2, bs2, I.itr, I.mpb, fun p n v b e1 e2 e3 => ?_, fun e => ?_⟩
    rotate_left
    · conv => whnf
      refine ⟨_, rfl, ?_⟩
      conv => whnf
      exact .inr ⟨ha, cl, ms2, bs2, seen, dl, rfl, I, e⟩
    obtain ⟨v0, e1', rfl⟩ := encM_at e1
    have mJ : Ab.Mod (one h.next) hh (hh.set h.next (.itr mi cl (seen ++ [b]) cl)) := Mod.set rfl I.itr rfl
    have q1 : (hh.set h.next (.itr mi cl (seen ++ [b]) cl)).obj h.next = some (.itr mi cl (seen ++ [b]) cl) := H.obj_set_same I.itr
    have q2 := mJ.get I.mpb (.inl hmj)
    have q3 := mJ.get I.box (.inl hgj)
    have q4 := I.tm.get mJ (by show ¬ tg = h.next; omega) (by show ¬ tmi = h.next; omega)
    have q5 : Ab.Mod (two mi tmi) h (hh.set h.next (.itr mi cl (seen ++ [b]) cl)) := I.mod.trans' mJ (fun _ _ k => k) (fun i hi k => by
      have : i = h.next := k
      omega)
    have mu0 := leftN_eq I.mpb I.itr
    have hbm : b ∈ bs2 := List.mem_of_getElem? e2
    conv => whnf
    refine ⟨_, rfl, ?_⟩
    conv => whnf
    refine ⟨mi, cl, seen, .i64, encM slV ms2, bs2, p, n, slV v0, b, q1, q2, e2, e1, ?_⟩
    conv => whnf
    refine ⟨_, rfl, ?_⟩
    conv => whnf
    refine br_mk (fun hx => ?_) (fun hx => ?_)
    rotate_left
    · conv => whnf
      have hx : ¬ n < ack := by simpa using hx
      refine ⟨_, Forget.cons rfl (Forget.cons rfl (Forget.cons rfl (Forget.cons rfl (Forget.nil _)))), ⟨ms2, bs2, seen ++ [b], dl, _, rfl, ⟨q3, q2, q1, I.len, I.nd, I.same, fun p' x b' a1 a2 a3 => ?_, q4, I.dn, I.dk, q5, I.tot⟩, rfl⟩, ?_⟩
      · rcases List.mem_append.1 a3 with a3 | a3
        · exact I.seen p' x b' a1 a2 a3
        · have : b' = b := by simpa using a3
          subst this
          have hp1 := (List.getElem?_eq_some_iff.1 e2).1
          have : p' = p := ((List.getElem?_inj hp1 I.nd).1 (by rw [e2, a2])).symm
          subst this
          rw [e1'] at a1
          injection a1 with a1
          subst a1
          show ack ≤ n
          omega
      · show leftN mi h.next _ < leftN mi h.next hh
        rw [mu0, leftN_eq q2 q1]
        exact left_lt (List.Sublist.refl _) hbm e3
    · conv => whnf
      have hx : n < ack := by simpa using hx
      have hkS : n ∈ keys S ∧ n ∉ dl := by
        have h1 : sget ms2 n = some v0 := (sget_mem I.same.1).2 (List.mem_of_getElem? e1')
        rw [I.same.2, filter_get s.asc (fun k => decide (k ∉ dl)) n] at h1
        by_cases hd : n ∈ dl
        · simp [hd] at h1
        · rw [if_pos (by simpa using hd)] at h1
          exact ⟨Decidable.by_contra (fun q => by rw [sget_none.2 q] at h1; cases h1), hd⟩
      have hlen := sdel_length e1'
      have htot := I.tot
      refine ⟨_, Cell.mk q3 rfl, ?_⟩
      conv => whnf
      obtain ⟨lr, nr⟩ := laid_row (hh.set h.next (.itr mi cl (seen ++ [b]) cl)) [n]
      have hnx : h.next ≤ hh.next := I.mod.next
      refine (stop40 (q4.old nr) lr (fun i o e => by
        injection e with e
        injection e with e _
        have : (hh.set h.next (.itr mi cl (seen ++ [b]) cl)).next = hh.next := rfl
        omega) (by simp)).mono ?_
      rintro _ h5 ⟨t5, m5⟩
      have t5 : TSt h5 tg tmi B M R (delS (TS.filter fun p => decide (p.1 ∉ dl)) n) := t5
      rw [delS, filter_notin_del] at t5
      have r1 := m5.get (nr.get q1 (.inl (fun k => k))) (.inl (fun k => by have : h.next = tmi := k; omega))
      have r2 := m5.get (nr.get q2 (.inl (fun k => k))) (.inl (fun k => p5 (Eq.symm k)))
      have r3 := m5.get (nr.get q3 (.inl (fun k => k))) (.inl (fun k => p3 (Eq.symm k)))
      have r5 := (q5.trans' nr (S2 := two mi tmi) (fun _ _ k => k) (fun _ _ k => k.elim)).trans' m5 (S2 := two mi tmi) (fun _ _ k => k) (fun _ _ k => .inr k)
      conv => whnf
      refine ⟨_, Cell.mk r3 rfl, ?_⟩
      conv => whnf
      refine .inr ⟨encM slV ms2, bs2, cl, r2, ?_⟩
      conv => whnf
      have em := mdel_enc slV n ms2
      rw [em]
      obtain ⟨z1, z2, z3, z4⟩ := bdel_spec slV n ms2 bs2 I.len I.nd I.same.1 p v0 b e1' e2
      have mD : Ab.Mod (one mi) h5 (h5.set mi (.mapb (mpE .i64 (encM slV (sdel ms2 n))) (bdel (encM slV ms2) bs2 n) cl)) := Mod.set rfl r2 rfl
      have hwi : IntKind.i64.wrap ((dl.length : Int) + 1) = (((dl ++ [n]).length : Nat) : Int) := by
        rw [wrap_i64 (by omega) (by omega), List.length_append]
        rfl
      rw [hwi]
      have w2 : (h5.set mi (.mapb (mpE .i64 (encM slV (sdel ms2 n))) (bdel (encM slV ms2) bs2 n) cl)).obj mi = some (.mapb (mpE .i64 (encM slV (sdel ms2 n))) (bdel (encM slV ms2) bs2 n) cl) := H.obj_set_same r2
      have w1 := mD.get r1 (.inl (fun k => hmj (Eq.symm k)))
      refine ⟨_, Forget.cons rfl (Forget.cons rfl (Forget.cons rfl (Forget.cons rfl (Forget.nil _)))), ⟨sdel ms2 n, bdel (encM slV ms2) bs2 n, seen ++ [b], dl ++ [n], _, rfl, ⟨mD.get r3 (.inl (fun k => p1 (Eq.symm k))), w2, w1, z1, I.nd.sublist z3, ?_, fun p' x b' a1 a2 a3 => ?_, t5.get mD p4 p5, ?_, fun k hk => ?_, r5.trans' mD (S2 := two mi tmi) (fun _ _ k => k) (fun _ _ k => .inl k), ?_⟩, rfl⟩, ?_⟩
      · refine I.same.del n (fun k => ?_)
        rw [filter_get s.asc (fun k => decide (k ∉ dl ++ [n])) k, filter_get s.asc (fun k => decide (k ∉ dl)) k]
        by_cases e : k = n
        · subst e
          simp
        · simp [e]
      · obtain ⟨q, u1, u2, u3⟩ := z2 p' x b' a1 a2
        rcases List.mem_append.1 a3 with a3 | a3
        · exact I.seen q x b' u1 u2 a3
        · exact absurd (by simpa using a3) u3
      · rw [List.nodup_append]
        refine ⟨I.dn, by simp, fun x hx2 y hy e => ?_⟩
        have : y = n := by simpa using hy
        subst this
        subst e
        exact hkS.2 hx2
      · rcases List.mem_append.1 hk with hk | hk
        · exact I.dk k hk
        · have : k = n := by simpa using hk
          subst this
          exact ⟨hkS.1, hx⟩
      · rw [List.length_append]
        show dl.length + 1 + _ = _
        omega
      · show leftN mi h.next _ < leftN mi h.next hh
        rw [mu0, leftN_eq w2 w1]
        exact left_lt z3 hbm e3
  · rintro r h' (⟨ha, rfl, eh⟩ | ⟨ha, cl, ms, bs, seen, dl, rfl, I, hall⟩)
    · subst eh
      exact ⟨h'.next, .inl ⟨ha, rfl, s.ro (by omega) (by omega) (by omega) (by omega), (mod_refl _ _).ro_new (Nat.le_refl _)⟩⟩
    · refine ⟨mi, .inr ⟨ha, ?_, ⟨?_, ⟨ms, H.ro_mapb I.mpb, ?_⟩, filter_asc s.asc _, fun x hx => ?_, ?_, s.sep⟩, I.mod.ro_in (.inl rfl) (fun ob hob => ?_)⟩⟩
      all_goals have hall2 := ack_all s.asc I.len I.same I.seen I.dk hall
      · rw [ack_len s.asc I.dk I.dn hall2]
      · rw [H.ro_ne _ (fun e => p1 e.symm), I.box]
      · have e : (S.filter fun p => decide (ack ≤ p.1)) = S.filter fun p => decide (p.1 ∉ dl) := List.filter_congr (fun x hx => (hall2 x.1 (List.mem_map.2 ⟨x, hx, rfl⟩)).symm)
        rw [e]
        exact I.same
      · exact ((s.ent x (List.mem_filter.1 hx).1).get I.mod).ro mi
      · have e : (TS.filter fun p => decide (ack ≤ p.1)) = TS.filter fun p => decide (p.1 ∉ dl) := List.filter_congr (fun x hx => (hall2 x.1 (hT x.1 (List.mem_map.2 ⟨x, hx, rfl⟩))).symm)
        rw [e]
        exact I.tm.ro p4 p5
      · obtain ⟨ms0, k1, _⟩ := s.map
        rw [k1] at hob
        injection hob with hob
        subst hob
        rfl
structure SId where
  g : Nat
  mi : Nat
  tg : Nat
  tmi : Nat
def SId.all (d : SId) : Nat → Prop := fun i => i = d.g ∨ i = d.mi ∨ i = d.tg ∨ i = d.tmi
structure SV where
  W : Int
  N : Int
  ov : Bool
  C : Hd
  B : Int
  M : Int
  R : Int
  TS : List Wt
def SdC (h : H) (d : SId) (v : SV) : Prop := ∃ S, SdSt h d.g d.mi d.tg d.tmi v.W v.N v.ov S v.B v.M v.R v.TS ∧ encM Prod.snd S = v.C
theorem SdC.get {Z : Nat → Prop} {h h' : H} {d : SId} {v : SV} (s : SdC h d v) (m : Ab.Mod Z h h') (hz : ∀ i, d.all i → ¬ Z i) : SdC h' d v := by
  obtain ⟨S, h1, h2⟩ := s
  exact ⟨S, h1.get m (hz _ (.inl rfl)) (hz _ (.inr (.inl rfl))) (hz _ (.inr (.inr (.inl rfl)))) (hz _ (.inr (.inr (.inr rfl)))), h2⟩
theorem SdC.old {h h' : H} {d : SId} {v : SV} (s : SdC h d v) (m : Ab.Mod none_ h h') : SdC h' d v := s.get m (fun _ _ k => k)
theorem SdC.lt {h : H} {d : SId} {v : SV} (s : SdC h d v) {i : Nat} (hi : d.all i) : i < h.next := by
  obtain ⟨S, h1, _⟩ := s
  have := h1.lt
  rcases hi with rfl | rfl | rfl | rfl
  · exact this.1
  · exact this.2.1
  · exact this.2.2.1
  · exact this.2.2.2
structure SOk (v : SV) : Prop where
  ok : okW v.W = true
  okt : okT v.B v.M v.R = true
  n0 : 0 ≤ v.N
  asc : AscS v.C
  kb : ∀ k ∈ keys v.C, 0 ≤ k ∧ k < v.N
  len : (v.C.length : Int) ≤ v.W
  tasc : AscS v.TS
  tk : ∀ k ∈ keys v.TS, k ∈ keys v.C
  tn : ∀ x ∈ v.TS, 0 ≤ x.2.2
  bl : ∀ x ∈ v.C, x.2.length ≤ 100000
def sendV (v : SV) (now : Int) (body : List Int) : (Int × Int) × SV :=
  if v.ov = true then ((0, 6), v) else if (v.C.length : Int) = v.W then ((0, 5), v) else ((v.N, 0), { v with N := v.N + 1, C := insS v.C v.N body, TS := insS v.TS v.N (now + waitV v.B v.M 0, 0) })
def ackV (v : SV) (ack : Int) : Int × SV :=
  if ack > v.N then (0, v) else (((v.C.filter fun p => decide (p.1 < ack)).length : Int), { v with C := v.C.filter fun p => decide (ack ≤ p.1), TS := v.TS.filter fun p => decide (ack ≤ p.1) })
def againV (v : SV) (now : Int) : (List Int × Int) × SV :=
  if v.ov = true then (([], 6), v) else if ovS v.R now v.TS = [] then ((agS v.R now v.TS, 0), { v with TS := rsS v.B v.M v.R now v.TS }) else (([], 6), { v with ov := true, TS := rsS v.B v.M v.R now v.TS })
theorem insS_top {β : Type} {S : List (Int × β)} {n : Int} (h : ∀ k ∈ keys S, k < n) (v : β) : insS S n v = S ++ [(n, v)] := by
  rw [insS, List.filter_eq_self.2 (fun x hx => by simpa using h x.1 (List.mem_map.2 ⟨x, hx, rfl⟩)), List.filter_eq_nil_iff.2 (fun x hx => by have := h x.1 (List.mem_map.2 ⟨x, hx, rfl⟩); simp; omega)]
theorem keys_snoc {β : Type} (S : List (Int × β)) (n : Int) (v : β) : keys (S ++ [(n, v)]) = keys S ++ [n] := by simp [keys]
theorem SOk.send {v : SV} (o : SOk v) (now : Int) {body : List Int} (hb : body.length ≤ 100000) : SOk (sendV v now body).2 := by
  unfold sendV
  by_cases h1 : v.ov = true
  · rw [if_pos h1]
    exact o
  rw [if_neg h1]
  by_cases h2 : (v.C.length : Int) = v.W
  · rw [if_pos h2]
    exact o
  rw [if_neg h2]
  have e1 := insS_top (v := body) (fun k hk => (o.kb k hk).2)
  have e2 := insS_top (S := v.TS) (n := v.N) (v := (now + waitV v.B v.M 0, (0 : Int))) (fun k hk => (o.kb k (o.tk k hk)).2)
  have hn := o.n0
  refine ⟨o.ok, o.okt, by show 0 ≤ v.N + 1; omega, insS_asc o.asc _ _, ?_, ?_, insS_asc o.tasc _ _, ?_, ?_, ?_⟩
  · show ∀ k ∈ keys (insS v.C v.N body), 0 ≤ k ∧ k < v.N + 1
    rw [e1, keys_snoc]
    intro k hk
    rcases List.mem_append.1 hk with hk | hk
    · have := o.kb k hk
      omega
    · have : k = v.N := by simpa using hk
      omega
  · show ((insS v.C v.N body).length : Int) ≤ v.W
    rw [e1, List.length_append]
    have := o.len
    simp
    omega
  · show ∀ k ∈ keys (insS v.TS v.N _), k ∈ keys (insS v.C v.N body)
    rw [e1, e2, keys_snoc, keys_snoc]
    intro k hk
    rcases List.mem_append.1 hk with hk | hk
    · exact List.mem_append.2 (.inl (o.tk k hk))
    · exact List.mem_append.2 (.inr hk)
  · show ∀ x ∈ insS v.TS v.N _, 0 ≤ x.2.2
    rw [e2]
    intro x hx
    rcases List.mem_append.1 hx with hx | hx
    · exact o.tn x hx
    · have : x = (v.N, now + waitV v.B v.M 0, 0) := by simpa using hx
      subst this
      exact Int.le_refl _
  · show ∀ x ∈ insS v.C v.N body, x.2.length ≤ 100000
    rw [e1]
    intro x hx
    rcases List.mem_append.1 hx with hx | hx
    · exact o.bl x hx
    · have : x = (v.N, body) := by simpa using hx
      subst this
      exact hb
theorem SOk.ack {v : SV} (o : SOk v) (ack : Int) : SOk (ackV v ack).2 := by
  unfold ackV
  by_cases h1 : ack > v.N
  · rw [if_pos h1]
    exact o
  rw [if_neg h1]
  have hsub : ∀ k ∈ keys (v.C.filter fun p => decide (ack ≤ p.1)), k ∈ keys v.C ∧ ack ≤ k := fun k hk => by
    obtain ⟨x, hx, rfl⟩ := List.mem_map.1 hk
    obtain ⟨a, b⟩ := List.mem_filter.1 hx
    exact ⟨List.mem_map.2 ⟨x, a, rfl⟩, by simpa using b⟩
  refine ⟨o.ok, o.okt, o.n0, filter_asc o.asc _, fun k hk => o.kb k (hsub k hk).1, ?_, filter_asc o.tasc _, fun k hk => ?_, fun x hx => o.tn x (List.mem_filter.1 hx).1, fun x hx => o.bl x (List.mem_filter.1 hx).1⟩
  · show ((v.C.filter fun p => decide (ack ≤ p.1)).length : Int) ≤ v.W
    have := List.length_filter_le (fun (p : Int × List Int) => decide (ack ≤ p.1)) v.C
    have := o.len
    omega
  · obtain ⟨x, hx, rfl⟩ := List.mem_map.1 hk
    obtain ⟨a, b⟩ := List.mem_filter.1 hx
    obtain ⟨y, hy, e⟩ := List.mem_map.1 (o.tk x.1 (List.mem_map.2 ⟨x, a, rfl⟩))
    exact List.mem_map.2 ⟨y, List.mem_filter.2 ⟨hy, by rw [e]; exact b⟩, e⟩
theorem rsS_keys {B M R now : Int} {S : List Wt} : List.Sublist (keys (rsS B M R now S)) (keys S) := by
  induction S with
  | nil => exact List.Sublist.refl _
  | cons x S ih =>
    have e : rsS B M R now (x :: S) = (dueF B M R now x).toList ++ rsS B M R now S := by
      unfold rsS
      rw [List.filterMap_cons]
      cases dueF B M R now x <;> rfl
    rw [e, keys_append]
    have hk : keys (x :: S) = x.1 :: keys S := rfl
    rw [hk]
    unfold dueF
    split
    · exact ih.cons_cons _
    · split
      · exact ih.cons_cons _
      · exact ih.cons _
theorem rsS_pos {B M R now : Int} {S : List Wt} (h : ∀ x ∈ S, 0 ≤ x.2.2) : ∀ x ∈ rsS B M R now S, 0 ≤ x.2.2 := fun y hy => by
  unfold rsS at hy
  obtain ⟨x, hx, e⟩ := List.mem_filterMap.1 hy
  have := h x hx
  unfold dueF at e
  split at e
  · injection e with e
    subst e
    exact this
  · split at e
    · injection e with e
      subst e
      show 0 ≤ x.2.2 + 1
      omega
    · cases e
theorem SOk.again {v : SV} (o : SOk v) (now : Int) : SOk (againV v now).2 := by
  unfold againV
  by_cases h1 : v.ov = true
  · rw [if_pos h1]
    exact o
  rw [if_neg h1]
  have hs := rsS_keys (B := v.B) (M := v.M) (R := v.R) (now := now) (S := v.TS)
  by_cases h2 : ovS v.R now v.TS = []
  · rw [if_pos h2]
    exact ⟨o.ok, o.okt, o.n0, o.asc, o.kb, o.len, o.tasc.sublist hs, fun k hk => o.tk k (hs.subset hk), rsS_pos o.tn, o.bl⟩
  · rw [if_neg h2]
    exact ⟨o.ok, o.okt, o.n0, o.asc, o.kb, o.len, o.tasc.sublist hs, fun k hk => o.tk k (hs.subset hk), rsS_pos o.tn, o.bl⟩
theorem encM_flt {S : Ent} (P : Int → Bool) : (encM Prod.snd S).filter (fun p => P p.1) = encM Prod.snd (S.filter fun p => P p.1) := encM_filter Prod.snd P S
theorem SOk.lenT {v : SV} (o : SOk v) : v.TS.length ≤ v.C.length := by
  have h1 : (keys v.TS).length ≤ (keys v.C).length := List.Nodup.length_le_of_subset o.tasc.nodup (fun k hk => o.tk k hk)
  rw [keys_length, keys_length] at h1
  exact h1
theorem SOk.small {v : SV} (o : SOk v) : v.C.length ≤ 16 ∧ v.TS.length ≤ 16 := by
  have h1 := o.len
  have h2 := o.lenT
  have hW : 1 ≤ v.W ∧ v.W ≤ 16 := by simpa [okW] using o.ok
  omega
theorem cSendG {h : H} {d : SId} {v : SV} (s : SdC h d v) (o : SOk v) (hN : v.N ≤ 100000000) {now : Int} (hn0 : -1000000000 ≤ now) (hn1 : now ≤ 1000000000) {q : Option (Nat × Nat)} {m : Nat} {body : List Int} (nm : SlIs h q m false 1 (ints .u8 body)) (hq : ∀ h', Ab.Mod (one d.g) h h' → SlIs h' q m false 1 (ints .u8 body)) (hm : m ≤ 100000) :
    ACalls Tryz.prog 99 [.ptr (some (d.g, 0)), i64 now, .sl q m] h (fun r h' => r = .tup [i64 (sendV v now body).1.1, i64 (sendV v now body).1.2] ∧ SdC h' d (sendV v now body).2 ∧ Ab.Mod d.all h h') := by
  obtain ⟨S, st, hC⟩ := s
  have hl : v.C.length = S.length := by rw [← hC, encM_length]
  have hs := o.small
  refine (sSend st o.ok o.okt (by omega) o.n0 hN hn0 hn1 nm hq hm).mono ?_
  rintro r h' (⟨e, rfl, eh⟩ | ⟨e, e2, rfl, eh⟩ | ⟨e, e2, rfl, p', st', m'⟩)
  · subst eh
    have hv : sendV v now body = ((0, 6), v) := by rw [sendV, if_pos e]
    rw [hv]
    exact ⟨rfl, ⟨S, st, hC⟩, mod_refl _ _⟩
  · subst eh
    have hv : sendV v now body = ((0, 5), v) := by rw [sendV, if_neg (by rw [e]; simp), if_pos (by rw [hl]; exact e2)]
    rw [hv]
    exact ⟨rfl, ⟨S, st, hC⟩, mod_refl _ _⟩
  · have hv : sendV v now body = ((v.N, 0), { v with N := v.N + 1, C := insS v.C v.N body, TS := insS v.TS v.N (now + waitV v.B v.M 0, 0) }) := by rw [sendV, if_neg (by rw [e]; simp), if_neg (by rw [hl]; exact e2)]
    rw [hv]
    refine ⟨rfl, ⟨insS S v.N (p', body), ?_, ?_⟩, m'.mono (fun i _ k => ?_)⟩
    · rw [e]
      exact st'
    · show encM Prod.snd (insS S v.N (p', body)) = insS v.C v.N body
      rw [← hC]
      exact (encM_ins Prod.snd S v.N (p', body)).symm
    · rcases k with k | k | k
      · exact .inl k
      · exact .inr (.inl k)
      · exact .inr (.inr (.inr k))
theorem cSendR {h : H} {d : SId} {v : SV} (s : SdC h d v) (o : SOk v) (hN : v.N ≤ 100000000) {now : Int} (hn0 : -1000000000 ≤ now) (hn1 : now ≤ 1000000000) {q : Option (Nat × Nat)} {m : Nat} {body : List Int} (nm : RoSl h q m 1 (ints .u8 body)) (hm : m ≤ 100000) :
    ACalls Tryz.prog 99 [.ptr (some (d.g, 0)), i64 now, .sl q m] h (fun r h' => r = .tup [i64 (sendV v now body).1.1, i64 (sendV v now body).1.2] ∧ SdC h' d (sendV v now body).2 ∧ Ab.Mod d.all h h') :=
  cSendG s o hN hn0 hn1 nm.is (fun h' m => (nm.get m).is) hm
theorem cAck {h : H} {d : SId} {v : SV} (s : SdC h d v) (o : SOk v) (ack : Int) :
    ACalls Tryz.prog 82 [.ptr (some (d.g, 0)), i64 ack] h (fun r h' => r = i64 (ackV v ack).1 ∧ SdC h' d (ackV v ack).2 ∧ Ab.Mod d.all h h') := by
  obtain ⟨S, st, hC⟩ := s
  have hl : v.C.length = S.length := by rw [← hC, encM_length]
  have hs := o.small
  have hk : keys v.C = keys S := by rw [← hC]; exact encM_keys Prod.snd S
  have mm : ∀ {h' : H}, Ab.Mod (two d.mi d.tmi) h h' → Ab.Mod d.all h h' := fun m => m.mono (fun i _ k => k.elim (fun k => .inr (.inl k)) (fun k => .inr (.inr (.inr k))))
  refine (sAcked st (by omega) (fun k hk2 => by rw [← hk]; exact o.tk k hk2) ack).mono ?_
  rintro r h' (⟨e, rfl, st', m'⟩ | ⟨e, rfl, st', m'⟩)
  · have hv : ackV v ack = (0, v) := by rw [ackV, if_pos e]
    rw [hv]
    exact ⟨rfl, ⟨S, st', hC⟩, mm m'⟩
  · have hv : ackV v ack = (((v.C.filter fun p => decide (p.1 < ack)).length : Int), { v with C := v.C.filter fun p => decide (ack ≤ p.1), TS := v.TS.filter fun p => decide (ack ≤ p.1) }) := by rw [ackV, if_neg (by omega)]
    rw [hv]
    refine ⟨?_, ⟨_, st', ?_⟩, mm m'⟩
    · have : (v.C.filter fun p => decide (p.1 < ack)).length = (S.filter fun p => decide (p.1 < ack)).length := by
        rw [← hC, encM_flt (fun k => decide (k < ack)), encM_length]
      rw [this]
    · show encM Prod.snd (S.filter fun p => decide (ack ≤ p.1)) = v.C.filter fun p => decide (ack ≤ p.1)
      rw [← hC]
      exact (encM_flt (fun k => decide (ack ≤ k))).symm
theorem cRoom {h : H} {d : SId} {v : SV} (s : SdC h d v) (o : SOk v) : ACalls Tryz.prog 98 [.ptr (some (d.g, 0))] h (fun r h' => h' = h ∧ r = i64 (roomV v.W v.ov v.C.length)) := by
  obtain ⟨S, st, hC⟩ := s
  have hl : v.C.length = S.length := by rw [← hC, encM_length]
  have hs := o.small
  rw [hl]
  exact sRoom st o.ok (by omega)
theorem cOver {h : H} {d : SId} {v : SV} (s : SdC h d v) : ACalls Tryz.prog 95 [.ptr (some (d.g, 0))] h (fun r h' => h' = h ∧ r = .bool v.ov) := by
  obtain ⟨S, st, hC⟩ := s
  exact sOver st
theorem cBody {h : H} {d : SId} {v : SV} (s : SdC h d v) (o : SOk v) (seq : Int) : ACalls Tryz.prog 97 [.ptr (some (d.g, 0)), i64 seq] h (BodyQ h v.C seq) := by
  obtain ⟨S, st, hC⟩ := s
  rw [← hC]
  refine sBody st (fun x hx => ?_) seq
  exact o.bl (x.1, x.2.2) (by rw [← hC]; exact List.mem_map.2 ⟨x, hx, rfl⟩)
theorem SdC.tmr {h : H} {d : SId} {v : SV} (s : SdC h d v) : TSt h d.tg d.tmi v.B v.M v.R v.TS := by
  obtain ⟨S, st, _⟩ := s
  exact st.tm
theorem SdC.cell0 {h : H} {d : SId} {v : SV} (s : SdC h d v) : Cell h d.g 0 (.ptr (some (d.tg, 0))) := by
  obtain ⟨S, st, _⟩ := s
  exact Cell.mk st.box rfl
theorem cAgain {h : H} {d : SId} {v : SV} (s : SdC h d v) (o : SOk v) {now : Int} (hn0 : -1000000000 ≤ now) (hn1 : now ≤ 1000000000) :
    ACalls Tryz.prog 67 [.ptr (some (d.g, 0)), i64 now] h (fun r h' => ∃ q, r = .tup [.sl q (againV v now).1.1.length, i64 (againV v now).1.2] ∧ RoSl h' q (againV v now).1.1.length 1 (ints .i64 (againV v now).1.1) ∧ SdC h' d (againV v now).2 ∧ Ab.Mod d.all h h') := by
  have hs := o.small
  refine call_ Tryz.func67 rfl rfl (by kernel_rfl) ?_
  conv => whnf
  refine (cOver s).mono ?_
  rintro _ h1 ⟨eh, rfl⟩
  subst eh
  cases hov : v.ov with
  | true =>
    conv => whnf
    have hv : againV v now = (([], 6), v) := by rw [againV, if_pos hov]
    rw [hv]
    exact ⟨none, rfl, RoSl.nil _ _ _, s, mod_refl _ _⟩
  | false =>
  conv => whnf
  refine ⟨_, s.cell0, ?_⟩
  conv => whnf
  refine (due24r s.tmr o.okt (by omega) o.tn hn0 hn1 _ _ _ rfl rfl rfl).mono ?_
  rintro _ h2 ⟨qa, qo, rfl, ra, ro, t2, m2⟩
  obtain ⟨S, st, hC⟩ := s
  have st2 := st.tmr t2 m2
  conv => whnf
  refine ⟨_, rfl, ?_⟩
  conv => whnf
  refine ⟨_, rfl, ?_⟩
  conv => whnf
  refine br_mk (fun ha => ?_) (fun ha => ?_)
  · have ha : ovS v.R now v.TS ≠ [] := by
      intro e
      rw [e] at ha
      simp at ha
    have hv : againV v now = (([], 6), { v with ov := true, TS := rsS v.B v.M v.R now v.TS }) := by rw [againV, if_neg (by rw [hov]; simp), if_neg ha]
    conv => whnf
    refine ⟨_, _, st2.box, Nat.le_of_ble_eq_true rfl, ?_⟩
    conv => whnf
    rw [hv]
    obtain ⟨s3, m3⟩ := st2.next v.N true
    exact ⟨none, rfl, RoSl.nil _ _ _, ⟨S, s3, hC⟩, m2.trans' m3 (fun _ _ k => .inr (.inr (.inr k))) (fun _ _ k => .inl k)⟩
  · have ha : ovS v.R now v.TS = [] := by
      cases e : ovS v.R now v.TS with
      | nil => rfl
      | cons x l =>
        rw [e] at ha
        have : (((x :: l).length : Nat) : Int) > 0 := by
          rw [List.length_cons]
          omega
        rw [decide_eq_true this] at ha
        cases ha
    have hv : againV v now = ((agS v.R now v.TS, 0), { v with TS := rsS v.B v.M v.R now v.TS }) := by rw [againV, if_neg (by rw [hov]; simp), if_pos ha]
    conv => whnf
    rw [hv]
    refine ⟨qa, rfl, ra, ⟨S, st2, hC⟩, m2.mono (fun _ _ k => .inr (.inr (.inr k)))⟩
theorem newS_yes {W : Int} {h h' : H} {tg tmi : Nat} {B M R : Int} {r : V} (q : NewSQ W h tg tmi B M R [] r h') (ok : okW W = true) : ∃ d : SId, d.tg = tg ∧ d.tmi = tmi ∧ r = .tup [.ptr (some (d.g, 0)), i64 0] ∧ SdC h' d ⟨W, 0, false, [], B, M, R, []⟩ ∧ h.next ≤ d.g ∧ h.next ≤ d.mi ∧ Ab.Mod none_ h h' := by
  rcases q with ⟨e, _⟩ | ⟨_, g, mi, rfl, st, a, b, c⟩
  · rw [ok] at e
    cases e
  · exact ⟨⟨g, mi, tg, tmi⟩, rfl, rfl, rfl, ⟨[], st, rfl⟩, a, b, c⟩
theorem new_ok {W B M R : Int} (ok : okW W = true) (okt : okT B M R = true) : SOk ⟨W, 0, false, [], B, M, R, []⟩ := by
  have hW : 1 ≤ W ∧ W ≤ 16 := by simpa [okW] using ok
  exact ⟨ok, okt, Int.le_refl _, List.Pairwise.nil, (fun k hk => by cases hk), (by show ((0 : Nat) : Int) ≤ W; omega), List.Pairwise.nil, (fun k hk => by cases hk), (fun x hx => by cases hx), (fun x hx => by cases hx)⟩
theorem rng_len {l : List Int} {a b : Int} (hl : l.Pairwise (· < ·)) (hm : ∀ k, k ∈ l ↔ a ≤ k ∧ k < b) (hab : a ≤ b) : (l.length : Int) = b - a := by
  have h1 := asc_short (a := a) (b := b) hl (fun x hx => (hm x).1 hx)
  have h2 : ((List.range (b - a).toNat).map fun (i : Nat) => a + (i : Int)).length ≤ l.length := by
    refine List.Nodup.length_le_of_subset ?_ (fun x hx => ?_)
    · refine List.Pairwise.map _ ?_ (List.nodup_range (n := (b - a).toNat))
      intro x y hxy e
      exact hxy (by omega)
    · obtain ⟨i, hi, rfl⟩ := List.mem_map.1 hx
      have := List.mem_range.1 hi
      exact (hm _).2 (by omega)
  rw [List.length_map, List.length_range] at h2
  omega
structure KR (v : SV) (a : Int) : Prop where
  le : a ≤ v.N
  c : ∀ k, k ∈ keys v.C ↔ a ≤ k ∧ k < v.N
  t : ∀ k, k ∈ keys v.TS ↔ a ≤ k ∧ k < v.N
theorem KR.len {v : SV} {a : Int} (k : KR v a) (o : SOk v) : (v.C.length : Int) = v.N - a ∧ (v.TS.length : Int) = v.N - a := by
  have h1 := rng_len (l := keys v.C) o.asc k.c k.le
  have h2 := rng_len (l := keys v.TS) o.tasc k.t k.le
  rw [keys_length] at h1 h2
  exact ⟨h1, h2⟩
theorem mem_flt {β : Type} {S : List (Int × β)} {P : Int → Bool} {k : Int} : k ∈ keys (S.filter fun p => P p.1) ↔ k ∈ keys S ∧ P k = true := by
  constructor
  · intro h
    obtain ⟨x, hx, rfl⟩ := List.mem_map.1 h
    obtain ⟨a, b⟩ := List.mem_filter.1 hx
    exact ⟨List.mem_map.2 ⟨x, a, rfl⟩, b⟩
  · rintro ⟨h, b⟩
    obtain ⟨x, hx, rfl⟩ := List.mem_map.1 h
    exact List.mem_map.2 ⟨x, List.mem_filter.2 ⟨hx, b⟩, rfl⟩
/-- what an ack takes -/
def tookV (a N ack : Int) : Int := if ack > N then 0 else if ack > a then ack - a else 0
theorem KR.ack {v : SV} {a : Int} (k : KR v a) (o : SOk v) (ack : Int) : (ackV v ack).1 = tookV a v.N ack ∧ KR (ackV v ack).2 (a + tookV a v.N ack) ∧ (ackV v ack).2.N = v.N ∧ (ackV v ack).2.W = v.W ∧ (ackV v ack).2.ov = v.ov := by
  have hle := k.le
  unfold ackV tookV
  by_cases h1 : ack > v.N
  · rw [if_pos h1, if_pos h1]
    exact ⟨rfl, ⟨by show a + 0 ≤ v.N; omega, by show ∀ k, k ∈ keys v.C ↔ a + 0 ≤ k ∧ k < v.N; rw [Int.add_zero]; exact k.c, by show ∀ k, k ∈ keys v.TS ↔ a + 0 ≤ k ∧ k < v.N; rw [Int.add_zero]; exact k.t⟩, rfl, rfl, rfl⟩
  rw [if_neg h1, if_neg h1]
  have hc : ((v.C.filter fun p => decide (p.1 < ack)).length : Int) = if ack > a then ack - a else 0 := by
    have hm : ∀ k, k ∈ keys (v.C.filter fun p => decide (p.1 < ack)) ↔ a ≤ k ∧ k < max a ack := fun x => by
      rw [mem_flt (P := fun k => decide (k < ack)), k.c]
      simp
      omega
    have := rng_len (filter_asc o.asc _) hm (by omega)
    rw [keys_length] at this
    split <;> omega
  refine ⟨hc, ⟨?_, fun x => ?_, fun x => ?_⟩, rfl, rfl, rfl⟩
  · show _ ≤ v.N
    split <;> omega
  · show x ∈ keys (v.C.filter fun p => decide (ack ≤ p.1)) ↔ _ ≤ x ∧ x < v.N
    rw [mem_flt (P := fun k => decide (ack ≤ k)), k.c]
    simp
    split <;> omega
  · show x ∈ keys (v.TS.filter fun p => decide (ack ≤ p.1)) ↔ _ ≤ x ∧ x < v.N
    rw [mem_flt (P := fun k => decide (ack ≤ k)), k.t]
    simp
    split <;> omega
theorem KR.send {v : SV} {a : Int} (k : KR v a) (o : SOk v) (hov : v.ov = false) (now : Int) (body : List Int) (hf : v.N - a < v.W) : (sendV v now body).1 = (v.N, 0) ∧ KR (sendV v now body).2 a ∧ (sendV v now body).2.N = v.N + 1 ∧ (sendV v now body).2.W = v.W ∧ (sendV v now body).2.ov = false ∧ bodyV (sendV v now body).2.C v.N = body ∧ (sget (sendV v now body).2.C v.N).isSome = true := by
  have hl := (k.len o).1
  have hle := k.le
  have hv : sendV v now body = ((v.N, 0), { v with N := v.N + 1, C := insS v.C v.N body, TS := insS v.TS v.N (now + waitV v.B v.M 0, 0) }) := by rw [sendV, if_neg (by rw [hov]; simp), if_neg (by omega)]
  rw [hv]
  have e1 := insS_top (v := body) (fun k hk => (o.kb k hk).2)
  have e2 := insS_top (S := v.TS) (n := v.N) (v := (now + waitV v.B v.M 0, (0 : Int))) (fun k hk => (o.kb k (o.tk k hk)).2)
  have hg : sget (insS v.C v.N body) v.N = some body := by rw [insS_get o.asc, if_pos rfl]
  refine ⟨rfl, ⟨by show a ≤ v.N + 1; omega, fun x => ?_, fun x => ?_⟩, rfl, rfl, hov, ?_, ?_⟩
  · show x ∈ keys (insS v.C v.N body) ↔ a ≤ x ∧ x < v.N + 1
    rw [e1, keys_snoc, List.mem_append, k.c, List.mem_singleton]
    omega
  · show x ∈ keys (insS v.TS v.N _) ↔ a ≤ x ∧ x < v.N + 1
    rw [e2, keys_snoc, List.mem_append, k.t, List.mem_singleton]
    omega
  · show bodyV (insS v.C v.N body) v.N = body
    rw [bodyV, hg]
    rfl
  · show (sget (insS v.C v.N body) v.N).isSome = true
    rw [hg]
    rfl
theorem KR.new (W B M R : Int) : KR ⟨W, 0, false, [], B, M, R, []⟩ 0 := by
  refine ⟨Int.le_refl _, fun k => ?_, fun k => ?_⟩
  · show k ∈ [] ↔ 0 ≤ k ∧ k < 0
    simp
  · show k ∈ [] ↔ 0 ≤ k ∧ k < 0
    simp
theorem KR.is {v : SV} {a : Int} (k : KR v a) (x : Int) : (sget v.C x).isSome = (decide (a ≤ x) && decide (x < v.N)) := by
  rw [Bool.eq_iff_iff, sget_some, k.c]
  simp
end Go.Proofs.YtmififfaljihgaaGreat
