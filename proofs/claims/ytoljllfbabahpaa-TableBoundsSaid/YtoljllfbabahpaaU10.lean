/- Senders: what lies in memory; what one asks. -/
import Derived.Test.YtoljllfbabahpaaU9
import Derived.Test.YtoljllfbabahpaaU4
set_option linter.unusedVariables false
namespace Go.Proofs.Ytoljllfbabahpaa
open Go Go.Ab
structure SdSt (h : H) (g mi tg tmi : Nat) (W N : Int) (ov : Bool) (S : Ent) (B M R : Int) (TS : List Wt) : Prop where
  box : h.obj g = some (.row true 5 [.ptr (some (tg, 0)), i64 W, i64 N, .mp (some mi), .bool ov])
  map : ∃ ms, h.obj mi = some (.map true (mpE .i64 (encM slV ms))) ∧ Same ms S
  asc : AscS S
  ent : ∀ x ∈ S, bOk h x.2
  tm : TSt h tg tmi B M R TS
  sep : mi ≠ g ∧ tg ≠ g ∧ tmi ≠ g ∧ tg ≠ mi ∧ tmi ≠ mi
theorem SdSt.lt {h : H} {g mi tg tmi : Nat} {W N : Int} {ov : Bool} {S : Ent} {B M R : Int} {TS : List Wt} (s : SdSt h g mi tg tmi W N ov S B M R TS) : g < h.next ∧ mi < h.next ∧ tg < h.next ∧ tmi < h.next := by
  obtain ⟨ms, h1, _⟩ := s.map
  exact ⟨h.lt _ _ s.box, h.lt _ _ h1, s.tm.lt.1, s.tm.lt.2⟩
theorem SdSt.get {Z : Nat → Prop} {h h' : H} {g mi tg tmi : Nat} {W N : Int} {ov : Bool} {S : Ent} {B M R : Int} {TS : List Wt} (s : SdSt h g mi tg tmi W N ov S B M R TS) (m : Ab.Mod Z h h') (h1 : ¬ Z g) (h2 : ¬ Z mi) (h3 : ¬ Z tg) (h4 : ¬ Z tmi) : SdSt h' g mi tg tmi W N ov S B M R TS := by
  obtain ⟨ms, k1, k2⟩ := s.map
  exact ⟨m.get s.box (.inl h1), ⟨ms, m.get k1 (.inl h2), k2⟩, s.asc, fun x hx => (s.ent x hx).get m, s.tm.get m h3 h4, s.sep⟩
theorem SdSt.old {h h' : H} {g mi tg tmi : Nat} {W N : Int} {ov : Bool} {S : Ent} {B M R : Int} {TS : List Wt} (s : SdSt h g mi tg tmi W N ov S B M R TS) (m : Ab.Mod none_ h h') : SdSt h' g mi tg tmi W N ov S B M R TS := s.get m (fun k => k) (fun k => k) (fun k => k) (fun k => k)
theorem SdSt.ro {h : H} {g mi tg tmi : Nat} {W N : Int} {ov : Bool} {S : Ent} {B M R : Int} {TS : List Wt} (s : SdSt h g mi tg tmi W N ov S B M R TS) {i : Nat} (h1 : g ≠ i) (h2 : mi ≠ i) (h3 : tg ≠ i) (h4 : tmi ≠ i) : SdSt (h.ro i) g mi tg tmi W N ov S B M R TS := by
  obtain ⟨ms, k1, k2⟩ := s.map
  exact ⟨by rw [H.ro_ne _ h1, s.box], ⟨ms, by rw [H.ro_ne _ h2, k1], k2⟩, s.asc, fun x hx => (s.ent x hx).ro i, s.tm.ro h3 h4, s.sep⟩
theorem SdSt.len {h : H} {g mi tg tmi : Nat} {W N : Int} {ov : Bool} {S : Ent} {B M R : Int} {TS : List Wt} (s : SdSt h g mi tg tmi W N ov S B M R TS) {ms : Ent} (h1 : Same ms S) : (mpE .i64 (encM slV ms)).length = S.length := by
  rw [mpE, List.length_map, encM_length, h1.length s.asc]
def NewSQ (W : Int) (h : H) (tg tmi : Nat) (B M R : Int) (TS : List Wt) (r : V) (h' : H) : Prop :=
  (okW W = false ∧ r = .tup [.ptr none, i64 1] ∧ h' = h) ∨ (okW W = true ∧ ∃ g mi, r = .tup [.ptr (some (g, 0)), i64 0] ∧ SdSt h' g mi tg tmi W 0 false [] B M R TS ∧ h.next ≤ g ∧ h.next ≤ mi ∧ Ab.Mod none_ h h')
theorem sNew {h : H} {tg tmi : Nat} {B M R : Int} {TS : List Wt} (t : TSt h tg tmi B M R TS) (W : Int) : ACalls Try.prog 41 [i64 W, .ptr (some (tg, 0))] h (fun r h' => NewSQ W h tg tmi B M R TS r h') := by
  have hlt := t.lt
  refine call_ Try.func41 rfl rfl (by kernel_rfl) ?_
  conv => whnf
  refine br_mk (fun ha => ?_) (fun ha => ?_)
  · conv => whnf
    have ha : W < 1 := by simpa using ha
    exact .inl ⟨by rw [okW, decide_eq_false (by omega)]; rfl, rfl, rfl⟩
  conv => whnf
  have ha : ¬ W < 1 := by simpa using ha
  refine br_mk (fun hb => ?_) (fun hb => ?_)
  · conv => whnf
    have hb : W > 16 := by simpa using hb
    exact .inl ⟨by rw [okW, decide_eq_false (show ¬ W ≤ 16 by omega), Bool.and_false], rfl, rfl⟩
  conv => whnf
  have hb : ¬ W > 16 := by simpa using hb
  have m1 := Mod.push none_ h (.map true [])
  have m2 := Mod.push none_ (h.push (.map true [])) (.row true 5 [.ptr (some (tg, 0)), i64 W, i64 0, .mp (some h.next), .bool false])
  refine .inr ⟨by rw [okW, decide_eq_true (show 1 ≤ W by omega), decide_eq_true (show W ≤ 16 by omega)]; rfl, h.next + 1, h.next, rfl, ⟨H.obj_push_new _ _, ⟨[], H.obj_push _ (H.obj_push_new _ _), List.Pairwise.nil, fun _ => rfl⟩, List.Pairwise.nil, (fun x hx => by cases hx), (t.old m1).old m2, by omega, by omega, by omega, by omega, by omega⟩, by omega, Nat.le_refl _, mod_none m1 m2⟩
theorem sOver {h : H} {g mi tg tmi : Nat} {W N : Int} {ov : Bool} {S : Ent} {B M R : Int} {TS : List Wt} (s : SdSt h g mi tg tmi W N ov S B M R TS) : ACalls Try.prog 82 [.ptr (some (g, 0))] h (fun r h' => h' = h ∧ r = .bool ov) := by
  refine call_ Try.func82 rfl rfl (by kernel_rfl) ?_
  conv => whnf
  refine ⟨_, Cell.mk s.box rfl, ?_⟩
  conv => whnf
  exact ⟨rfl, rfl⟩
theorem sOver0 (h : H) : ACalls Try.prog 82 [.ptr none] h (fun r h' => h' = h ∧ r = .bool true) := by
  refine call_ Try.func82 rfl rfl (by kernel_rfl) ?_
  conv => whnf
  exact ⟨rfl, rfl⟩
def roomV (W : Int) (ov : Bool) (n : Nat) : Int := if ov then 0 else W - n
theorem sRoom {h : H} {g mi tg tmi : Nat} {W N : Int} {ov : Bool} {S : Ent} {B M R : Int} {TS : List Wt} (s : SdSt h g mi tg tmi W N ov S B M R TS) (ok : okW W = true) (hS : S.length ≤ 100000) : ACalls Try.prog 52 [.ptr (some (g, 0))] h (fun r h' => h' = h ∧ r = i64 (roomV W ov S.length)) := by
  have hW : 1 ≤ W ∧ W ≤ 16 := by simpa [okW] using ok
  refine call_ Try.func52 rfl rfl (by kernel_rfl) ?_
  conv => whnf
  refine (sOver s).mono ?_
  rintro _ h1 ⟨eh, rfl⟩
  subst eh
  cases ov with
  | true =>
    conv => whnf
    exact ⟨rfl, rfl⟩
  | false =>
  conv => whnf
  refine ⟨[0, 1, 2, 3, 4, 5, 6, 7, 8, 9, 10], [0, 1, 3, 7, 0, 16, 48, 112, 240, 511, 1023], by kernel_rfl, ?_⟩
  conv => whnf
  refine ⟨_, Cell.mk s.box rfl, ?_⟩
  conv => whnf
  refine ⟨_, Cell.mk s.box rfl, ?_⟩
  conv => whnf
  obtain ⟨ms, k1, k2⟩ := s.map
  refine ⟨true, _, k1, ?_⟩
  conv => whnf
  refine ⟨rfl, ?_⟩
  rw [s.len k2, wrap_i64 (by omega) (by omega)]
  rfl
def AckQ (h : H) (g mi tg tmi : Nat) (W N : Int) (ov : Bool) (S : Ent) (B M R : Int) (TS : List Wt) (ack : Int) (r : V) (h' : H) : Prop :=
  (ack > N ∧ r = i64 0 ∧ SdSt h' g mi tg tmi W N ov S B M R TS ∧ Ab.Mod (two mi tmi) h h') ∨ (ack ≤ N ∧ r = i64 ((S.filter fun p => decide (p.1 < ack)).length : Int) ∧ SdSt h' g mi tg tmi W N ov (S.filter fun p => decide (ack ≤ p.1)) B M R (TS.filter fun p => decide (ack ≤ p.1)) ∧ Ab.Mod (two mi tmi) h h')
/-- in the round -/
structure AckI (h hh : H) (g mi tg tmi : Nat) (W N : Int) (ov : Bool) (S : Ent) (B M R : Int) (TS : List Wt) (ack : Int) (cl : Nat) (ms : Ent) (bs seen : List Nat) (dl : List Int) : Prop where
  box : hh.obj g = some (.row true 5 [.ptr (some (tg, 0)), i64 W, i64 N, .mp (some mi), .bool ov])
  mpb : hh.obj mi = some (.mapb (mpE .i64 (encM slV ms)) bs cl)
  itr : hh.obj h.next = some (.itr mi cl seen cl)
  len : bs.length = ms.length
  nd : bs.Nodup
  same : Same ms (S.filter fun p => decide (p.1 ∉ dl))
  seen : ∀ (p : Nat) (x : Int × Bd) (b : Nat), ms[p]? = some x → bs[p]? = some b → b ∈ seen → ack ≤ x.1
  tm : TSt hh tg tmi B M R (TS.filter fun p => decide (p.1 ∉ dl))
  dn : dl.Nodup
  dk : ∀ k ∈ dl, k ∈ keys S ∧ k < ack
  mod : Ab.Mod (two mi tmi) h hh
  tot : dl.length + ms.length = S.length
theorem filter_asc {β : Type} {S : List (Int × β)} (ha : AscS S) (P : Int × β → Bool) : AscS (S.filter P) := List.Pairwise.sublist (List.Sublist.map _ List.filter_sublist) ha
theorem filter_get {β : Type} {S : List (Int × β)} (ha : AscS S) (P : Int → Bool) (k : Int) : sget (S.filter fun p => P p.1) k = if P k then sget S k else none := by
  refine opt_ext (fun v => ?_)
  rw [sget_mem (filter_asc ha _).nodup, List.mem_filter]
  by_cases e : P k = true
  · rw [if_pos e, sget_mem ha.nodup]
    exact ⟨fun q => q.1, fun q => ⟨q, e⟩⟩
  · rw [if_neg e]
    exact ⟨fun q => absurd q.2 e, fun q => by cases q⟩
theorem filter_notin_del {β : Type} (S : List (Int × β)) (dl : List Int) (n : Int) : (S.filter fun p => decide (p.1 ∉ dl)).filter (fun p => p.1 != n) = S.filter fun p => decide (p.1 ∉ dl ++ [n]) := by
  rw [List.filter_filter]
  refine List.filter_congr (fun x _ => ?_)
  rw [Bool.eq_iff_iff]
  simp
  exact and_comm
theorem ack_all {S : Ent} (ha : AscS S) {ack : Int} {ms : Ent} {bs seen : List Nat} {dl : List Int} (hl : bs.length = ms.length) (hs : Same ms (S.filter fun p => decide (p.1 ∉ dl))) (hseen : ∀ (p : Nat) (x : Int × Bd) (b : Nat), ms[p]? = some x → bs[p]? = some b → b ∈ seen → ack ≤ x.1)
    (hd : ∀ k ∈ dl, k ∈ keys S ∧ k < ack) (hall : ∀ b ∈ bs, b ∈ seen) : ∀ k ∈ keys S, decide (k ∉ dl) = decide (ack ≤ k) := fun k hk => by
  refine decide_eq_decide.2 ⟨fun hn => ?_, fun hle hm => by have := (hd k hm).2; omega⟩
  obtain ⟨v, hv⟩ : ∃ v, sget S k = some v := by
    cases e : sget S k with
    | none => exact absurd hk (sget_none.1 e)
    | some v => exact ⟨v, rfl⟩
  have h1 : sget (S.filter fun p => decide (p.1 ∉ dl)) k = some v := by
    have := filter_get ha (fun k => decide (k ∉ dl)) k
    rw [this, if_pos (by simpa using hn), hv]
  rw [← hs.2, sget_mem hs.1] at h1
  obtain ⟨p, hp, e⟩ := List.getElem_of_mem h1
  have hb : p < bs.length := by omega
  exact hseen p (k, v) bs[p] (by rw [List.getElem?_eq_getElem hp, e]) (List.getElem?_eq_getElem hb) (hall _ (List.getElem_mem hb))
theorem ack_len {S : Ent} (ha : AscS S) {ack : Int} {dl : List Int} (hd : ∀ k ∈ dl, k ∈ keys S ∧ k < ack) (hn : dl.Nodup) (hall : ∀ k ∈ keys S, decide (k ∉ dl) = decide (ack ≤ k)) : dl.length = (S.filter fun p => decide (p.1 < ack)).length := by
  have h1 : (keys (S.filter fun p => decide (p.1 < ack))).Nodup := (filter_asc ha _).nodup
  have h2 : dl.Perm (keys (S.filter fun p => decide (p.1 < ack))) := by
    rw [List.perm_ext_iff_of_nodup hn h1]
    intro k
    constructor
    · intro hk
      obtain ⟨a, b⟩ := hd k hk
      obtain ⟨x, hx, rfl⟩ := List.mem_map.1 a
      exact List.mem_map.2 ⟨x, List.mem_filter.2 ⟨hx, by simpa using b⟩, rfl⟩
    · intro hk
      obtain ⟨x, hx, rfl⟩ := List.mem_map.1 hk
      obtain ⟨a, b⟩ := List.mem_filter.1 hx
      have := decide_eq_decide.1 (hall x.1 (List.mem_map.2 ⟨x, a, rfl⟩))
      have b : x.1 < ack := by simpa using b
      exact Decidable.by_contra (fun q => by have := this.1 q; omega)
  have := h2.length_eq
  rw [keys_length] at this
  exact this
end Go.Proofs.Ytoljllfbabahpaa
