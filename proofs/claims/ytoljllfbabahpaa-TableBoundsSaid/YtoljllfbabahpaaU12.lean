/- Senders: what is acked. -/
import Derived.Test.YtoljllfbabahpaaU11
set_option linter.unusedVariables false
namespace Go.Proofs.Ytoljllfbabahpaa
open Go Go.Ab
/-- how many entries are left to come -/
def leftN (mi j : Nat) (h : H) : Nat := match h.obj mi, h.obj j with
  | some (.mapb _ bs _), some (.itr _ _ seen _) => (bs.filter fun x => decide (x ∉ seen)).length
  | _, _ => 0
theorem leftN_eq {mi j : Nat} {h : H} {es : List (V × V)} {bs seen : List Nat} {cl a b c : Nat} (h1 : h.obj mi = some (.mapb es bs cl)) (h2 : h.obj j = some (.itr a b seen c)) : leftN mi j h = (bs.filter fun x => decide (x ∉ seen)).length := by
  unfold leftN
  rw [h1, h2]
theorem sdel_length {β : Type} {n : Int} : ∀ {ms : List (Int × β)} {p : Nat} {v : β}, ms[p]? = some (n, v) → (sdel ms n).length + 1 = ms.length
  | [], p, v, h => by simp at h
  | y :: ms, p, v, h => by
    have e2 : sdel (y :: ms) n = if y.1 = n then ms else y :: sdel ms n := rfl
    rw [e2]
    by_cases e : y.1 = n
    · rw [if_pos e]
      rfl
    · rw [if_neg e]
      cases p with
      | zero =>
        simp at h
        subst h
        exact absurd rfl e
      | succ p =>
        have := sdel_length (ms := ms) (p := p) (v := v) (by simpa using h)
        simpa using this
theorem encM_at {β γ : Type} {f : β → γ} {ms : List (Int × β)} {p : Nat} {n : Int} {v : γ} (h : (encM f ms)[p]? = some (n, v)) : ∃ w, ms[p]? = some (n, w) ∧ f w = v := by
  unfold encM at h
  rw [List.getElem?_map] at h
  cases e : ms[p]? with
  | none => rw [e] at h; cases h
  | some x =>
    rw [e] at h
    injection h with h
    injection h with h1 h2
    subst h1
    exact ⟨x.2, rfl, h2⟩
set_option maxHeartbeats 1000000 in
theorem sAcked {h : H} {g mi tg tmi : Nat} {W N : Int} {ov : Bool} {S : Ent} {B M R : Int} {TS : List Wt} (s : SdSt h g mi tg tmi W N ov S B M R TS) (hS : S.length ≤ 1000) (hT : ∀ k ∈ keys TS, k ∈ keys S) (ack : Int) :
    ACalls Try.prog 46 [.ptr (some (g, 0)), i64 ack] h (AckQ h g mi tg tmi W N ov S B M R TS ack) := by
  have hlt := s.lt
  obtain ⟨p1, p2, p3, p4, p5⟩ := s.sep
  have hTf : ∀ (hh : H), TSt hh tg tmi B M R TS → TSt hh tg tmi B M R (TS.filter fun p => decide (p.1 ∉ ([] : List Int))) := fun hh t => by
    rw [List.filter_eq_self.2 (fun x _ => by simp)]
    exact t
  refine ACalls.ro (Q := fun r h' => (ack > N ∧ r = i64 0 ∧ h' = h) ∨ (ack ≤ N ∧ ∃ cl ms bs seen dl, r = i64 (dl.length : Int) ∧ AckI h h' g mi tg tmi W N ov S B M R TS ack cl ms bs seen dl ∧ ∀ b ∈ bs, b ∈ seen)) ?_ ?_
  · refine call_ Try.func46 rfl rfl (by kernel_rfl) ?_
    conv => whnf
    refine ⟨_, Cell.mk s.box rfl, ?_⟩
    conv => whnf
    refine br_mk (fun ha => ?_) (fun ha => ?_)
    · conv => whnf
      exact .inl ⟨by simpa using ha, rfl, rfl⟩
    conv => whnf
    have ha : ack ≤ N := by
      have : ¬ ack > N := by simpa using ha
      omega
    refine ⟨_, Cell.mk s.box rfl, ?_⟩
    conv => whnf
    obtain ⟨ms, k1, k2⟩ := s.map
    refine ⟨encM slV ms, k1, fun bs cl b1 b2 b3 => ?_⟩
    conv => whnf
    have b1 : bs.length = ms.length := by rw [b1, encM_length]
    have mS : Ab.Mod (one mi) h (h.set mi (.mapb (mpE .i64 (encM slV ms)) bs cl)) := Mod.set rfl k1 rfl
    have mP := Mod.push none_ (h.set mi (.mapb (mpE .i64 (encM slV ms)) bs cl)) (.itr mi cl [] cl)
    have I0 : AckI h ((h.set mi (.mapb (mpE .i64 (encM slV ms)) bs cl)).push (.itr mi cl [] cl)) g mi tg tmi W N ov S B M R TS ack cl ms bs [] [] := by
      refine ⟨mP.get (mS.get s.box (.inl (fun k => p1 (Eq.symm k)))) (.inl (fun k => k)), mP.get (H.obj_set_same k1) (.inl (fun k => k)), H.obj_push_new _ _, b1, b2, ?_, (fun p x b _ _ hm => by cases hm), hTf _ ((s.tm.get mS p4 p5).old mP), List.nodup_nil, (fun k hk => by cases hk), mS.trans' mP (fun _ _ k => .inl k) (fun _ _ k => k.elim), ?_⟩
      · rw [List.filter_eq_self.2 (fun x _ => by simp)]
        exact k2
      · rw [k2.length s.asc]
        exact Nat.zero_add _
    refine ⟨fun env hh => ∃ (ms2 : Ent) (bs2 seen : List Nat) (dl : List Int) (c : Int), c = dl.length ∧ AckI h hh g mi tg tmi W N ov S B M R TS ack cl ms2 bs2 seen dl ∧ env = [(20, .ptr (some (h.next, 0))), (4, i64 c), (0, .ptr (some (g, 0))), (1, i64 ack)],
      fun _ hh => leftN mi h.next hh, ⟨_, Forget.cons rfl (Forget.cons rfl (Forget.cons rfl (Forget.cons rfl (Forget.nil _)))), ms, bs, [], [], 0, rfl, I0, rfl⟩, ?_⟩
    clear I0 mS mP b1 b2 b3 k1 k2
    rintro _ hh ⟨ms2, bs2, seen, dl, c, rfl, I, rfl⟩
    conv => whnf
    have hmj : mi ≠ h.next := by omega
    have hgj : g ≠ h.next := by omega
    refine ⟨mi, cl, seen, .i64, encM slV ms2, bs2, I.itr, I.mpb, fun p n v b e1 e2 e3 => ?_, fun e => ?_⟩
    rotate_left
    · conv => whnf
      refine ⟨_, rfl, ?_⟩
      conv => whnf
      exact .inr ⟨ha, cl, ms2, bs2, seen, dl, rfl, I, e⟩
    obtain ⟨v0, e1', rfl⟩ := encM_at e1
    have mJ : Ab.Mod (one h.next) hh (hh.set h.next (.itr mi cl (seen ++ [b]) cl)) := Mod.set rfl I.itr rfl
    have q1 : (hh.set h.next (.itr mi cl (seen ++ [b]) cl)).obj h.next = some (.itr mi cl (seen ++ [b]) cl) := H.obj_set_same I.itr
    have q2 := mJ.get I.mpb (.inl hmj)
    have q3 := mJ.get I.box (.inl hgj)
    have q4 := I.tm.get mJ (by show ¬ tg = h.next; omega) (by show ¬ tmi = h.next; omega)
    have q5 : Ab.Mod (two mi tmi) h (hh.set h.next (.itr mi cl (seen ++ [b]) cl)) := I.mod.trans' mJ (fun _ _ k => k) (fun i hi k => by
      have : i = h.next := k
      omega)
    have mu0 := leftN_eq I.mpb I.itr
    have hbm : b ∈ bs2 := List.mem_of_getElem? e2
    conv => whnf
    refine ⟨_, rfl, ?_⟩
    conv => whnf
    refine ⟨mi, cl, seen, .i64, encM slV ms2, bs2, p, n, slV v0, b, q1, q2, e2, e1, ?_⟩
    conv => whnf
    refine ⟨_, rfl, ?_⟩
    conv => whnf
    refine br_mk (fun hx => ?_) (fun hx => ?_)
    rotate_left
    · conv => whnf
      have hx : ¬ n < ack := by simpa using hx
      refine ⟨_, Forget.cons rfl (Forget.cons rfl (Forget.cons rfl (Forget.cons rfl (Forget.nil _)))), ⟨ms2, bs2, seen ++ [b], dl, _, rfl, ⟨q3, q2, q1, I.len, I.nd, I.same, fun p' x b' a1 a2 a3 => ?_, q4, I.dn, I.dk, q5, I.tot⟩, rfl⟩, ?_⟩
      · rcases List.mem_append.1 a3 with a3 | a3
        · exact I.seen p' x b' a1 a2 a3
        · have : b' = b := by simpa using a3
          subst this
          have hp1 := (List.getElem?_eq_some_iff.1 e2).1
          have : p' = p := ((List.getElem?_inj hp1 I.nd).1 (by rw [e2, a2])).symm
          subst this
          rw [e1'] at a1
          injection a1 with a1
          subst a1
          show ack ≤ n
          omega
      · show leftN mi h.next _ < leftN mi h.next hh
        rw [mu0, leftN_eq q2 q1]
        exact left_lt (List.Sublist.refl _) hbm e3
    · conv => whnf
      have hx : n < ack := by simpa using hx
      have hkS : n ∈ keys S ∧ n ∉ dl := by
        have h1 : sget ms2 n = some v0 := (sget_mem I.same.1).2 (List.mem_of_getElem? e1')
        rw [I.same.2, filter_get s.asc (fun k => decide (k ∉ dl)) n] at h1
        by_cases hd : n ∈ dl
        · simp [hd] at h1
        · rw [if_pos (by simpa using hd)] at h1
          exact ⟨Decidable.by_contra (fun q => by rw [sget_none.2 q] at h1; cases h1), hd⟩
      have hlen := sdel_length e1'
      have htot := I.tot
      refine ⟨_, Cell.mk q3 rfl, ?_⟩
      conv => whnf
      obtain ⟨lr, nr⟩ := laid_row (hh.set h.next (.itr mi cl (seen ++ [b]) cl)) [n]
      have hnx : h.next ≤ hh.next := I.mod.next
      refine (stop40 (q4.old nr) lr (fun i o e => by
        injection e with e
        injection e with e _
        have : (hh.set h.next (.itr mi cl (seen ++ [b]) cl)).next = hh.next := rfl
        omega) (by simp)).mono ?_
      rintro _ h5 ⟨t5, m5⟩
      have t5 : TSt h5 tg tmi B M R (delS (TS.filter fun p => decide (p.1 ∉ dl)) n) := t5
      rw [delS, filter_notin_del] at t5
      have r1 := m5.get (nr.get q1 (.inl (fun k => k))) (.inl (fun k => by have : h.next = tmi := k; omega))
      have r2 := m5.get (nr.get q2 (.inl (fun k => k))) (.inl (fun k => p5 (Eq.symm k)))
      have r3 := m5.get (nr.get q3 (.inl (fun k => k))) (.inl (fun k => p3 (Eq.symm k)))
      have r5 := (q5.trans' nr (S2 := two mi tmi) (fun _ _ k => k) (fun _ _ k => k.elim)).trans' m5 (S2 := two mi tmi) (fun _ _ k => k) (fun _ _ k => .inr k)
      conv => whnf
      refine ⟨_, Cell.mk r3 rfl, ?_⟩
      conv => whnf
      refine .inr ⟨encM slV ms2, bs2, cl, r2, ?_⟩
      conv => whnf
      have em := mdel_enc slV n ms2
      rw [em]
      obtain ⟨z1, z2, z3, z4⟩ := bdel_spec slV n ms2 bs2 I.len I.nd I.same.1 p v0 b e1' e2
      have mD : Ab.Mod (one mi) h5 (h5.set mi (.mapb (mpE .i64 (encM slV (sdel ms2 n))) (bdel (encM slV ms2) bs2 n) cl)) := Mod.set rfl r2 rfl
      have hwi : IntKind.i64.wrap ((dl.length : Int) + 1) = (((dl ++ [n]).length : Nat) : Int) := by
        rw [wrap_i64 (by omega) (by omega), List.length_append]
        rfl
      rw [hwi]
      have w2 : (h5.set mi (.mapb (mpE .i64 (encM slV (sdel ms2 n))) (bdel (encM slV ms2) bs2 n) cl)).obj mi = some (.mapb (mpE .i64 (encM slV (sdel ms2 n))) (bdel (encM slV ms2) bs2 n) cl) := H.obj_set_same r2
      have w1 := mD.get r1 (.inl (fun k => hmj (Eq.symm k)))
      refine ⟨_, Forget.cons rfl (Forget.cons rfl (Forget.cons rfl (Forget.cons rfl (Forget.nil _)))), ⟨sdel ms2 n, bdel (encM slV ms2) bs2 n, seen ++ [b], dl ++ [n], _, rfl, ⟨mD.get r3 (.inl (fun k => p1 (Eq.symm k))), w2, w1, z1, I.nd.sublist z3, ?_, fun p' x b' a1 a2 a3 => ?_, t5.get mD p4 p5, ?_, fun k hk => ?_, r5.trans' mD (S2 := two mi tmi) (fun _ _ k => k) (fun _ _ k => .inl k), ?_⟩, rfl⟩, ?_⟩
      · refine I.same.del n (fun k => ?_)
        rw [filter_get s.asc (fun k => decide (k ∉ dl ++ [n])) k, filter_get s.asc (fun k => decide (k ∉ dl)) k]
        by_cases e : k = n
        · subst e
          simp
        · simp [e]
      · obtain ⟨q, u1, u2, u3⟩ := z2 p' x b' a1 a2
        rcases List.mem_append.1 a3 with a3 | a3
        · exact I.seen q x b' u1 u2 a3
        · exact absurd (by simpa using a3) u3
      · rw [List.nodup_append]
        refine ⟨I.dn, by simp, fun x hx2 y hy e => ?_⟩
        have : y = n := by simpa using hy
        subst this
        subst e
        exact hkS.2 hx2
      · rcases List.mem_append.1 hk with hk | hk
        · exact I.dk k hk
        · have : k = n := by simpa using hk
          subst this
          exact ⟨hkS.1, hx⟩
      · rw [List.length_append]
        show dl.length + 1 + _ = _
        omega
      · show leftN mi h.next _ < leftN mi h.next hh
        rw [mu0, leftN_eq w2 w1]
        exact left_lt z3 hbm e3
  · rintro r h' (⟨ha, rfl, eh⟩ | ⟨ha, cl, ms, bs, seen, dl, rfl, I, hall⟩)
    · subst eh
      exact ⟨h'.next, .inl ⟨ha, rfl, s.ro (by omega) (by omega) (by omega) (by omega), (mod_refl _ _).ro_new (Nat.le_refl _)⟩⟩
    · refine ⟨mi, .inr ⟨ha, ?_, ⟨?_, ⟨ms, H.ro_mapb I.mpb, ?_⟩, filter_asc s.asc _, fun x hx => ?_, ?_, s.sep⟩, I.mod.ro_in (.inl rfl) (fun ob hob => ?_)⟩⟩
      all_goals have hall2 := ack_all s.asc I.len I.same I.seen I.dk hall
      · rw [ack_len s.asc I.dk I.dn hall2]
      · rw [H.ro_ne _ (fun e => p1 e.symm), I.box]
      · have e : (S.filter fun p => decide (ack ≤ p.1)) = S.filter fun p => decide (p.1 ∉ dl) := List.filter_congr (fun x hx => (hall2 x.1 (List.mem_map.2 ⟨x, hx, rfl⟩)).symm)
        rw [e]
        exact I.same
      · exact ((s.ent x (List.mem_filter.1 hx).1).get I.mod).ro mi
      · have e : (TS.filter fun p => decide (ack ≤ p.1)) = TS.filter fun p => decide (p.1 ∉ dl) := List.filter_congr (fun x hx => (hall2 x.1 (hT x.1 (List.mem_map.2 ⟨x, hx, rfl⟩))).symm)
        rw [e]
        exact I.tm.ro p4 p5
      · obtain ⟨ms0, k1, _⟩ := s.map
        rw [k1] at hob
        injection hob with hob
        subst hob
        rfl
end Go.Proofs.Ytoljllfbabahpaa
