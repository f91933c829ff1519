/- Senders: what each call tells, by what they hold. -/
import Derived.Test.YtoljllfbabahpaaU13
set_option linter.unusedVariables false
namespace Go.Proofs.Ytoljllfbabahpaa
open Go Go.Ab
theorem encM_flt {S : Ent} (P : Int → Bool) : (encM Prod.snd S).filter (fun p => P p.1) = encM Prod.snd (S.filter fun p => P p.1) := encM_filter Prod.snd P S
theorem SOk.lenT {v : SV} (o : SOk v) : v.TS.length ≤ v.C.length := by
  have h1 : (keys v.TS).length ≤ (keys v.C).length := List.Nodup.length_le_of_subset o.tasc.nodup (fun k hk => o.tk k hk)
  rw [keys_length, keys_length] at h1
  exact h1
theorem SOk.small {v : SV} (o : SOk v) : v.C.length ≤ 16 ∧ v.TS.length ≤ 16 := by
  have h1 := o.len
  have h2 := o.lenT
  have hW : 1 ≤ v.W ∧ v.W ≤ 16 := by simpa [okW] using o.ok
  omega
theorem cSendG {h : H} {d : SId} {v : SV} (s : SdC h d v) (o : SOk v) (hN : v.N ≤ 100000000) {now : Int} (hn0 : -1000000000 ≤ now) (hn1 : now ≤ 1000000000) {q : Option (Nat × Nat)} {m : Nat} {body : List Int} (nm : SlIs h q m false 1 (ints .u8 body)) (hq : ∀ h', Ab.Mod (one d.g) h h' → SlIs h' q m false 1 (ints .u8 body)) (hm : m ≤ 100000) :
    ACalls Try.prog 44 [.ptr (some (d.g, 0)), i64 now, .sl q m] h (fun r h' => r = .tup [i64 (sendV v now body).1.1, i64 (sendV v now body).1.2] ∧ SdC h' d (sendV v now body).2 ∧ Ab.Mod d.all h h') := by
  obtain ⟨S, st, hC⟩ := s
  have hl : v.C.length = S.length := by rw [← hC, encM_length]
  have hs := o.small
  refine (sSend st o.ok o.okt (by omega) o.n0 hN hn0 hn1 nm hq hm).mono ?_
  rintro r h' (⟨e, rfl, eh⟩ | ⟨e, e2, rfl, eh⟩ | ⟨e, e2, rfl, p', st', m'⟩)
  · subst eh
    have hv : sendV v now body = ((0, 6), v) := by rw [sendV, if_pos e]
    rw [hv]
    exact ⟨rfl, ⟨S, st, hC⟩, mod_refl _ _⟩
  · subst eh
    have hv : sendV v now body = ((0, 5), v) := by rw [sendV, if_neg (by rw [e]; simp), if_pos (by rw [hl]; exact e2)]
    rw [hv]
    exact ⟨rfl, ⟨S, st, hC⟩, mod_refl _ _⟩
  · have hv : sendV v now body = ((v.N, 0), { v with N := v.N + 1, C := insS v.C v.N body, TS := insS v.TS v.N (now + waitV v.B v.M 0, 0) }) := by rw [sendV, if_neg (by rw [e]; simp), if_neg (by rw [hl]; exact e2)]
    rw [hv]
    refine ⟨rfl, ⟨insS S v.N (p', body), ?_, ?_⟩, m'.mono (fun i _ k => ?_)⟩
    · rw [e]
      exact st'
    · show encM Prod.snd (insS S v.N (p', body)) = insS v.C v.N body
      rw [← hC]
      exact (encM_ins Prod.snd S v.N (p', body)).symm
    · rcases k with k | k | k
      · exact .inl k
      · exact .inr (.inl k)
      · exact .inr (.inr (.inr k))
theorem cSend {h : H} {d : SId} {v : SV} (s : SdC h d v) (o : SOk v) (hN : v.N ≤ 100000000) {now : Int} (hn0 : -1000000000 ≤ now) (hn1 : now ≤ 1000000000) {q : Option (Nat × Nat)} {m : Nat} {body : List Int} (nm : SlIs h q m false 1 (ints .u8 body)) (hq : ∀ i o, q = some (i, o) → i ≠ d.g) (hm : m ≤ 100000) :
    ACalls Try.prog 44 [.ptr (some (d.g, 0)), i64 now, .sl q m] h (fun r h' => r = .tup [i64 (sendV v now body).1.1, i64 (sendV v now body).1.2] ∧ SdC h' d (sendV v now body).2 ∧ Ab.Mod d.all h h') :=
  cSendG s o hN hn0 hn1 nm (fun h' m => nm.get m (fun i o e => .inl (hq i o e))) hm
theorem cSendR {h : H} {d : SId} {v : SV} (s : SdC h d v) (o : SOk v) (hN : v.N ≤ 100000000) {now : Int} (hn0 : -1000000000 ≤ now) (hn1 : now ≤ 1000000000) {q : Option (Nat × Nat)} {m : Nat} {body : List Int} (nm : RoSl h q m 1 (ints .u8 body)) (hm : m ≤ 100000) :
    ACalls Try.prog 44 [.ptr (some (d.g, 0)), i64 now, .sl q m] h (fun r h' => r = .tup [i64 (sendV v now body).1.1, i64 (sendV v now body).1.2] ∧ SdC h' d (sendV v now body).2 ∧ Ab.Mod d.all h h') :=
  cSendG s o hN hn0 hn1 nm.is (fun h' m => (nm.get m).is) hm
theorem cAck {h : H} {d : SId} {v : SV} (s : SdC h d v) (o : SOk v) (ack : Int) :
    ACalls Try.prog 46 [.ptr (some (d.g, 0)), i64 ack] h (fun r h' => r = i64 (ackV v ack).1 ∧ SdC h' d (ackV v ack).2 ∧ Ab.Mod d.all h h') := by
  obtain ⟨S, st, hC⟩ := s
  have hl : v.C.length = S.length := by rw [← hC, encM_length]
  have hs := o.small
  have hk : keys v.C = keys S := by rw [← hC]; exact encM_keys Prod.snd S
  have mm : ∀ {h' : H}, Ab.Mod (two d.mi d.tmi) h h' → Ab.Mod d.all h h' := fun m => m.mono (fun i _ k => k.elim (fun k => .inr (.inl k)) (fun k => .inr (.inr (.inr k))))
  refine (sAcked st (by omega) (fun k hk2 => by rw [← hk]; exact o.tk k hk2) ack).mono ?_
  rintro r h' (⟨e, rfl, st', m'⟩ | ⟨e, rfl, st', m'⟩)
  · have hv : ackV v ack = (0, v) := by rw [ackV, if_pos e]
    rw [hv]
    exact ⟨rfl, ⟨S, st', hC⟩, mm m'⟩
  · have hv : ackV v ack = (((v.C.filter fun p => decide (p.1 < ack)).length : Int), { v with C := v.C.filter fun p => decide (ack ≤ p.1), TS := v.TS.filter fun p => decide (ack ≤ p.1) }) := by rw [ackV, if_neg (by omega)]
    rw [hv]
    refine ⟨?_, ⟨_, st', ?_⟩, mm m'⟩
    · have : (v.C.filter fun p => decide (p.1 < ack)).length = (S.filter fun p => decide (p.1 < ack)).length := by
        rw [← hC, encM_flt (fun k => decide (k < ack)), encM_length]
      rw [this]
    · show encM Prod.snd (S.filter fun p => decide (ack ≤ p.1)) = v.C.filter fun p => decide (ack ≤ p.1)
      rw [← hC]
      exact (encM_flt (fun k => decide (ack ≤ k))).symm
theorem cRoom {h : H} {d : SId} {v : SV} (s : SdC h d v) (o : SOk v) : ACalls Try.prog 52 [.ptr (some (d.g, 0))] h (fun r h' => h' = h ∧ r = i64 (roomV v.W v.ov v.C.length)) := by
  obtain ⟨S, st, hC⟩ := s
  have hl : v.C.length = S.length := by rw [← hC, encM_length]
  have hs := o.small
  rw [hl]
  exact sRoom st o.ok (by omega)
theorem cSeq {h : H} {d : SId} {v : SV} (s : SdC h d v) : ACalls Try.prog 54 [.ptr (some (d.g, 0))] h (fun r h' => h' = h ∧ r = i64 v.N) := by
  obtain ⟨S, st, hC⟩ := s
  exact sSeq st
theorem cOver {h : H} {d : SId} {v : SV} (s : SdC h d v) : ACalls Try.prog 82 [.ptr (some (d.g, 0))] h (fun r h' => h' = h ∧ r = .bool v.ov) := by
  obtain ⟨S, st, hC⟩ := s
  exact sOver st
theorem cBody {h : H} {d : SId} {v : SV} (s : SdC h d v) (o : SOk v) (seq : Int) : ACalls Try.prog 50 [.ptr (some (d.g, 0)), i64 seq] h (BodyQ h v.C seq) := by
  obtain ⟨S, st, hC⟩ := s
  rw [← hC]
  refine sBody st (fun x hx => ?_) seq
  exact o.bl (x.1, x.2.2) (by rw [← hC]; exact List.mem_map.2 ⟨x, hx, rfl⟩)
theorem SdC.tmr {h : H} {d : SId} {v : SV} (s : SdC h d v) : TSt h d.tg d.tmi v.B v.M v.R v.TS := by
  obtain ⟨S, st, _⟩ := s
  exact st.tm
theorem SdC.cell0 {h : H} {d : SId} {v : SV} (s : SdC h d v) : Cell h d.g 0 (.ptr (some (d.tg, 0))) := by
  obtain ⟨S, st, _⟩ := s
  exact Cell.mk st.box rfl
theorem cAgain {h : H} {d : SId} {v : SV} (s : SdC h d v) (o : SOk v) {now : Int} (hn0 : -1000000000 ≤ now) (hn1 : now ≤ 1000000000) :
    ACalls Try.prog 48 [.ptr (some (d.g, 0)), i64 now] h (fun r h' => ∃ q, r = .tup [.sl q (againV v now).1.1.length, i64 (againV v now).1.2] ∧ RoSl h' q (againV v now).1.1.length 1 (ints .i64 (againV v now).1.1) ∧ SdC h' d (againV v now).2 ∧ Ab.Mod d.all h h') := by
  have hs := o.small
  refine call_ Try.func48 rfl rfl (by kernel_rfl) ?_
  conv => whnf
  refine (cOver s).mono ?_
  rintro _ h1 ⟨eh, rfl⟩
  subst eh
  cases hov : v.ov with
  | true =>
    conv => whnf
    have hv : againV v now = (([], 6), v) := by rw [againV, if_pos hov]
    rw [hv]
    exact ⟨none, rfl, RoSl.nil _ _ _, s, mod_refl _ _⟩
  | false =>
  conv => whnf
  refine ⟨_, s.cell0, ?_⟩
  conv => whnf
  refine (due24r s.tmr o.okt (by omega) o.tn hn0 hn1 _ _ _ rfl rfl rfl).mono ?_
  rintro _ h2 ⟨qa, qo, rfl, ra, ro, t2, m2⟩
  obtain ⟨S, st, hC⟩ := s
  have st2 := st.tmr t2 m2
  conv => whnf
  refine ⟨_, rfl, ?_⟩
  conv => whnf
  refine ⟨_, rfl, ?_⟩
  conv => whnf
  refine br_mk (fun ha => ?_) (fun ha => ?_)
  · have ha : ovS v.R now v.TS ≠ [] := by
      intro e
      rw [e] at ha
      simp at ha
    have hv : againV v now = (([], 6), { v with ov := true, TS := rsS v.B v.M v.R now v.TS }) := by rw [againV, if_neg (by rw [hov]; simp), if_neg ha]
    conv => whnf
    refine ⟨_, _, st2.box, Nat.le_of_ble_eq_true rfl, ?_⟩
    conv => whnf
    rw [hv]
    obtain ⟨s3, m3⟩ := st2.next v.N true
    exact ⟨none, rfl, RoSl.nil _ _ _, ⟨S, s3, hC⟩, m2.trans' m3 (fun _ _ k => .inr (.inr (.inr k))) (fun _ _ k => .inl k)⟩
  · have ha : ovS v.R now v.TS = [] := by
      cases e : ovS v.R now v.TS with
      | nil => rfl
      | cons x l =>
        rw [e] at ha
        have : (((x :: l).length : Nat) : Int) > 0 := by
          rw [List.length_cons]
          omega
        rw [decide_eq_true this] at ha
        cases ha
    have hv : againV v now = ((agS v.R now v.TS, 0), { v with TS := rsS v.B v.M v.R now v.TS }) := by rw [againV, if_neg (by rw [hov]; simp), if_pos ha]
    conv => whnf
    rw [hv]
    refine ⟨qa, rfl, ra, ⟨S, st2, hC⟩, m2.mono (fun _ _ k => .inr (.inr (.inr k)))⟩
theorem cLen {h : H} {d : SId} {v : SV} (s : SdC h d v) : ACalls Try.prog 55 [.ptr (some (d.tg, 0))] h (fun r h' => h' = h ∧ r = i64 v.TS.length) := len25 s.tmr
theorem ack0 (h : H) (ack : Int) : ACalls Try.prog 46 [.ptr none, i64 ack] h (fun r h' => h' = h ∧ r = i64 0) := by
  refine call_ Try.func46 rfl rfl (by kernel_rfl) ?_
  conv => whnf
  exact ⟨rfl, rfl⟩
theorem send0 (h : H) (now : Int) (q : Option (Nat × Nat)) (m : Nat) : ACalls Try.prog 44 [.ptr none, i64 now, .sl q m] h (fun r h' => h' = h ∧ r = .tup [i64 0, i64 6]) := by
  refine call_ Try.func44 rfl rfl (by kernel_rfl) ?_
  conv => whnf
  refine (sOver0 h).mono ?_
  rintro _ h1 ⟨eh, rfl⟩
  subst eh
  conv => whnf
  exact ⟨rfl, rfl⟩
theorem newS_yes {W : Int} {h h' : H} {tg tmi : Nat} {B M R : Int} {r : V} (q : NewSQ W h tg tmi B M R [] r h') (ok : okW W = true) : ∃ d : SId, d.tg = tg ∧ d.tmi = tmi ∧ r = .tup [.ptr (some (d.g, 0)), i64 0] ∧ SdC h' d ⟨W, 0, false, [], B, M, R, []⟩ ∧ h.next ≤ d.g ∧ h.next ≤ d.mi ∧ Ab.Mod none_ h h' := by
  rcases q with ⟨e, _⟩ | ⟨_, g, mi, rfl, st, a, b, c⟩
  · rw [ok] at e
    cases e
  · exact ⟨⟨g, mi, tg, tmi⟩, rfl, rfl, rfl, ⟨[], st, rfl⟩, a, b, c⟩
theorem new_ok {W B M R : Int} (ok : okW W = true) (okt : okT B M R = true) : SOk ⟨W, 0, false, [], B, M, R, []⟩ := by
  have hW : 1 ≤ W ∧ W ≤ 16 := by simpa [okW] using ok
  exact ⟨ok, okt, Int.le_refl _, List.Pairwise.nil, (fun k hk => by cases hk), (by show ((0 : Nat) : Int) ≤ W; omega), List.Pairwise.nil, (fun k hk => by cases hk), (fun x hx => by cases hx), (fun x hx => by cases hx)⟩
end Go.Proofs.Ytoljllfbabahpaa
