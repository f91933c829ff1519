/- Senders: the document's: what is acked, what comes again; by what they hold. -/
import Derived.Test.YtoljllfbabahpaaU21
import Derived.Test.YtoljllfbabahpaaU16
set_option linter.unusedVariables false
namespace Go.Proofs.Ytoljllfbabahpaa
open Go Go.Ab
theorem fold_del (l : List Int) : ∀ TS : List Wt, l.foldl delS TS = TS.filter fun p => decide (p.1 ∉ l) := by
  induction l with
  | nil =>
    intro TS
    exact (List.filter_eq_self.2 (fun x _ => by simp)).symm
  | cons n l ih =>
    intro TS
    rw [List.foldl_cons, ih, delS, List.filter_filter]
    refine List.filter_congr (fun x _ => ?_)
    rw [Bool.eq_iff_iff]
    simp
    exact and_comm
theorem asc_drop {β : Type} {S : List (Int × β)} (ha : AscS S) {ack : Int} {k : Nat} (hk : k ≤ S.length) (h1 : ∀ x ∈ S.take k, x.1 < ack) (h2 : k = S.length ∨ ∃ hk : k < S.length, ¬ S[k].1 < ack) : S.drop k = (S.filter fun p => decide (ack ≤ p.1)) ∧ k = (S.filter fun p => decide (p.1 < ack)).length := by
  have hd : ∀ x ∈ S.drop k, ack ≤ x.1 := fun x hx => by
    rcases h2 with rfl | ⟨hk2, h2⟩
    · rw [List.drop_length] at hx
      cases hx
    · rw [List.drop_eq_getElem_cons hk2] at hx
      rcases List.mem_cons.1 hx with rfl | hx
      · omega
      · have ha2 := ha
        rw [← List.take_append_drop k S, List.drop_eq_getElem_cons hk2] at ha2
        have := (asc_mid ha2).2 x hx
        omega
  constructor
  · conv => rhs; rw [← List.take_append_drop k S, List.filter_append]
    rw [List.filter_eq_nil_iff.2 (fun x hx => by have := h1 x hx; simp; omega), List.filter_eq_self.2 (fun x hx => by have := hd x hx; simpa using this), List.nil_append]
  · have : (S.filter fun p => decide (p.1 < ack)) = S.take k := by
      conv => lhs; rw [← List.take_append_drop k S, List.filter_append]
      rw [List.filter_eq_self.2 (fun x hx => by have := h1 x hx; simpa using this), List.filter_eq_nil_iff.2 (fun x hx => by have := hd x hx; simp; omega), List.append_nil]
    rw [this, List.length_take, Nat.min_eq_left hk]
def RAckQ (h : H) (g tg : Nat) (W N : Int) (ov : Bool) (S : Ent) (B M R : Int) (TS : List Wt) (ack : Int) (r : V) (h' : H) : Prop :=
  (ack > N ∧ r = i64 0 ∧ h' = h) ∨ (ack ≤ N ∧ r = i64 ((S.filter fun p => decide (p.1 < ack)).length : Int) ∧ RSd h' g tg W N ov (S.filter fun p => decide (ack ≤ p.1)) B M R (TS.filter fun p => decide (ack ≤ p.1)) ∧ Ab.Mod (two g tg) h h')
set_option maxHeartbeats 1000000 in
theorem rAcked {h : H} {g tg : Nat} {W N : Int} {ov : Bool} {S : Ent} {B M R : Int} {TS : List Wt} (s : RSd h g tg W N ov S B M R TS) (hasc : AscS S) (hS : S.length ≤ 100000) (hTS : TS.length ≤ 100000) (hT : ∀ k ∈ keys TS, k ∈ keys S) (ack : Int) :
    ACalls Try.prog 47 [.ptr (some (g, 0)), i64 ack] h (RAckQ h g tg W N ov S B M R TS ack) := by
  have hlt := s.lt
  obtain ⟨⟨p, hb, hr⟩, hent, htm, hsep⟩ := s
  refine call_ Try.func47 rfl rfl (by kernel_rfl) ?_
  conv => whnf
  refine ⟨_, Cell.mk hb rfl, ?_⟩
  conv => whnf
  refine br_mk (fun ha => ?_) (fun ha => ?_)
  · conv => whnf
    exact .inl ⟨by simpa using ha, rfl, rfl⟩
  have ha : ack ≤ N := by
    have : ¬ ack > N := by simpa using ha
    omega
  conv => whnf
  refine ⟨fun env hh => ∃ (k : Nat) (z : Int), k ≤ S.length ∧ z = k ∧ hh.obj g = some (.row true 5 [.ptr (some (tg, 0)), i64 W, i64 N, .sl (slp p (k * 2)) (S.length - k), .bool ov]) ∧ RSt hh tg B M R ((keys (S.take k)).foldl delS TS) ∧ (∀ x ∈ S.take k, x.1 < ack) ∧ Ab.Mod (two g tg) h hh ∧ env = [(5, i64 z), (0, .ptr (some (g, 0))), (1, i64 ack)],
    fun env _ => match get env 5 with
      | .int _ z => (S.length - z).toNat
      | _ => 0, ⟨_, Forget.cons rfl (Forget.cons rfl (Forget.cons rfl (Forget.nil _))), 0, _, Nat.zero_le _, rfl, by rw [Nat.zero_mul, slp_zero, Nat.sub_zero]; exact hb, htm, (fun x hx => by simp at hx), mod_refl _ _, rfl⟩, ?_⟩
  rintro _ hh ⟨k, z, hk, rfl, bx, st, hall, mo, rfl⟩
  conv => whnf
  refine ⟨_, Cell.mk bx rfl, ?_⟩
  conv => whnf
  have done : (k = S.length ∨ ∃ hk : k < S.length, ¬ S[k].1 < ack) → RAckQ h g tg W N ov S B M R TS ack (i64 (k : Int)) hh := fun h2 => by
    obtain ⟨d1, d2⟩ := asc_drop hasc hk hall h2
    refine .inr ⟨ha, by rw [← d2], ⟨⟨slp p (k * 2), ?_, ?_⟩, fun x hx => (hent x (List.mem_filter.1 hx).1).get mo, ?_, hsep⟩, mo⟩
    · rw [← d1, List.length_drop]
      exact bx
    · rw [← d1]
      exact ro_sub (hr.get mo) hk
    · rw [fold_del] at st
      have e : (TS.filter fun p => decide (ack ≤ p.1)) = TS.filter fun p => decide (p.1 ∉ keys (S.take k)) := List.filter_congr (fun x hx => by
        have hxs := hT x.1 (List.mem_map.2 ⟨x, hx, rfl⟩)
        refine decide_eq_decide.2 ⟨fun hle hm => ?_, fun hn => ?_⟩
        · obtain ⟨y, hy, e⟩ := List.mem_map.1 hm
          have := hall y hy
          omega
        · have hsp : x.1 ∈ keys (S.take k ++ S.drop k) := by rw [List.take_append_drop]; exact hxs
          rw [keys_append] at hsp
          rcases List.mem_append.1 hsp with q | q
          · exact absurd q hn
          · rw [d1] at q
            exact (by simpa using (mem_flt (P := fun k => decide (ack ≤ k))).1 q : x.1 ∈ keys S ∧ ack ≤ x.1).2)
      rw [e]
      exact st
  refine br_mk (fun hy => ?_) (fun hy => ?_)
  rotate_left
  · conv => whnf
    have hy : ¬ k < S.length := by
      have : ¬ ((S.length - k : Nat) : Int) > 0 := by simpa using hy
      omega
    exact done (.inl (by omega))
  have hy : k < S.length := by
    have : ((S.length - k : Nat) : Int) > 0 := by simpa using hy
    omega
  conv => whnf
  refine ⟨_, Cell.mk bx rfl, ?_⟩
  conv => whnf
  have hdl : (S.drop k).length = S.length - k := List.length_drop
  have hsub := (ro_sub (hr.get mo) hk).is
  rw [hdl] at hsub
  have hd0 : 0 < (S.drop k).length := by omega
  have hX0 : (S.drop k)[0] = S[k] := by simp
  obtain ⟨i3, c3, w1, w2, w3⟩ := sls_get eC_len hsub hdl.symm hd0
  rw [hX0] at w3
  have v0 := w3 0 (i64 S[k].1) rfl
  refine ⟨i3, c3, 0, w1, rfl, by omega, ?_⟩
  conv => whnf
  refine ⟨_, v0, ?_⟩
  conv => whnf
  refine br_mk (fun hu => ?_) (fun hu => ?_)
  rotate_left
  · conv => whnf
    have hu : ¬ S[k].1 < ack := by simpa using hu
    exact done (.inr ⟨hy, hu⟩)
  have hu : S[k].1 < ack := by simpa using hu
  conv => whnf
  refine ⟨[0, 1, 2, 3, 4, 5, 6, 7, 8, 9, 10, 11], [0, 1, 3, 7, 0, 16, 48, 112, 240, 496, 1008, 2047], by kernel_rfl, ?_⟩
  conv => whnf
  refine ⟨_, Cell.mk bx rfl, ?_⟩
  conv => whnf
  refine ⟨_, Cell.mk bx rfl, ?_⟩
  conv => whnf
  refine ⟨i3, c3, 0, w1, rfl, by omega, ?_⟩
  conv => whnf
  refine ⟨_, v0, ?_⟩
  conv => whnf
  have hfl : ((keys (S.take k)).foldl delS TS).length ≤ 100000 := by
    rw [fold_del]
    exact Nat.le_trans (List.length_filter_le _ _) hTS
  refine (stop41 st hfl S[k].1).mono ?_
  rintro _ h5 ⟨t5, m5⟩
  have bx5 := m5.get bx (.inl (fun e => hsep (Eq.symm e)))
  have mo5 := mo.trans' m5 (S2 := two g tg) (fun _ _ k => k) (fun _ _ k => .inr k)
  conv => whnf
  refine ⟨_, Cell.mk bx5 rfl, ?_⟩
  conv => whnf
  have hs5 := (ro_sub (hr.get mo5) hk).is
  rw [hdl] at hs5
  refine ⟨⟨_, hs5⟩, 1, rfl, by omega, Nat.le_refl _, ?_⟩
  conv => whnf
  refine ⟨_, _, bx5, Nat.le_of_ble_eq_true rfl, ?_⟩
  conv => whnf
  have bS : (h5.set g (.row true 5 [.ptr (some (tg, 0)), i64 W, i64 N, .sl (slp (slp p (k * 2)) (1 * 2)) (S.length - k - 1), .bool ov])).obj g = some (.row true 5 [.ptr (some (tg, 0)), i64 W, i64 N, .sl (slp p ((k + 1) * 2)) (S.length - (k + 1)), .bool ov]) := by
    rw [H.obj_set_same bx5, slp_slp, show k * 2 + 1 * 2 = (k + 1) * 2 by omega, show S.length - k - 1 = S.length - (k + 1) by omega]
  have mS : Ab.Mod (one g) h5 (h5.set g (.row true 5 [.ptr (some (tg, 0)), i64 W, i64 N, .sl (slp (slp p (k * 2)) (1 * 2)) (S.length - k - 1), .bool ov])) := Mod.set rfl bx5 rfl
  have hwi : IntKind.i64.wrap ((k : Int) + 1) = ((k + 1 : Nat) : Int) := by rw [wrap_i64 (by omega) (by omega)]; omega
  rw [hwi]
  have htk : S.take (k + 1) = S.take k ++ [S[k]] := List.take_succ_eq_append_getElem hy
  have hfd : delS ((keys (S.take k)).foldl delS TS) S[k].1 = (keys (S.take (k + 1))).foldl delS TS := by
    rw [htk, keys_append, List.foldl_append]
    rfl
  rw [hfd] at t5
  refine ⟨_, Forget.cons rfl (Forget.cons rfl (Forget.cons rfl (Forget.nil _))), ⟨k + 1, _, hy, rfl, bS, t5.get mS (by show ¬ tg = g; exact hsep), fun x hx => ?_, mo5.trans' mS (S2 := two g tg) (fun _ _ k => k) (fun _ _ k => .inl k), rfl⟩, ?_⟩
  · rw [htk] at hx
    rcases List.mem_append.1 hx with hx | hx
    · exact hall x hx
    · have : x = S[k] := by simpa using hx
      rw [this]
      exact hu
  · show ((S.length : Int) - ((k + 1 : Nat) : Int)).toNat < ((S.length : Int) - (k : Int)).toNat
    omega
structure RId where
  g : Nat
  tg : Nat
def RId.all (d : RId) : Nat → Prop := fun i => i = d.g ∨ i = d.tg
def RSdC (h : H) (d : RId) (v : SV) : Prop := ∃ S, RSd h d.g d.tg v.W v.N v.ov S v.B v.M v.R v.TS ∧ encM Prod.snd S = v.C
theorem RSdC.get {Z : Nat → Prop} {h h' : H} {d : RId} {v : SV} (s : RSdC h d v) (m : Ab.Mod Z h h') (hz : ∀ i, d.all i → ¬ Z i) : RSdC h' d v := by
  obtain ⟨S, h1, h2⟩ := s
  exact ⟨S, h1.get m (hz _ (.inl rfl)) (hz _ (.inr rfl)), h2⟩
theorem RSdC.old {h h' : H} {d : RId} {v : SV} (s : RSdC h d v) (m : Ab.Mod none_ h h') : RSdC h' d v := s.get m (fun _ _ k => k)
theorem RSdC.lt {h : H} {d : RId} {v : SV} (s : RSdC h d v) {i : Nat} (hi : d.all i) : i < h.next := by
  obtain ⟨S, h1, _⟩ := s
  have := h1.lt
  rcases hi with rfl | rfl
  · exact this.1
  · exact this.2
theorem RSdC.n {h : H} {d : RId} {v : SV} (s : RSdC h d v) : Cell h d.g 2 (i64 v.N) := by
  obtain ⟨S, ⟨⟨p, h1, _⟩, _⟩, _⟩ := s
  exact Cell.mk h1 rfl
theorem rSendC {h : H} {d : RId} {v : SV} (s : RSdC h d v) (o : SOk v) (hN : v.N ≤ 100000000) {now : Int} (hn0 : -1000000000 ≤ now) (hn1 : now ≤ 1000000000) {q : Option (Nat × Nat)} {m : Nat} {body : List Int} (nm : SlIs h q m false 1 (ints .u8 body)) (hm : m ≤ 100000) :
    ACalls Try.prog 45 [.ptr (some (d.g, 0)), i64 now, .sl q m] h (fun r h' => r = .tup [i64 (sendV v now body).1.1, i64 (sendV v now body).1.2] ∧ RSdC h' d (sendV v now body).2 ∧ Ab.Mod d.all h h') := by
  obtain ⟨S, st, hC⟩ := s
  have hlt := st.lt
  have hml := slo_len nm
  have hl : v.C.length = S.length := by rw [← hC, encM_length]
  have hk : keys v.C = keys S := by rw [← hC]; exact encM_keys Prod.snd S
  have hs := o.small
  have hW : 1 ≤ v.W ∧ v.W ≤ 16 := by simpa [okW] using o.ok
  have hlw := o.len
  refine ro3 (rSend st o.tasc o.okt (by omega) (by omega) o.n0 hN hn0 hn1 nm hm) ?_
  rintro r h' (⟨e, rfl, eh⟩ | ⟨e, e2, rfl, eh⟩ | ⟨e, e2, rfl, pB, pC, bx, nA, nB, t, m'⟩)
  · subst eh
    have hv : sendV v now body = ((0, 6), v) := by rw [sendV, if_pos e]
    rw [hv]
    exact ⟨h'.next, h'.next, h'.next, rfl, ⟨S, ((st.ro (by omega) (by omega)).ro (by omega) (by omega)).ro (by omega) (by omega), hC⟩, (((mod_refl _ _).ro_new (Nat.le_refl _)).ro_new (Nat.le_refl _)).ro_new (Nat.le_refl _)⟩
  · subst eh
    have hv : sendV v now body = ((0, 5), v) := by rw [sendV, if_neg (by rw [e]; simp), if_pos (by omega)]
    rw [hv]
    exact ⟨h'.next, h'.next, h'.next, rfl, ⟨S, ((st.ro (by omega) (by omega)).ro (by omega) (by omega)).ro (by omega) (by omega), hC⟩, (((mod_refl _ _).ro_new (Nat.le_refl _)).ro_new (Nat.le_refl _)).ro_new (Nat.le_refl _)⟩
  · have hv : sendV v now body = ((v.N, 0), { v with N := v.N + 1, C := insS v.C v.N body, TS := insS v.TS v.N (now + waitV v.B v.M 0, 0) }) := by rw [sendV, if_neg (by rw [e]; simp), if_neg (by omega)]
    rw [hv]
    obtain ⟨i, a1, a2, a3⟩ := NR.freeze (.inl nA) m'
    obtain ⟨j, b1, b2, b3⟩ := ((NR.ro (.inl nB) i : NR h (h'.ro i) pB m 1 (ints .u8 body))).freeze a3
    have hn3 : h.next ≤ ((h'.ro i).ro j).next := m'.next
    have eS : insS S v.N (pB, body) = S ++ [(v.N, (pB, body))] := insS_top (fun k hk2 => by rw [← hk] at hk2; exact (o.kb k hk2).2) _
    have eC' : encM Prod.snd (insS S v.N (pB, body)) = insS v.C v.N body := by
      rw [← hC]
      exact (encM_ins Prod.snd S v.N (pB, body)).symm
    refine ⟨i, j, ((h'.ro i).ro j).next, rfl, ⟨insS S v.N (pB, body), ⟨⟨pC, ?_, ?_⟩, fun x hx => ?_, ?_, st.sep⟩, eC'⟩, b3.ro_new hn3⟩
    · rw [H.ro_ne _ (by omega), H.ro_ne _ (by omega), H.ro_ne _ (by omega), bx, eS, List.length_append, e]
      rfl
    · rw [eS, List.length_append]
      exact (a2.ro j).ro _
    · rw [eS] at hx
      rcases List.mem_append.1 hx with hx | hx
      · exact ((((st.ent x hx).get m').ro i).ro j).ro _
      · have : x = (v.N, (pB, body)) := by simpa using hx
        subst this
        show RoSl _ pB body.length 1 (ints .u8 body)
        rw [← hml]
        exact b2.ro _
    · exact ((t.ro (by omega)).ro (by omega)).ro (by omega)
theorem rAckC {h : H} {d : RId} {v : SV} (s : RSdC h d v) (o : SOk v) (ack : Int) :
    ACalls Try.prog 47 [.ptr (some (d.g, 0)), i64 ack] h (fun r h' => r = i64 (ackV v ack).1 ∧ RSdC h' d (ackV v ack).2 ∧ Ab.Mod d.all h h') := by
  obtain ⟨S, st, hC⟩ := s
  have hl : v.C.length = S.length := by rw [← hC, encM_length]
  have hs := o.small
  have hk : keys v.C = keys S := by rw [← hC]; exact encM_keys Prod.snd S
  have hasc : AscS S := by
    have := o.asc
    rw [← hC] at this
    exact (encM_asc Prod.snd).1 this
  refine (rAcked st hasc (by omega) (by omega) (fun k hk2 => by rw [← hk]; exact o.tk k hk2) ack).mono ?_
  rintro r h' (⟨e, rfl, eh⟩ | ⟨e, rfl, st', m'⟩)
  · subst eh
    have hv : ackV v ack = (0, v) := by rw [ackV, if_pos e]
    rw [hv]
    exact ⟨rfl, ⟨S, st, hC⟩, mod_refl _ _⟩
  · have hv : ackV v ack = (((v.C.filter fun p => decide (p.1 < ack)).length : Int), { v with C := v.C.filter fun p => decide (ack ≤ p.1), TS := v.TS.filter fun p => decide (ack ≤ p.1) }) := by rw [ackV, if_neg (by omega)]
    rw [hv]
    refine ⟨?_, ⟨_, st', ?_⟩, m'⟩
    · have : (v.C.filter fun p => decide (p.1 < ack)).length = (S.filter fun p => decide (p.1 < ack)).length := by
        rw [← hC, encM_flt (fun k => decide (k < ack)), encM_length]
      rw [this]
    · show encM Prod.snd (S.filter fun p => decide (ack ≤ p.1)) = v.C.filter fun p => decide (ack ≤ p.1)
      rw [← hC]
      exact (encM_flt (fun k => decide (ack ≤ k))).symm
theorem rRoomC {h : H} {d : RId} {v : SV} (s : RSdC h d v) (o : SOk v) : ACalls Try.prog 53 [.ptr (some (d.g, 0))] h (fun r h' => h' = h ∧ r = i64 (roomV v.W v.ov v.C.length)) := by
  obtain ⟨S, st, hC⟩ := s
  have hl : v.C.length = S.length := by rw [← hC, encM_length]
  have hs := o.small
  rw [hl]
  exact rRoom st o.ok (by omega)
theorem rBodyC {h : H} {d : RId} {v : SV} (s : RSdC h d v) (o : SOk v) (seq : Int) : ACalls Try.prog 51 [.ptr (some (d.g, 0)), i64 seq] h (fun r h' => h' = h ∧ ∃ q, r = .tup [.sl q (bodyV v.C seq).length, .bool (sget v.C seq).isSome] ∧ RoSl h q (bodyV v.C seq).length 1 (ints .u8 (bodyV v.C seq))) := by
  obtain ⟨S, st, hC⟩ := s
  have hl : v.C.length = S.length := by rw [← hC, encM_length]
  have hs := o.small
  have hasc : AscS S := by
    have := o.asc
    rw [← hC] at this
    exact (encM_asc Prod.snd).1 this
  rw [← hC]
  exact rBody st hasc (by omega) seq
theorem rAgainC {h : H} {d : RId} {v : SV} (s : RSdC h d v) (o : SOk v) {now : Int} (hn0 : -1000000000 ≤ now) (hn1 : now ≤ 1000000000) :
    ACalls Try.prog 49 [.ptr (some (d.g, 0)), i64 now] h (fun r h' => ∃ q, r = .tup [.sl q (againV v now).1.1.length, i64 (againV v now).1.2] ∧ RoSl h' q (againV v now).1.1.length 1 (ints .i64 (againV v now).1.1) ∧ RSdC h' d (againV v now).2 ∧ Ab.Mod d.all h h') := by
  have hs := o.small
  obtain ⟨S, st, hC⟩ := s
  obtain ⟨⟨p, hb, hr⟩, hent, htm, hsep⟩ := st
  refine call_ Try.func49 rfl rfl (by kernel_rfl) ?_
  conv => whnf
  refine ⟨_, Cell.mk hb rfl, ?_⟩
  conv => whnf
  cases hov : v.ov with
  | true =>
    conv => whnf
    have hv : againV v now = (([], 6), v) := by rw [againV, if_pos hov]
    rw [hv]
    exact ⟨none, rfl, RoSl.nil _ _ _, ⟨S, ⟨⟨p, hb, hr⟩, hent, htm, hsep⟩, hC⟩, mod_refl _ _⟩
  | false =>
  conv => whnf
  refine ⟨_, Cell.mk hb rfl, ?_⟩
  conv => whnf
  refine (due42r htm o.okt (by omega) o.tn hn0 hn1).mono ?_
  rintro _ h2 ⟨qa, qo, rfl, ra, ro, t2, m2⟩
  have hb2 := m2.get hb (.inl (fun e => hsep (Eq.symm e)))
  conv => whnf
  refine ⟨_, rfl, ?_⟩
  conv => whnf
  refine ⟨_, rfl, ?_⟩
  conv => whnf
  refine br_mk (fun ha => ?_) (fun ha => ?_)
  · have ha : ovS v.R now v.TS ≠ [] := by
      intro e
      rw [e] at ha
      simp at ha
    have hv : againV v now = (([], 6), { v with ov := true, TS := rsS v.B v.M v.R now v.TS }) := by rw [againV, if_neg (by rw [hov]; simp), if_neg ha]
    conv => whnf
    refine ⟨_, _, hb2, Nat.le_of_ble_eq_true rfl, ?_⟩
    conv => whnf
    rw [hv]
    have m3 : Ab.Mod (one d.g) h2 (h2.set d.g (.row true 5 [.ptr (some (d.tg, 0)), i64 v.W, i64 v.N, .sl p S.length, .bool true])) := Mod.set rfl hb2 rfl
    refine ⟨none, rfl, RoSl.nil _ _ _, ⟨S, ⟨⟨p, H.obj_set_same hb2, (hr.get m2).get m3⟩, fun x hx => ((hent x hx).get m2).get m3, t2.get m3 hsep, hsep⟩, hC⟩, m2.trans' m3 (S2 := d.all) (fun _ _ k => .inr k) (fun _ _ k => .inl k)⟩
  · have ha : ovS v.R now v.TS = [] := by
      cases e : ovS v.R now v.TS with
      | nil => rfl
      | cons x l =>
        rw [e] at ha
        have : (((x :: l).length : Nat) : Int) > 0 := by
          rw [List.length_cons]
          omega
        rw [decide_eq_true this] at ha
        cases ha
    have hv : againV v now = ((agS v.R now v.TS, 0), { v with TS := rsS v.B v.M v.R now v.TS }) := by rw [againV, if_neg (by rw [hov]; simp), if_pos ha]
    conv => whnf
    rw [hv]
    exact ⟨qa, rfl, ra, ⟨S, ⟨⟨p, hb2, hr.get m2⟩, fun x hx => (hent x hx).get m2, t2, hsep⟩, hC⟩, m2.mono (fun _ _ k => .inr k)⟩
end Go.Proofs.Ytoljllfbabahpaa
