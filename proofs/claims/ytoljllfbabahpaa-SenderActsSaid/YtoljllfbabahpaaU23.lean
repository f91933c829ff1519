/- SenderActs: its walk. -/
import Derived.Test.YtoljllfbabahpaaU22
import Derived.Test.YtoljllfbabahpaaU15
set_option linter.unusedVariables false
namespace Go.Proofs.Ytoljllfbabahpaa
open Go Go.Ab
def OctH (C : Hd) : Prop := ∀ x ∈ C, Oct x.2
theorem OctH.ins {C : Hd} (s : OctH C) {b : List Int} (hb : Oct b) (k : Int) : OctH (insS C k b) := fun x hx => by
  rw [insS, List.mem_append, List.mem_cons] at hx
  rcases hx with hx | rfl | hx
  · exact s x (List.mem_filter.1 hx).1
  · exact hb
  · exact s x (List.mem_filter.1 hx).1
theorem OctH.send {v : SV} (s : OctH v.C) {b : List Int} (hb : Oct b) (now : Int) : OctH (sendV v now b).2.C := by
  unfold sendV
  split
  · exact s
  · split
    · exact s
    · exact s.ins hb v.N
theorem OctH.ack {v : SV} (s : OctH v.C) (a : Int) : OctH (ackV v a).2.C := by
  unfold ackV
  split
  · exact s
  · exact fun x hx => s x (List.mem_filter.1 hx).1
theorem OctH.again {v : SV} (s : OctH v.C) (a : Int) : OctH (againV v a).2.C := by
  unfold againV
  split
  · exact s
  · split <;> exact s
theorem OctH.body {v : SV} (s : OctH v.C) (o : SOk v) (x : Int) : Oct (bodyV v.C x) := by
  unfold bodyV
  cases e : sget v.C x with
  | none => exact fun y hy => by cases hy
  | some w => exact s (x, w) ((sget_mem o.asc.nodup).1 e)
theorem nOf_send (v : SV) (now : Int) (b : List Int) : (sendV v now b).2.N ≤ v.N + 1 := by
  unfold sendV
  split
  · show v.N ≤ _; omega
  · split
    · show v.N ≤ _; omega
    · exact Int.le_refl _
theorem nOf_ack (v : SV) (a : Int) : (ackV v a).2.N = v.N := by
  unfold ackV
  split <;> rfl
theorem nOf_again (v : SV) (a : Int) : (againV v a).2.N = v.N := by
  unfold againV
  split
  · rfl
  · split <;> rfl
structure ActA where
  kind : Int
  a : Int
  now : Int
  bp : Option (Nat × Nat)
  bs : List Int
def ActA.cells (e : ActA) : List V := [i64 e.kind, i64 e.a, i64 e.now, .sl e.bp e.bs.length]
theorem act_len (e : ActA) : e.cells.length = 4 := rfl
structure ActsIn (h : H) (p : Option (Nat × Nat)) (n : Nat) (es : List ActA) : Prop where
  sl : RoSl h p n 4 (es.flatMap ActA.cells)
  ok : ∀ e ∈ es, RoSl h e.bp e.bs.length 1 (ints .u8 e.bs) ∧ Oct e.bs
theorem ActsIn.get {Z : Nat → Prop} {h h' : H} {p : Option (Nat × Nat)} {n : Nat} {es : List ActA} (s : ActsIn h p n es) (m : Ab.Mod Z h h') : ActsIn h' p n es := ⟨s.sl.get m, fun e he => ⟨(s.ok e he).1.get m, (s.ok e he).2⟩⟩
theorem ActsIn.len {h : H} {p : Option (Nat × Nat)} {n : Nat} {es : List ActA} (s : ActsIn h p n es) : n = es.length := by
  have := s.sl.1
  rw [flat_length act_len] at this
  omega
set_option maxHeartbeats 2000000 in
theorem acts8 {h : H} {po : Option (Nat × Nat)} {m : Nat} {es : List ActA} (ro : ActsIn h po m es) (W b tr : Int) : ACalls Try.prog 8 [i64 W, i64 b, i64 tr, .sl po m] h (fun r _ => r = .bool true) := by
  have hm := ro.len
  refine call_ Try.func8 rfl rfl (by kernel_rfl) ?_
  conv => whnf
  refine br_mk (fun ha => ?_) (fun ha => ?_)
  · conv => whnf
    refine (awake39 h).mono ?_
    rintro _ h1 rfl
    conv => whnf
  conv => whnf
  have hm60 : m ≤ 60 := by
    have : ¬ (m : Int) > 60 := by simpa using ha
    omega
  refine br_mk (fun ha => ?_) (fun ha => ?_)
  · conv => whnf
    refine (awake39 h).mono ?_
    rintro _ h1 rfl
    conv => whnf
  conv => whnf
  have hb1 : ¬ b < 1 := by simpa using ha
  refine br_mk (fun ha => ?_) (fun ha => ?_)
  · conv => whnf
    refine (awake39 h).mono ?_
    rintro _ h1 rfl
    conv => whnf
  conv => whnf
  have hb2 : ¬ b > 50 := by simpa using ha
  refine br_mk (fun ha => ?_) (fun ha => ?_)
  · conv => whnf
    refine (awake39 h).mono ?_
    rintro _ h1 rfl
    conv => whnf
  conv => whnf
  have ht1 : ¬ tr < 0 := by simpa using ha
  refine br_mk (fun ha => ?_) (fun ha => ?_)
  · conv => whnf
    refine (awake39 h).mono ?_
    rintro _ h1 rfl
    conv => whnf
  conv => whnf
  have ht2 : ¬ tr > 20 := by simpa using ha
  have hw4 : IntKind.i64.wrap (4 * b) = 4 * b := wrap_i64 (by omega) (by omega)
  rw [hw4]
  have okt : okT b (4 * b) tr = true := by
    rw [okT_iff]
    omega
  refine (new22 h b (4 * b) tr).mono ?_
  rintro _ h1 q
  obtain ⟨tg, tmi, rfl, t1, _, _, m1⟩ := newT_yes q okt
  clear q
  have ro := ro.get m1
  conv => whnf
  refine ⟨_, rfl, ?_⟩
  conv => whnf
  refine ⟨_, rfl, ?_⟩
  conv => whnf
  refine (sNew t1 W).mono ?_
  rintro _ h2 q
  cases ok : okW W with
  | false =>
    rcases q with ⟨_, rfl, eh⟩ | ⟨e, _⟩
    rotate_left
    · rw [ok] at e
      cases e
    subst eh
    conv => whnf
    refine ⟨_, rfl, ?_⟩
    conv => whnf
    refine ⟨_, rfl, ?_⟩
    conv => whnf
    rw [hw4]
    refine (new36 _ b (4 * b) tr).mono ?_
    rintro _ h3 (⟨e, _⟩ | ⟨_, rt, rfl, t3, _, m3⟩)
    · rw [okt] at e
      cases e
    conv => whnf
    refine (rNew t3 W).mono ?_
    rintro _ h4 (⟨_, rfl, eh⟩ | ⟨e, _⟩)
    rotate_left
    · rw [ok] at e
      cases e
    subst eh
    conv => whnf
    refine (awake39 _).mono ?_
    rintro _ h5 rfl
    conv => whnf
  | true =>
  have hW : 1 ≤ W ∧ W ≤ 16 := by simpa [okW] using ok
  obtain ⟨d, rfl, rfl, rfl, s1, hg0, hm0, m2⟩ := newS_yes q ok
  clear q
  have o1 : SOk ⟨W, 0, false, [], b, 4 * b, tr, []⟩ := new_ok ok okt
  have ro := ro.get m2
  conv => whnf
  refine ⟨_, rfl, ?_⟩
  conv => whnf
  refine ⟨_, rfl, ?_⟩
  conv => whnf
  rw [hw4]
  refine (new36 _ b (4 * b) tr).mono ?_
  rintro _ h3 (⟨e, _⟩ | ⟨_, rt, rfl, t3, hrt, m3⟩)
  · rw [okt] at e
    cases e
  have s3 := s1.old m3
  have hdl : ∀ i, d.all i → i < h2.next := fun i hi => s1.lt hi
  have ro := ro.get m3
  conv => whnf
  refine (rNew t3 W).mono ?_
  rintro _ h4 (⟨e, _⟩ | ⟨_, rg, rfl, r4, hrg, m4⟩)
  · rw [ok] at e
    cases e
  have s4 := s3.old m4
  have ro := ro.get m4
  have hn3 := m3.next
  obtain ⟨rd, hrd⟩ : ∃ rd : RId, rd = ⟨rg, rt⟩ := ⟨_, rfl⟩
  have r5 : RSdC h4 rd ⟨W, 0, false, [], b, 4 * b, tr, []⟩ := by rw [hrd]; exact ⟨[], r4, rfl⟩
  have hrge : rg = rd.g := by rw [hrd]
  have hrte : rt = rd.tg := by rw [hrd]
  rw [hrge] at hrg ⊢
  rw [hrte] at hrt
  have dis : ∀ i, d.all i → ¬ rd.all i := fun i hi hr => by
    have := hdl i hi
    rcases hr with hr | hr <;> omega
  conv => whnf
  refine ⟨fun env hk => ∃ (i : Nat) (zi : Int) (v : SV), i ≤ m ∧ zi = i ∧ SdC hk d v ∧ SOk v ∧ RSdC hk rd v ∧ OctH v.C ∧ v.N ≤ i ∧ ActsIn hk po m es ∧ env = [(14, i64 zi), (3, .sl po m), (11, .ptr (some (d.g, 0))), (13, .ptr (some (rd.g, 0)))],
    fun env _ => match get env 14 with
      | .int _ z => (m - z).toNat
      | _ => 0, ⟨_, Forget.cons rfl (Forget.cons rfl (Forget.cons rfl (Forget.cons rfl (Forget.nil _)))), 0, _, _, Nat.zero_le _, rfl, s4, o1, r5, (fun x hx => by cases hx), Int.le_refl _, ro, rfl⟩, ?_⟩
  clear s4 o1 r5 ro s3 s1 t1 t3 r4 m1 m2 m3 m4 hrge hrte hrd hdl hrg hrt hn3
  rintro _ hh ⟨i, zi, v, hi, rfl, s, o, r, oc, hNi, ro, rfl⟩
  conv => whnf
  refine br_mk (fun hx => ?_) (fun hx => ?_)
  rotate_left
  · conv => whnf
    refine (awake39 _).mono ?_
    rintro _ h3 rfl
    conv => whnf
  conv => whnf
  have hx : i < m := by simpa using hx
  have hxe : i < es.length := by omega
  obtain ⟨i1, c1, f1, f2, f3⟩ := sls_get act_len ro.sl.is hm hxe
  obtain ⟨eb, eo⟩ := ro.ok es[i] (List.getElem_mem hxe)
  obtain ⟨e, he⟩ : ∃ e, e = es[i] := ⟨_, rfl⟩
  rw [← he] at f2 f3 eb eo
  refine ⟨i1, c1, i, f1, rfl, hx, ?_⟩
  conv => whnf
  refine ⟨_, f2, ?_⟩
  conv => whnf
  refine ⟨_, _, H.obj_push_new _ _, Nat.le_of_ble_eq_true rfl, ?_⟩
  conv => whnf
  obtain ⟨gm, a1, n1⟩ := lay_row (h := hh) (sz := 4) [i64 0, i64 0, i64 0, .sl none 0] (ActA.cells e)
  have hdA : ¬ d.all hh.next := fun q => by
    have := s.lt q
    omega
  have hrA : ¬ rd.all hh.next := fun q => by
    have := r.lt q
    omega
  have s := s.old n1
  have r := r.old n1
  have ro := ro.get n1
  have eb := eb.get n1
  refine ⟨_, Cell.mk a1 rfl, ?_⟩
  conv => whnf
  refine br_mk (fun hB => ?_) (fun hB => ?_)
  · conv => whnf
    refine (awake39 _).mono ?_
    rintro _ h3 rfl
    conv => whnf
  have hB : e.bs.length ≤ 30 := by
    have : ¬ (e.bs.length : Int) > 30 := by simpa using hB
    omega
  conv => whnf
  refine ⟨_, Cell.mk a1 rfl, ?_⟩
  conv => whnf
  refine (round19 (m := 1048576) (by decide) (by decide) e.now _).mono ?_
  rintro _ hR ⟨eh, rfl⟩
  subst eh
  have r0 := Int.emod_nonneg e.now (show (1048576 : Int) ≠ 0 by decide)
  have r1 := Int.emod_lt_of_pos e.now (show (0 : Int) < 1048576 by decide)
  obtain ⟨now, hnow⟩ : ∃ now, now = e.now % 1048576 := ⟨_, rfl⟩
  rw [← hnow] at r0 r1 ⊢
  conv => whnf
  refine ⟨_, Cell.mk a1 rfl, ?_⟩
  conv => whnf
  refine br_mk (fun hK => ?_) (fun hK => ?_)
  · conv => whnf
    refine ⟨_, Cell.mk a1 rfl, ?_⟩
    conv => whnf
    refine (cSendR s o (by omega) (now := now) (by omega) (by omega) eb (by omega)).mono ?_
    rintro _ h5 ⟨rfl, s5, m5⟩
    have a5 := m5.get a1 (.inl hdA)
    have r5 := r.get m5 (fun i hi hd => dis i hd hi)
    have ro5 := ro.get m5
    have eb5 := eb.get m5
    conv => whnf
    refine ⟨_, rfl, ?_⟩
    conv => whnf
    refine ⟨_, rfl, ?_⟩
    conv => whnf
    refine ⟨_, Cell.mk a5 rfl, ?_⟩
    conv => whnf
    refine (rSendC r5 o (by omega) (now := now) (by omega) (by omega) eb5.is (by omega)).mono ?_
    rintro _ h6 ⟨rfl, r6, m6⟩
    have a6 := m6.get a5 (.inl hrA)
    have s6 := s5.get m6 dis
    have ro6 := ro5.get m6
    have o6 := o.send now (body := e.bs) (by omega)
    have oc6 := oc.send eo now
    have hn6 := nOf_send v now e.bs
    generalize sendV v now e.bs = sv at s6 r6 o6 oc6 hn6 ⊢
    conv => whnf
    refine ⟨_, rfl, ?_⟩
    conv => whnf
    refine ⟨_, rfl, ?_⟩
    conv => whnf
    refine br_mk (fun hC => ?_) (fun hC => ?_)
    · exact absurd hC (by simp)
    conv => whnf
    refine br_mk (fun hC => ?_) (fun hC => ?_)
    · exact absurd hC (by simp)
    conv => whnf
    refine ⟨_, Cell.mk a6 rfl, ?_⟩
    conv => whnf
    refine (cBody s6 o6 e.a).mono ?_
    rintro _ h8 ⟨q8, rfl, b8, m8⟩
    have sB := s6.old m8
    have rB := r6.old m8
    have roB := ro6.get m8
    have aB := m8.get a6 (.inl (fun k => k))
    conv => whnf
    refine ⟨_, rfl, ?_⟩
    conv => whnf
    refine ⟨_, rfl, ?_⟩
    conv => whnf
    refine ⟨_, Cell.mk aB rfl, ?_⟩
    conv => whnf
    refine (rBodyC rB o6 e.a).mono ?_
    rintro _ h9 ⟨eh, q9, rfl, b9⟩
    subst eh
    conv => whnf
    refine ⟨_, rfl, ?_⟩
    conv => whnf
    refine ⟨_, rfl, ?_⟩
    conv => whnf
    refine ⟨[0, 1, 2, 3, 4, 5, 6, 7, 8, 9, 10, 11, 13, 12, 14, 15, 16, 17, 18, 20, 21, 22, 23, 19, 24, 25], [0, 1, 0, 4, 15, 31, 63, 63, 255, 511, 1023, 2047, 4095, 2047, 16383, 32767, 65535, 131071, 262143, 524287, 262143, 1310719, 3407871, 7602175, 16777215, 33554431], by kernel_rfl, ?_⟩
    conv => whnf
    refine ⟨_, b8.is, oc6.body o6 e.a, ?_⟩
    conv => whnf
    refine ⟨_, b9.is, oc6.body o6 e.a, ?_⟩
    conv => whnf
    refine br_mk (fun hD => ?_) (fun hD => ?_)
    · exact absurd hD (by simp)
    conv => whnf
    refine br_mk (fun hD => ?_) (fun hD => ?_)
    · exact absurd hD (by simp)
    conv => whnf
    refine (cRoom sB o6).mono ?_
    rintro _ hX ⟨eh, rfl⟩
    subst eh
    conv => whnf
    refine (rRoomC rB o6).mono ?_
    rintro _ hX ⟨eh, rfl⟩
    subst eh
    conv => whnf
    refine br_mk (fun hD => ?_) (fun hD => ?_)
    · exact absurd hD (by simp)
    conv => whnf
    refine ⟨_, rB.n, ?_⟩
    conv => whnf
    refine (cSeq sB).mono ?_
    rintro _ hX ⟨eh, rfl⟩
    subst eh
    conv => whnf
    refine ⟨⟨_, rB.n, rfl⟩, ?_⟩
    conv => whnf
    refine br_mk (fun hD => ?_) (fun hD => ?_)
    · exact absurd hD (by simp)
    conv => whnf
    have hwi : IntKind.i64.wrap ((i : Int) + 1) = ((i + 1 : Nat) : Int) := by rw [wrap_i64 (by omega) (by omega)]; omega
    rw [hwi]
    refine ⟨_, Forget.cons rfl (Forget.cons rfl (Forget.cons rfl (Forget.cons rfl (Forget.nil _)))), ⟨i + 1, _, sv.2, by omega, rfl, sB, o6, rB, oc6, by omega, roB, rfl⟩, ?_⟩
    show ((m : Int) - ((i + 1 : Nat) : Int)).toNat < ((m : Int) - (i : Int)).toNat
    omega
  conv => whnf
  refine br_mk (fun hK2 => ?_) (fun hK2 => ?_)
  · conv => whnf
    refine ⟨[0, 1, 2, 4, 5, 6, 3, 7, 8], [0, 0, 2, 7, 0, 0, 32, 127, 255], by kernel_rfl, ?_⟩
    conv => whnf
    refine ⟨_, Cell.mk a1 rfl, ?_⟩
    conv => whnf
    refine ⟨_, Cell.mk a1 rfl, ?_⟩
    conv => whnf
    refine (cAck s o e.a).mono ?_
    rintro _ h5 ⟨rfl, s5, m5⟩
    have a5 := m5.get a1 (.inl hdA)
    have r5 := r.get m5 (fun i hi hd => dis i hd hi)
    have ro5 := ro.get m5
    conv => whnf
    refine ⟨⟨_, Cell.mk a5 rfl, rfl⟩, ?_⟩
    conv => whnf
    refine (rAckC r5 o e.a).mono ?_
    rintro _ h6 ⟨rfl, r6, m6⟩
    have a6 := m6.get a5 (.inl hrA)
    have s6 := s5.get m6 dis
    have ro6 := ro5.get m6
    have o6 := o.ack e.a
    have oc6 := oc.ack e.a
    have hn6 := nOf_ack v e.a
    generalize ackV v e.a = sv at s6 r6 o6 oc6 hn6 ⊢
    conv => whnf
    refine br_mk (fun hC => ?_) (fun hC => ?_)
    · exact absurd hC (by simp)
    conv => whnf
    refine ⟨_, Cell.mk a6 rfl, ?_⟩
    conv => whnf
    refine (cBody s6 o6 e.a).mono ?_
    rintro _ h8 ⟨q8, rfl, b8, m8⟩
    have sB := s6.old m8
    have rB := r6.old m8
    have roB := ro6.get m8
    have aB := m8.get a6 (.inl (fun k => k))
    conv => whnf
    refine ⟨_, rfl, ?_⟩
    conv => whnf
    refine ⟨_, rfl, ?_⟩
    conv => whnf
    refine ⟨_, Cell.mk aB rfl, ?_⟩
    conv => whnf
    refine (rBodyC rB o6 e.a).mono ?_
    rintro _ h9 ⟨eh, q9, rfl, b9⟩
    subst eh
    conv => whnf
    refine ⟨_, rfl, ?_⟩
    conv => whnf
    refine ⟨_, rfl, ?_⟩
    conv => whnf
    refine ⟨[0, 1, 2, 3, 4, 5, 6, 7, 8, 9, 10, 11, 13, 12, 14, 15, 16, 17, 18, 20, 21, 22, 23, 19, 24, 25], [0, 1, 0, 4, 15, 31, 63, 63, 255, 511, 1023, 2047, 4095, 2047, 16383, 32767, 65535, 131071, 262143, 524287, 262143, 1310719, 3407871, 7602175, 16777215, 33554431], by kernel_rfl, ?_⟩
    conv => whnf
    refine ⟨_, b8.is, oc6.body o6 e.a, ?_⟩
    conv => whnf
    refine ⟨_, b9.is, oc6.body o6 e.a, ?_⟩
    conv => whnf
    refine br_mk (fun hD => ?_) (fun hD => ?_)
    · exact absurd hD (by simp)
    conv => whnf
    refine br_mk (fun hD => ?_) (fun hD => ?_)
    · exact absurd hD (by simp)
    conv => whnf
    refine (cRoom sB o6).mono ?_
    rintro _ hX ⟨eh, rfl⟩
    subst eh
    conv => whnf
    refine (rRoomC rB o6).mono ?_
    rintro _ hX ⟨eh, rfl⟩
    subst eh
    conv => whnf
    refine br_mk (fun hD => ?_) (fun hD => ?_)
    · exact absurd hD (by simp)
    conv => whnf
    refine ⟨_, rB.n, ?_⟩
    conv => whnf
    refine (cSeq sB).mono ?_
    rintro _ hX ⟨eh, rfl⟩
    subst eh
    conv => whnf
    refine ⟨⟨_, rB.n, rfl⟩, ?_⟩
    conv => whnf
    refine br_mk (fun hD => ?_) (fun hD => ?_)
    · exact absurd hD (by simp)
    conv => whnf
    have hwi : IntKind.i64.wrap ((i : Int) + 1) = ((i + 1 : Nat) : Int) := by rw [wrap_i64 (by omega) (by omega)]; omega
    rw [hwi]
    refine ⟨_, Forget.cons rfl (Forget.cons rfl (Forget.cons rfl (Forget.cons rfl (Forget.nil _)))), ⟨i + 1, _, sv.2, by omega, rfl, sB, o6, rB, oc6, by omega, roB, rfl⟩, ?_⟩
    show ((m : Int) - ((i + 1 : Nat) : Int)).toNat < ((m : Int) - (i : Int)).toNat
    omega
  conv => whnf
  refine br_mk (fun hK3 => ?_) (fun hK3 => ?_)
  · conv => whnf
    refine (cAgain s o (now := now) (by omega) (by omega)).mono ?_
    rintro _ h5 ⟨q5, rfl, l5, s5, m5⟩
    have a5 := m5.get a1 (.inl hdA)
    have r5 := r.get m5 (fun i hi hd => dis i hd hi)
    have ro5 := ro.get m5
    conv => whnf
    refine ⟨_, rfl, ?_⟩
    conv => whnf
    refine ⟨_, rfl, ?_⟩
    conv => whnf
    refine (rAgainC r5 o (now := now) (by omega) (by omega)).mono ?_
    rintro _ h6 ⟨q6, rfl, l6, r6, m6⟩
    have a6 := m6.get a5 (.inl hrA)
    have s6 := s5.get m6 dis
    have ro6 := ro5.get m6
    have l56 := l5.get m6
    have o6 := o.again now
    have oc6 := oc.again now
    have hn6 := nOf_again v now
    have hlen : (againV v now).1.1.length ≤ 1000000 := by
      have h1 := o.small.2
      unfold againV
      split
      · simp
      · split
        · have := agS_le v.R now v.TS
          show (agS v.R now v.TS).length ≤ _
          omega
        · simp
    generalize againV v now = sv at s6 r6 o6 oc6 hn6 hlen l56 l6 ⊢
    conv => whnf
    refine ⟨_, rfl, ?_⟩
    conv => whnf
    refine ⟨_, rfl, ?_⟩
    conv => whnf
    refine (ints33 l56.is l6.is hlen).mono ?_
    rintro _ h7 ⟨eh, rfl⟩
    subst eh
    rw [decide_eq_true rfl]
    conv => whnf
    refine br_mk (fun hC => ?_) (fun hC => ?_)
    · exact absurd hC (by simp)
    conv => whnf
    refine ⟨_, Cell.mk a6 rfl, ?_⟩
    conv => whnf
    refine (cBody s6 o6 e.a).mono ?_
    rintro _ h8 ⟨q8, rfl, b8, m8⟩
    have sB := s6.old m8
    have rB := r6.old m8
    have roB := ro6.get m8
    have aB := m8.get a6 (.inl (fun k => k))
    conv => whnf
    refine ⟨_, rfl, ?_⟩
    conv => whnf
    refine ⟨_, rfl, ?_⟩
    conv => whnf
    refine ⟨_, Cell.mk aB rfl, ?_⟩
    conv => whnf
    refine (rBodyC rB o6 e.a).mono ?_
    rintro _ h9 ⟨eh, q9, rfl, b9⟩
    subst eh
    conv => whnf
    refine ⟨_, rfl, ?_⟩
    conv => whnf
    refine ⟨_, rfl, ?_⟩
    conv => whnf
    refine ⟨[0, 1, 2, 3, 4, 5, 6, 7, 8, 9, 10, 11, 13, 12, 14, 15, 16, 17, 18, 20, 21, 22, 23, 19, 24, 25], [0, 1, 0, 4, 15, 31, 63, 63, 255, 511, 1023, 2047, 4095, 2047, 16383, 32767, 65535, 131071, 262143, 524287, 262143, 1310719, 3407871, 7602175, 16777215, 33554431], by kernel_rfl, ?_⟩
    conv => whnf
    refine ⟨_, b8.is, oc6.body o6 e.a, ?_⟩
    conv => whnf
    refine ⟨_, b9.is, oc6.body o6 e.a, ?_⟩
    conv => whnf
    refine br_mk (fun hD => ?_) (fun hD => ?_)
    · exact absurd hD (by simp)
    conv => whnf
    refine br_mk (fun hD => ?_) (fun hD => ?_)
    · exact absurd hD (by simp)
    conv => whnf
    refine (cRoom sB o6).mono ?_
    rintro _ hX ⟨eh, rfl⟩
    subst eh
    conv => whnf
    refine (rRoomC rB o6).mono ?_
    rintro _ hX ⟨eh, rfl⟩
    subst eh
    conv => whnf
    refine br_mk (fun hD => ?_) (fun hD => ?_)
    · exact absurd hD (by simp)
    conv => whnf
    refine ⟨_, rB.n, ?_⟩
    conv => whnf
    refine (cSeq sB).mono ?_
    rintro _ hX ⟨eh, rfl⟩
    subst eh
    conv => whnf
    refine ⟨⟨_, rB.n, rfl⟩, ?_⟩
    conv => whnf
    refine br_mk (fun hD => ?_) (fun hD => ?_)
    · exact absurd hD (by simp)
    conv => whnf
    have hwi : IntKind.i64.wrap ((i : Int) + 1) = ((i + 1 : Nat) : Int) := by rw [wrap_i64 (by omega) (by omega)]; omega
    rw [hwi]
    refine ⟨_, Forget.cons rfl (Forget.cons rfl (Forget.cons rfl (Forget.cons rfl (Forget.nil _)))), ⟨i + 1, _, sv.2, by omega, rfl, sB, o6, rB, oc6, by omega, roB, rfl⟩, ?_⟩
    show ((m : Int) - ((i + 1 : Nat) : Int)).toNat < ((m : Int) - (i : Int)).toNat
    omega
  conv => whnf
  have hn0 : v.N = v.N := rfl
  refine ⟨_, Cell.mk a1 rfl, ?_⟩
  conv => whnf
  refine (cBody s o e.a).mono ?_
  rintro _ h8 ⟨q8, rfl, b8, m8⟩
  have sB := s.old m8
  have rB := r.old m8
  have roB := ro.get m8
  have aB := m8.get a1 (.inl (fun k => k))
  conv => whnf
  refine ⟨_, rfl, ?_⟩
  conv => whnf
  refine ⟨_, rfl, ?_⟩
  conv => whnf
  refine ⟨_, Cell.mk aB rfl, ?_⟩
  conv => whnf
  refine (rBodyC rB o e.a).mono ?_
  rintro _ h9 ⟨eh, q9, rfl, b9⟩
  subst eh
  conv => whnf
  refine ⟨_, rfl, ?_⟩
  conv => whnf
  refine ⟨_, rfl, ?_⟩
  conv => whnf
  refine ⟨[0, 1, 2, 3, 4, 5, 6, 7, 8, 9, 10, 11, 13, 12, 14, 15, 16, 17, 18, 20, 21, 22, 23, 19, 24, 25], [0, 1, 0, 4, 15, 31, 63, 63, 255, 511, 1023, 2047, 4095, 2047, 16383, 32767, 65535, 131071, 262143, 524287, 262143, 1310719, 3407871, 7602175, 16777215, 33554431], by kernel_rfl, ?_⟩
  conv => whnf
  refine ⟨_, b8.is, oc.body o e.a, ?_⟩
  conv => whnf
  refine ⟨_, b9.is, oc.body o e.a, ?_⟩
  conv => whnf
  refine br_mk (fun hD => ?_) (fun hD => ?_)
  · exact absurd hD (by simp)
  conv => whnf
  refine br_mk (fun hD => ?_) (fun hD => ?_)
  · exact absurd hD (by simp)
  conv => whnf
  refine (cRoom sB o).mono ?_
  rintro _ hX ⟨eh, rfl⟩
  subst eh
  conv => whnf
  refine (rRoomC rB o).mono ?_
  rintro _ hX ⟨eh, rfl⟩
  subst eh
  conv => whnf
  refine br_mk (fun hD => ?_) (fun hD => ?_)
  · exact absurd hD (by simp)
  conv => whnf
  refine ⟨_, rB.n, ?_⟩
  conv => whnf
  refine (cSeq sB).mono ?_
  rintro _ hX ⟨eh, rfl⟩
  subst eh
  conv => whnf
  refine ⟨⟨_, rB.n, rfl⟩, ?_⟩
  conv => whnf
  refine br_mk (fun hD => ?_) (fun hD => ?_)
  · exact absurd hD (by simp)
  conv => whnf
  have hwi : IntKind.i64.wrap ((i : Int) + 1) = ((i + 1 : Nat) : Int) := by rw [wrap_i64 (by omega) (by omega)]; omega
  rw [hwi]
  refine ⟨_, Forget.cons rfl (Forget.cons rfl (Forget.cons rfl (Forget.cons rfl (Forget.nil _)))), ⟨i + 1, _, v, by omega, rfl, sB, o, rB, oc, by omega, roB, rfl⟩, ?_⟩
  show ((m : Int) - ((i + 1 : Nat) : Int)).toNat < ((m : Int) - (i : Int)).toNat
  omega
end Go.Proofs.Ytoljllfbabahpaa
