/- The document's driver: Follow, Recv. -/
import Derived.Test.YtmififfaljihgaaGreatG11
set_option linter.unusedVariables false
namespace Go.Proofs.YtmififfaljihgaaGreat
open Go Go.Ab
def RFollowQ (h : H) (ri : Nat) (d : RCId) (v : DV) (cv : CV) (now : Int) (r : V) (h' : H) : Prop :=
  ((v.live = false ∨ v.way = []) ∧ r = .tup [.sl none 0, i64 4] ∧ h' = h) ∨
  (v.live = true ∧ ∃ p l, v.way = p :: l ∧ RReportQ h ri d v (pushV cv now (encB (repM p))) p r h')
theorem rdFollow0 {h : H} {ri : Nat} {v : DV} (s : RDrB h ri v) (el : v.live = false) (now : Int) : ACalls Tryz.prog 13 [.ptr (some (ri, 0)), i64 now] h (fun r h' => r = .tup [.sl none 0, i64 4] ∧ h' = h) := by
  obtain ⟨ch, pw, b, _⟩ := s
  refine call_ Tryz.func13 rfl rfl (by kernel_rfl) ?_
  conv => whnf
  refine ⟨_, Cell.mk b rfl, ?_⟩
  rw [el]
  conv => whnf
  exact ⟨rfl, rfl⟩
theorem rdFollow {h : H} {ri : Nat} {d : RCId} {v : DV} {cv : CV} (s : RDrS h ri d v cv) (g : CG cv) (hN : cv.cnt ≤ 1000000) {now : Int} (hn0 : -1000000000 ≤ now) (hn1 : now ≤ 1000000000) (hf : ∀ b : List Int, (pushV cv now b).1.1.length ≤ 100000) (hW : v.has = false → v.way = []) :
    ACalls Tryz.prog 13 [.ptr (some (ri, 0)), i64 now] h (RFollowQ h ri d v cv now) := by
  obtain ⟨pw, b1, b2⟩ := s.box
  refine call_ Tryz.func13 rfl rfl (by kernel_rfl) ?_
  conv => whnf
  refine ⟨_, Cell.mk b1 rfl, ?_⟩
  cases el : v.live with
  | false =>
    conv => whnf
    exact .inl ⟨.inl el, rfl, rfl⟩
  | true =>
  conv => whnf
  refine ⟨_, Cell.mk b1 rfl, ?_⟩
  cases eh : v.has with
  | false =>
    conv => whnf
    exact .inl ⟨.inr (hW eh), rfl, rfl⟩
  | true =>
  conv => whnf
  refine ⟨_, Cell.mk b1 rfl, ?_⟩
  cases ew : v.way with
  | nil =>
    conv => whnf
    exact .inl ⟨.inr ew, rfl, rfl⟩
  | cons p l =>
    obtain ⟨i1, c1, f1, f2⟩ := slo_get b2.is (show 0 < v.way.length by rw [ew]; exact Nat.zero_lt_succ _)
    have e0 : v.way.getD 0 0 = p := by rw [ew]; rfl
    rw [e0] at f2
    conv => whnf
    rw [show ((((p :: l).length : Nat) : Int) == 0) = false from by simp; omega]
    conv => whnf
    refine ⟨_, Cell.mk b1 rfl, ?_⟩
    conv => whnf
    refine ⟨i1, c1, 0, f1, rfl, by rw [ew]; exact Nat.zero_lt_succ _, ?_⟩
    conv => whnf
    refine ⟨_, f2, ?_⟩
    conv => whnf
    refine (rdReport s g hN hn0 hn1 p (repM_len p) hf hW).mono ?_
    rintro r h2 q
    have q0 := q
    rcases q with ⟨q, _⟩ | ⟨_, _, rfl, _⟩ | ⟨_, _, qq, out, v', rfl, _⟩
    · rw [el] at q
      cases q
    · conv => whnf
      refine ⟨_, rfl, ?_⟩
      conv => whnf
      refine ⟨_, rfl, ?_⟩
      conv => whnf
      exact .inr ⟨el, p, l, ew, q0⟩
    · conv => whnf
      refine ⟨_, rfl, ?_⟩
      conv => whnf
      refine ⟨_, rfl, ?_⟩
      conv => whnf
      exact .inr ⟨el, p, l, ew, q0⟩
def DecRR (b : List Int) (h : H) (r : V) (h' : H) : Prop := ∃ (m1 : Msg) (ok : Bool), r = .tup [.agg m1.cells, .bool ok] ∧ RoSl h' m1.ep m1.es.length 1 (ints .i64 m1.es) ∧ m1.ok h' ∧ Ab.Mod none_ h h' ∧ DecA b m1 ok ∧ ∀ i o, m1.ep = some (i, o) → h.next ≤ i
theorem dec44r {h : H} {p : Option (Nat × Nat)} {n : Nat} {b : List Int} (o : OctR h p n b) (bb : Bts b) (hn : n ≤ 100000) : ACalls Tryz.prog 52 [.sl p n] h (DecRR b h) := by
  refine ACalls.ro (dec44 o bb hn) ?_
  rintro r h' ⟨m1, ok, rfl, okm, m, da, hep⟩
  obtain ⟨i, hi, r1⟩ := SlIs.freeze okm.1
  refine ⟨i, m1, ok, rfl, r1, okm.ro i, m.ro_new ?_, da, fun j o e => Nat.le_of_lt (hep j o e)⟩
  rcases hi with ⟨o', e⟩ | k
  · exact Nat.le_of_lt (hep i o' e)
  · exact Nat.le_trans m.next k
def RRecvDQ (h : H) (ri : Nat) (d : RCId) (v : DV) (cv : CV) (now : Int) (og : Option GV) (r : V) (h' : H) : Prop :=
  ∃ q1 q2, r = .tup [.sl q1 (rcvO v cv now og).1.length, .sl q2 (rcvO v cv now og).2.length] ∧ Rws h' q1 (rcvO v cv now og).1 ∧ Msgs h' h.next q2 (rcvO v cv now og).2 ∧ RDrS h' ri d (rcvD v cv now og) (rcvC v cv now og) ∧ Ab.Mod (rdAll ri d) h h'
set_option maxHeartbeats 2000000 in
theorem rdRecv {h : H} {ri : Nat} {d : RCId} {v : DV} {cv : CV} (s : RDrS h ri d v cv) (g : CG cv) (hN : cv.cnt ≤ 1000000) (hNt : cv.N ≤ 1000000) {now : Int} (hn0 : -1000000000 ≤ now) (hn1 : now ≤ 1000000000) {p : Option (Nat × Nat)} {n : Nat} {b : List Int} (ob : SlIs h p n false 1 (ints .u8 b)) (bb : Bts b) (hn : n ≤ 800000) (hf : ∀ gg : GV, (recvV cv now gg).1.2.length ≤ 100000) :
    ACalls Tryz.prog 22 [.ptr (some (ri, 0)), i64 now, .sl p n] h (RRecvDQ h ri d v cv now (gOf b)) := by
  refine ACalls.ro (Q := fun r h' => ∃ (q1 q2 : Option (Nat × Nat)) (G : List Msg) (h3 : H), r = .tup [.sl q1 (rcvO v cv now (gOf b)).1.length, .sl q2 G.length] ∧ Rws h' q1 (rcvO v cv now (gOf b)).1 ∧ NewSl h3 h' q2 G.length 9 (G.flatMap Msg.cells) ∧ (∀ m ∈ G, m.ok h' ∧ ∀ i o, m.ep = some (i, o) → h.next ≤ i) ∧ G.map Msg.bare = (rcvO v cv now (gOf b)).2 ∧ RDrS h' ri d (rcvD v cv now (gOf b)) (rcvC v cv now (gOf b)) ∧ h.next ≤ h3.next ∧ Ab.Mod (one ri) h3 h' ∧ Ab.Mod (rdAll ri d) h h') ?_ (by
    rintro r h' ⟨q1, q2, G, h3, rfl, rw1, ng, ho, hG, sd, hh3, hm3, m⟩
    obtain ⟨i, a1, a2, a3⟩ := NewSl.freeze ng hm3
    have hGL : G.length = (rcvO v cv now (gOf b)).2.length := by rw [← hG, List.length_map]
    refine ⟨i, q1, q2, by rw [hGL], rw1.ro i, ⟨G, by rw [← hGL]; exact a2, fun m hm => ⟨(ho m hm).1.ro i, (ho m hm).2⟩, hG⟩, sd.ro (fun k => ?_), m.ro_new (Nat.le_trans hh3 a1)⟩
    have := s.lt k
    omega)
  have nay : ∀ og, rcvO v cv now og = ([], []) → rcvD v cv now og = v → rcvC v cv now og = cv → ∀ hh, RDrS hh ri d v cv → Ab.Mod none_ h hh → ∃ (q1 q2 : Option (Nat × Nat)) (G : List Msg) (h3 : H), V.tup [.sl none 0, .sl none 0] = .tup [.sl q1 (rcvO v cv now og).1.length, .sl q2 G.length] ∧ Rws hh q1 (rcvO v cv now og).1 ∧ NewSl h3 hh q2 G.length 9 (G.flatMap Msg.cells) ∧ (∀ m ∈ G, m.ok hh ∧ ∀ i o, m.ep = some (i, o) → h.next ≤ i) ∧ G.map Msg.bare = (rcvO v cv now og).2 ∧ RDrS hh ri d (rcvD v cv now og) (rcvC v cv now og) ∧ h.next ≤ h3.next ∧ Ab.Mod (one ri) h3 hh ∧ Ab.Mod (rdAll ri d) h hh := fun og e1 e2 e3 hh sc m => by
    rw [e1, e2, e3]
    exact ⟨none, none, [], hh, rfl, rws_nil _, NewSl.nil _ _ _, (fun x hx => by cases hx), rfl, sc, m.next, mod_refl _ _, m.mono (fun _ _ k => k.elim)⟩
  refine call_ Tryz.func22 rfl rfl (by kernel_rfl) ?_
  conv => whnf
  refine (gdec52 ob bb hn).mono ?_
  rintro _ h1 ⟨m1, e, rfl, ok1, mg, gd, rob⟩
  conv => whnf
  refine ⟨_, rfl, ?_⟩
  conv => whnf
  refine ⟨_, rfl, ?_⟩
  conv => whnf
  obtain ⟨g0, gx, mx⟩ := lay_row (h := h1) (sz := 6) [i64 0, i64 0, i64 0, i64 0, i64 0, .sl none 0] m1.cells
  refine ⟨_, _, g0, Nat.le_of_ble_eq_true rfl, ?_⟩
  conv => whnf
  refine ⟨[0, 1, 2, 3, 4, 5, 6, 7, 8, 9, 10, 11, 12, 13, 14, 15, 16, 17], [0, 1, 3, 7, 15, 31, 63, 127, 255, 511, 1023, 2047, 1023, 5119, 13311, 29695, 65535, 131071], by kernel_rfl, ?_⟩
  have sx := (s.old mg).old mx
  have mo := mod_none mg mx
  rcases gd.of with ⟨rfl, eo, enc⟩ | ⟨he, eo⟩
  rotate_left
  · rw [eo]
    rcases he with rfl | rfl
    · conv => whnf
      exact nay none rfl rfl rfl _ sx mo
    · conv => whnf
      exact nay none rfl rfl rfl _ sx mo
  have gok : GO (ofG m1) := ⟨ok1.2.1, enc.seq, ok1.2.2⟩
  have nay : recvX v (ofG m1) = false → ∀ hh, RDrS hh ri d v cv → Ab.Mod none_ h hh → ∃ (q1 q2 : Option (Nat × Nat)) (G : List Msg) (h3 : H), V.tup [.sl none 0, .sl none 0] = .tup [.sl q1 (rcvO v cv now (gOf b)).1.length, .sl q2 G.length] ∧ Rws hh q1 (rcvO v cv now (gOf b)).1 ∧ NewSl h3 hh q2 G.length 9 (G.flatMap Msg.cells) ∧ (∀ m ∈ G, m.ok hh ∧ ∀ i o, m.ep = some (i, o) → h.next ≤ i) ∧ G.map Msg.bare = (rcvO v cv now (gOf b)).2 ∧ RDrS hh ri d (rcvD v cv now (gOf b)) (rcvC v cv now (gOf b)) ∧ h.next ≤ h3.next ∧ Ab.Mod (one ri) h3 hh ∧ Ab.Mod (rdAll ri d) h hh := fun hx => by
    rw [eo]
    exact nay _ (by rw [rcvO, hx]; rfl) (by rw [rcvD, hx]; rfl) (by rw [rcvC, hx]; rfl)
  obtain ⟨pw, b1, b2⟩ := sx.box
  conv => whnf
  refine ⟨_, Cell.mk b1 rfl, ?_⟩
  cases el : v.live with
  | false =>
    conv => whnf
    exact nay (by rw [recvX, el]; rfl) _ sx mo
  | true =>
  conv => whnf
  refine ⟨_, Cell.mk gx rfl, ?_⟩
  conv => whnf
  refine ⟨_, Cell.mk b1 rfl, ?_⟩
  conv => whnf
  refine br_mk (fun hc => ?_) (fun hc => ?_)
  · have hc : ¬ m1.cn = v.conn := by simpa using hc
    conv => whnf
    exact nay (by rw [recvX, el, decide_eq_false (show ¬ (ofG m1).conn = v.conn from hc)]; rfl) _ sx mo
  have hc : m1.cn = v.conn := by simpa using hc
  have hX : recvX v (ofG m1) = true := by rw [recvX, el, decide_eq_true (show (ofG m1).conn = v.conn from hc)]; rfl
  clear nay
  conv => whnf
  refine ⟨_, Cell.mk gx rfl, ?_⟩
  conv => whnf
  refine br_mk (fun h3 => ?_) (fun h3 => ?_)
  · have h3 : m1.k = 3 := by simpa using h3
    have hk : (ofG m1).kind = 3 := h3
    have e1 : rcvO v cv now (some (ofG m1)) = ([], []) := by rw [rcvO, if_neg (fun k => k.2 hk)]
    have e2 : rcvD v cv now (some (ofG m1)) = { v with live := false, why := m1.cd } := by rw [rcvD, if_pos hX, if_pos hk]; rfl
    have e3 : rcvC v cv now (some (ofG m1)) = cv := by rw [rcvC, if_neg (fun k => k.2 hk)]
    conv => whnf
    refine ⟨[0, 1, 2, 3, 4, 5, 6, 7, 8, 9], [0, 0, 0, 4, 1, 17, 49, 127, 255, 511], by kernel_rfl, ?_⟩
    conv => whnf
    refine ⟨_, Cell.mk gx rfl, ?_⟩
    conv => whnf
    refine ⟨_, _, b1, Nat.le_of_ble_eq_true rfl, ?_⟩
    conv => whnf
    obtain ⟨s4, m4, b4, w4⟩ := sx.set (cs := rdrow v (.ptr (some (d.c, 0))) pw) b1 (v' := { v with live := false }) (pw' := pw) b2
    have hne : h1.next ≠ ri := fun k => by
      have := s.lt (i := ri) (.inl rfl)
      have := mg.next
      omega
    refine ⟨⟨_, Cell.mk (m4.get gx (.inl hne)) rfl, rfl⟩, ?_⟩
    conv => whnf
    refine ⟨_, _, b4, Nat.le_of_ble_eq_true rfl, ?_⟩
    conv => whnf
    obtain ⟨s5, m5, b5, w5⟩ := RDrS.set s4 (cs := rdrow { v with live := false } (.ptr (some (d.c, 0))) pw) b4 (v' := { v with live := false, why := m1.cd }) (pw' := pw) w4
    have m45 := m4.trans' m5 (S2 := one ri) (fun _ _ k => k) (fun _ _ k => k)
    have mF := mo.trans' m45 (S2 := rdAll ri d) (fun _ _ k => k.elim) (fun _ _ k => .inl k)
    rw [eo, e1, e2, e3]
    exact ⟨none, none, [], _, rfl, rws_nil _, NewSl.nil _ _ _, (fun x hx => by cases hx), rfl, s5, mF.next, mod_refl _ _, mF⟩
  have h3 : ¬ m1.k = 3 := by simpa using h3
  have hk : (ofG m1).kind ≠ 3 := h3
  have e1 : rcvO v cv now (some (ofG m1)) = ((recvV cv now (ofG m1)).1.2.map encV, gotV (recvV cv now (ofG m1)).1.1) := by rw [rcvO, if_pos ⟨hX, hk⟩]
  have e2 : rcvD v cv now (some (ofG m1)) = (gotV (recvV cv now (ofG m1)).1.1).foldl hearD v := by rw [rcvD, if_pos hX, if_neg hk]
  have e3 : rcvC v cv now (some (ofG m1)) = (recvV cv now (ofG m1)).2 := by rw [rcvC, if_pos ⟨hX, hk⟩]
  rw [eo, e1, e2, e3]
  clear e1 e2 e3
  conv => whnf
  refine ⟨[0, 1, 2, 3, 4, 5, 6, 7, 8, 9, 10, 11], [0, 1, 3, 7, 0, 0, 63, 127, 255, 255, 511, 2047], by kernel_rfl, ?_⟩
  conv => whnf
  refine ⟨_, Cell.mk b1 rfl, ?_⟩
  conv => whnf
  refine ⟨m1.cells, Cells.mk gx (Nat.le_of_ble_eq_true rfl) rfl, ?_⟩
  conv => whnf
  have hcnt : cv.s.N + cv.O.length ≤ 1000000 := hN
  refine (rRecv sx.ch g.ok (by omega) hNt hn0 hn1 (g := ofG m1) (p := m1.bp) (fun h' m' => RoSl.is ((rob.get mx).get m')) gok.seq gok.len).mono ?_
  rintro _ h3 ⟨q3, qg, rfl, rw3, gr, c3, m3⟩
  have pov := recv_ov g.ok g.ov (by omega) now gok
  have s3 : RDrS h3 ri d v (recvV cv now (ofG m1)).2 := ⟨⟨pw, m3.get b1 (.inl sx.sep), b2.get m3⟩, c3, sx.sep⟩
  have mo3 : Ab.Mod (rdAll ri d) h h3 := mo.trans' m3 (S2 := rdAll ri d) (fun _ _ k => k.elim) (fun _ _ k => .inr k)
  conv => whnf
  refine ⟨_, rfl, ?_⟩
  conv => whnf
  refine ⟨_, rfl, ?_⟩
  conv => whnf
  have bl := (recv_ln g.ln now gok.len).2
  have bo := pov.2.1
  have bn := pov.2.2.2.2.2.2
  obtain ⟨⟨⟨B, GL⟩, cv2⟩, eR⟩ : ∃ x, recvV cv now (ofG m1) = x := ⟨_, rfl⟩
  have hfR := hf (ofG m1)
  rw [eR] at bl bo bn rw3 gr s3 pov hfR ⊢
  have bl : ∀ b ∈ B, b.length ≤ 100000 := bl
  have bo : ∀ b ∈ B, Oct b := bo
  have bn : B.length ≤ 16 := bn
  have rw3 : Rws h3 q3 B := rw3
  have gr : Grams h3 qg GL := gr
  have hfR : GL.length ≤ 100000 := hfR
  have s3 : RDrS h3 ri d v cv2 := s3
  have pov : ∀ g' ∈ GL, GO g' := pov.2.2.1
  have hri3 : ri < h3.next := s3.lt (.inl rfl)
  have hall3 : ∀ i, rdAll ri d i → i < h3.next := fun i hi => s3.lt hi
  refine ⟨fun env hh => ∃ (j : Nat) (z : Int) (pq : Option (Nat × Nat)) (G : List Msg), j ≤ B.length ∧ z = j ∧ G.length ≤ j ∧ NewSl h3 hh pq G.length 9 (G.flatMap Msg.cells) ∧ (∀ m ∈ G, RoSl hh m.ep m.es.length 1 (ints .i64 m.es) ∧ (-9223372036854775808 ≤ m.e ∧ m.e ≤ 9223372036854775807 ∧ m.es.length ≤ 100000) ∧ ∀ i o, m.ep = some (i, o) → h3.next ≤ i) ∧ G.map Msg.bare = gotV (B.take j) ∧ RDrS hh ri d ((gotV (B.take j)).foldl hearD v) cv2 ∧ Ab.Mod (one ri) h3 hh ∧ env = [(13, i64 z), (12, .sl pq G.length), (11, .sl qg GL.length), (10, .sl q3 B.length), (0, .ptr (some (ri, 0)))],
    fun env _ => match get env 13 with
      | .int _ z => ((B.length : Int) - z).toNat
      | _ => 0, ⟨_, Forget.cons rfl (Forget.cons rfl (Forget.cons rfl (Forget.cons rfl (Forget.cons rfl (Forget.nil _))))), 0, _, none, [], Nat.zero_le _, rfl, Nat.le_refl _, NewSl.nil _ _ _, fun x hx => (by cases hx), rfl, s3, mod_refl _ _, rfl⟩, ?_⟩
  rintro _ hh ⟨j, z, pq, G, hj, rfl, hGj, no, ho, hG, sj, mj, rfl⟩
  conv => whnf
  refine br_mk (fun hd => ?_) (fun hd => ?_)
  rotate_left
  · conv => whnf
    have hd : ¬ j < B.length := by simpa using hd
    obtain rfl : j = B.length := by omega
    rw [List.take_length] at hG sj
    refine (rBytes (gr.get mj) (fun x hx => go_body (pov x hx)) hfR).mono ?_
    rintro _ h5 ⟨q5, rfl, rw5, m5⟩
    conv => whnf
    have hh3 : h.next ≤ h3.next := mo3.next
    exact ⟨q5, pq, G, h3, by rw [List.length_map], rw5, NewSl.kept no m5, fun m hm => ⟨⟨((ho m hm).1.get m5).is, (ho m hm).2.1⟩, fun i o e => Nat.le_trans hh3 ((ho m hm).2.2 i o e)⟩, hG, sj.old m5, hh3, mj.trans' m5 (S2 := one ri) (fun _ _ k => k) (fun _ _ k => k.elim), mo3.trans' (mj.trans' m5 (S2 := one ri) (fun _ _ k => k) (fun _ _ k => k.elim)) (fun _ _ k => k) (fun _ _ k => .inl k)⟩
  have hd : j < B.length := by simpa using hd
  obtain ⟨i1, c1, p1, f1, f2, f3⟩ := (rw3.get mj).cell hd
  have bj := bl _ (List.getElem_mem hd)
  have oj := bo _ (List.getElem_mem hd)
  conv => whnf
  refine ⟨i1, c1, j, f1, rfl, hd, ?_⟩
  conv => whnf
  refine ⟨_, f2, ?_⟩
  conv => whnf
  refine (dec44r f3 (oct_bts oj) bj).mono ?_
  rintro _ h6 ⟨m2, ok2, rfl, or2, okm, m6, da, hep⟩
  conv => whnf
  refine ⟨_, rfl, ?_⟩
  conv => whnf
  refine ⟨_, rfl, ?_⟩
  conv => whnf
  obtain ⟨g0', gx', mx'⟩ := lay_row (h := h6) (sz := 9) [i64 0, i64 0, i64 0, .sl none 0, i64 0, i64 0, i64 0, i64 0, i64 0] m2.cells
  refine ⟨_, _, g0', Nat.le_of_ble_eq_true rfl, ?_⟩
  conv => whnf
  have mn := mod_none m6 mx'
  have no2 := NewSl.kept no mn
  have sj2 := sj.old mn
  have mj2 := mj.trans' mn (S2 := one ri) (fun _ _ k => k) (fun _ _ k => k.elim)
  cases ok2 with
  | false =>
    have em : gotV (B.take (j + 1)) = gotV (B.take j) := by
      rw [gotV_snoc hd]
      rcases da with ⟨q, _⟩ | ⟨_, _, q⟩
      · cases q
      · rw [mOf_no q]
        simp
    rw [← em] at hG sj2
    conv => whnf
    rw [succ_i64 hd (by omega)]
    refine ⟨_, Forget.cons rfl (Forget.cons rfl (Forget.cons rfl (Forget.cons rfl (Forget.cons rfl (Forget.nil _))))), ⟨j + 1, _, pq, G, hd, rfl, by omega, no2, fun m hm => ⟨(ho m hm).1.get mn, (ho m hm).2⟩, hG, sj2, mj2, rfl⟩, ?_⟩
    show ((B.length : Int) - ((j + 1 : Nat) : Int)).toNat < ((B.length : Int) - (j : Int)).toNat
    omega
  | true =>
    have em : gotV (B.take (j + 1)) = gotV (B.take j) ++ [m2.bare] := by
      rw [gotV_snoc hd]
      rcases da with ⟨_, q, _⟩ | ⟨q, _, _⟩
      · rw [mOf_enc q]
        rfl
      · cases q
    have hn6 : h3.next ≤ h6.next := Nat.le_trans mj.next m6.next
    have hq6 : ∀ i, inSl pq i → h3.next ≤ i ∧ i < h6.next := fun i k => ⟨no.2 i _ k.choose_spec, Nat.lt_of_lt_of_le (SlIs.own_lt no.1 k) m6.next⟩
    conv => whnf
    refine ⟨m2.cells, Cells.mk gx' (Nat.le_of_ble_eq_true rfl) rfl, ?_⟩
    conv => whnf
    obtain ⟨y1, y2, y3⟩ := app1 no2 mj2 m2.cells rfl
    refine ⟨_, _, y1, y2, by show (G.length + 1) * 88 ≤ 70368744177664; omega, by omega, fun p' h' hs hm hf' => ?_⟩
    obtain ⟨ng, mg', my⟩ := y3 p' h' hs hm hf'
    have e6 : G.flatMap Msg.cells ++ m2.cells = (G ++ [m2]).flatMap Msg.cells := by simp
    rw [e6] at ng
    have elen : (G ++ [m2]).length = G.length + 1 := by simp
    rw [← elen] at ng ⊢
    have gx8 := my.get gx' (.inl (fun k => by have := (hq6 _ k).2; omega))
    have s8 : RDrS h' ri d ((gotV (B.take j)).foldl hearD v) cv2 := sj2.get my (fun i hi k => by
      have := hall3 i hi
      have := (hq6 i k).1
      omega)
    have ho8 : ∀ m ∈ G ++ [m2], RoSl h' m.ep m.es.length 1 (ints .i64 m.es) ∧ (-9223372036854775808 ≤ m.e ∧ m.e ≤ 9223372036854775807 ∧ m.es.length ≤ 100000) ∧ ∀ i o, m.ep = some (i, o) → h3.next ≤ i := fun m hm => by
      rcases List.mem_append.1 hm with hm | hm
      · exact ⟨((ho m hm).1.get mn).get my, (ho m hm).2⟩
      · rw [List.mem_singleton.1 hm]
        exact ⟨(or2.get mx').get my, okm.2, fun i o e => Nat.le_trans mj.next (hep i o e)⟩
    have or8 := (or2.get mx').get my
    conv => whnf
    refine ⟨_, Cell.mk gx8 rfl, ?_⟩
    obtain ⟨pv, b8, w8⟩ := s8.box
    obtain ⟨vj, evj⟩ : ∃ vj, (gotV (B.take j)).foldl hearD v = vj := ⟨_, rfl⟩
    have ef : (gotV (B.take (j + 1))).foldl hearD v = hearD vj m2 := by
      rw [em, List.foldl_append, evj]
      rfl
    rw [evj] at s8 b8 w8
    clear sj sj2
    conv => whnf
    refine br_mk (fun h5 => ?_) (fun h5 => ?_)
    · have h5 : m2.k = 5 := by simpa using h5
      have ed : hearD vj m2 = { vj with way := m2.es, has := true } := if_pos h5
      conv => whnf
      refine ⟨_, Cell.mk gx8 rfl, ?_⟩
      conv => whnf
      refine ⟨_, _, b8, Nat.le_of_ble_eq_true rfl, ?_⟩
      obtain ⟨s9, m9, b9, w9⟩ := s8.set (cs := rdrow vj (.ptr (some (d.c, 0))) pv) b8 (v' := { vj with way := m2.es }) (pw' := m2.ep) or8
      conv => whnf
      refine ⟨_, _, b9, Nat.le_of_ble_eq_true rfl, ?_⟩
      obtain ⟨sA, mA, bA, wA⟩ := RDrS.set s9 (cs := rdrow { vj with way := m2.es } (.ptr (some (d.c, 0))) m2.ep) b9 (v' := { vj with way := m2.es, has := true }) (pw' := m2.ep) w9
      have mB := m9.trans' mA (S2 := one ri) (fun _ _ k => k) (fun _ _ k => k)
      conv => whnf
      rw [succ_i64 hd (by omega)]
      have mjF := mg'.trans' mB (S2 := one ri) (fun _ _ k => k) (fun _ _ k => k)
      refine ⟨_, Forget.cons rfl (Forget.cons rfl (Forget.cons rfl (Forget.cons rfl (Forget.cons rfl (Forget.nil _))))), ⟨j + 1, _, p', G ++ [m2], hd, rfl, by omega, NewSl.keep ng mB (fun i k => by have k : i = ri := k; omega), fun m hm => ⟨(ho8 m hm).1.get mB, (ho8 m hm).2⟩, by rw [em, List.map_append, hG]; rfl, by rw [ef, ed]; exact sA, mjF, rfl⟩, ?_⟩
      show ((B.length : Int) - ((j + 1 : Nat) : Int)).toNat < ((B.length : Int) - (j : Int)).toNat
      omega
    have h5 : ¬ m2.k = 5 := by simpa using h5
    conv => whnf
    refine br_mk (fun h6' => ?_) (fun h6' => ?_)
    · have h6' : m2.k = 6 := by simpa using h6'
      have ed : hearD vj m2 = { vj with way := [], has := false } := by rw [hearD, if_neg h5, if_pos h6']
      conv => whnf
      refine ⟨_, _, b8, Nat.le_of_ble_eq_true rfl, ?_⟩
      obtain ⟨s9, m9, b9, w9⟩ := s8.set (cs := rdrow vj (.ptr (some (d.c, 0))) pv) b8 (v' := { vj with way := [] }) (pw' := none) ⟨rfl, .inl rfl⟩
      conv => whnf
      refine ⟨_, _, b9, Nat.le_of_ble_eq_true rfl, ?_⟩
      obtain ⟨sA, mA, bA, wA⟩ := RDrS.set s9 (cs := rdrow { vj with way := [] } (.ptr (some (d.c, 0))) none) b9 (v' := { vj with way := [], has := false }) (pw' := none) w9
      have mB := m9.trans' mA (S2 := one ri) (fun _ _ k => k) (fun _ _ k => k)
      conv => whnf
      rw [succ_i64 hd (by omega)]
      have mjF := mg'.trans' mB (S2 := one ri) (fun _ _ k => k) (fun _ _ k => k)
      refine ⟨_, Forget.cons rfl (Forget.cons rfl (Forget.cons rfl (Forget.cons rfl (Forget.cons rfl (Forget.nil _))))), ⟨j + 1, _, p', G ++ [m2], hd, rfl, by omega, NewSl.keep ng mB (fun i k => by have k : i = ri := k; omega), fun m hm => ⟨(ho8 m hm).1.get mB, (ho8 m hm).2⟩, by rw [em, List.map_append, hG]; rfl, by rw [ef, ed]; exact sA, mjF, rfl⟩, ?_⟩
      show ((B.length : Int) - ((j + 1 : Nat) : Int)).toNat < ((B.length : Int) - (j : Int)).toNat
      omega
    · have h6' : ¬ m2.k = 6 := by simpa using h6'
      have ed : hearD vj m2 = vj := by rw [hearD, if_neg h5, if_neg h6']
      have sA := s8
      have mB := mod_refl (one ri) h'
      conv => whnf
      rw [succ_i64 hd (by omega)]
      have mjF := mg'.trans' mB (S2 := one ri) (fun _ _ k => k) (fun _ _ k => k)
      refine ⟨_, Forget.cons rfl (Forget.cons rfl (Forget.cons rfl (Forget.cons rfl (Forget.cons rfl (Forget.nil _))))), ⟨j + 1, _, p', G ++ [m2], hd, rfl, by omega, NewSl.keep ng mB (fun i k => by have k : i = ri := k; omega), fun m hm => ⟨(ho8 m hm).1.get mB, (ho8 m hm).2⟩, by rw [em, List.map_append, hG]; rfl, by rw [ef, ed]; exact sA, mjF, rfl⟩, ?_⟩
      show ((B.length : Int) - ((j + 1 : Nat) : Int)).toNat < ((B.length : Int) - (j : Int)).toNat
      omega
end Go.Proofs.YtmififfaljihgaaGreat
