/- The document's driver: what lies in memory; a new one; a message that is pushed; Start. -/
import Derived.Test.YtmififfaljihgaaGreatG8
import Derived.Test.YtmififfaljihgaaGreatG9
set_option linter.unusedVariables false
namespace Go.Proofs.YtmififfaljihgaaGreat
open Go Go.Ab
abbrev rdrow (v : DV) (ch : V) (pw : Option (Nat × Nat)) : List V := [i64 v.c.sess, i64 v.c.win, i64 v.c.retry, i64 v.c.base, i64 v.c.cap, i64 v.c.idle, i64 v.conn, ch, .bool v.live, i64 v.why, i64 v.pos, .sl pw v.way.length, .bool v.has]
structure RDrS (h : H) (ri : Nat) (d : RCId) (v : DV) (cv : CV) : Prop where
  box : ∃ pw, h.obj ri = some (.row true 13 (rdrow v (.ptr (some (d.c, 0))) pw)) ∧ RoSl h pw v.way.length 1 (ints .i64 v.way)
  ch : RChS h d cv
  sep : ¬ d.all ri
def RDrN (h : H) (ri : Nat) (v : DV) : Prop := ∃ pw, h.obj ri = some (.row true 13 (rdrow v (.ptr none) pw)) ∧ RoSl h pw v.way.length 1 (ints .i64 v.way)
def RDrB (h : H) (ri : Nat) (v : DV) : Prop := ∃ ch pw, h.obj ri = some (.row true 13 (rdrow v ch pw)) ∧ RoSl h pw v.way.length 1 (ints .i64 v.way)
def rdAll (ri : Nat) (d : RCId) : Nat → Prop := fun i => i = ri ∨ d.all i
section
variable {h h' : H} {ri : Nat} {d : RCId} {v : DV} {cv : CV}
theorem RDrS.b (s : RDrS h ri d v cv) : RDrB h ri v := by
  obtain ⟨pw, h1, h2⟩ := s.box
  exact ⟨_, pw, h1, h2⟩
theorem RDrN.b (s : RDrN h ri v) : RDrB h ri v := by
  obtain ⟨pw, h1, h2⟩ := s
  exact ⟨_, pw, h1, h2⟩
theorem RDrS.get {Z : Nat → Prop} (s : RDrS h ri d v cv) (m : Ab.Mod Z h h') (hz : ∀ i, rdAll ri d i → ¬ Z i) : RDrS h' ri d v cv := by
  obtain ⟨⟨pw, h1, h2⟩, h3, h4⟩ := s
  exact ⟨⟨pw, m.get h1 (.inl (hz _ (.inl rfl))), h2.get m⟩, h3.get m (fun i hi => hz i (.inr hi)), h4⟩
theorem RDrS.old (s : RDrS h ri d v cv) (m : Ab.Mod none_ h h') : RDrS h' ri d v cv := s.get m (fun _ _ k => k)
theorem RDrS.lt (s : RDrS h ri d v cv) {i : Nat} (hi : rdAll ri d i) : i < h.next := by
  obtain ⟨⟨pw, h1, h2⟩, h3, h4⟩ := s
  rcases hi with rfl | hi
  · exact h.lt _ _ h1
  · exact h3.lt hi
theorem RDrN.get {Z : Nat → Prop} (s : RDrN h ri v) (m : Ab.Mod Z h h') (hz : ¬ Z ri) : RDrN h' ri v := by
  obtain ⟨pw, h1, h2⟩ := s
  exact ⟨pw, m.get h1 (.inl hz), h2.get m⟩
theorem RDrB.get {Z : Nat → Prop} (s : RDrB h ri v) (m : Ab.Mod Z h h') (hz : ¬ Z ri) : RDrB h' ri v := by
  obtain ⟨ch, pw, h1, h2⟩ := s
  exact ⟨ch, pw, m.get h1 (.inl hz), h2.get m⟩
theorem RDrS.ro (s : RDrS h ri d v cv) {i : Nat} (hi : ¬ rdAll ri d i) : RDrS (h.ro i) ri d v cv := by
  obtain ⟨⟨pw, h1, h2⟩, h3, h4⟩ := s
  exact ⟨⟨pw, by rw [H.ro_ne _ (fun k => hi (.inl k.symm)), h1], h2.ro i⟩, h3.ro (fun k => hi (.inr k)), h4⟩
/-- a row of the document's driver that is written -/
theorem rset {v' : DV} {ch ch' : V} {pw pw' : Option (Nat × Nat)} (b : h.obj ri = some (.row true 13 (rdrow v ch pw))) :
    Ab.Mod (one ri) h (h.set ri (.row true 13 (rdrow v' ch' pw'))) ∧ (h.set ri (.row true 13 (rdrow v' ch' pw'))).obj ri = some (.row true 13 (rdrow v' ch' pw')) :=
  ⟨Mod.set rfl b rfl, H.obj_set_same b⟩
end
theorem rWithin (h : H) (x lo hi : Int) : ACalls Tryz.prog 37 [i64 x, i64 lo, i64 hi] h (fun r h' => h' = h ∧ r = .bool (inR x lo hi)) := by
  refine call_ Tryz.func37 rfl rfl (by kernel_rfl) ?_
  conv => whnf
  refine br_mk (fun ha => ?_) (fun ha => ?_)
  · conv => whnf
    have ha : lo ≤ x := by simpa using ha
    exact ⟨rfl, by rw [inR, decide_eq_true ha, Bool.true_and]⟩
  · conv => whnf
    have ha : ¬ lo ≤ x := by simpa using ha
    exact ⟨rfl, by rw [inR, decide_eq_false ha, Bool.false_and]⟩
theorem rdNew (h : H) (c : Cfg) : ACalls Tryz.prog 7 [.agg c.cells] h (fun r h' => (okCfg c = false ∧ r = .ptr none ∧ Ab.Mod none_ h h') ∨ (okCfg c = true ∧ ∃ ri, r = .ptr (some (ri, 0)) ∧ RDrN h' ri (DV.new c) ∧ h.next ≤ ri ∧ Ab.Mod none_ h h')) := by
  refine call_ Tryz.func7 rfl rfl (by kernel_rfl) ?_
  conv => whnf
  have mP := Mod.push none_ h (.row true 6 c.cells)
  have gm : (h.push (.row true 6 c.cells)).obj h.next = some (.row true 6 c.cells) := H.obj_push_new _ _
  refine ⟨c.cells, Cells.mk gm (Nat.le_of_ble_eq_true rfl) rfl, ?_⟩
  conv => whnf
  refine (rCheck _ c).mono ?_
  rintro _ h1 ⟨rfl, m1⟩
  have gm := m1.get gm (.inl (fun k => k))
  have mo := mod_none mP m1
  cases ok : okCfg c with
  | false =>
    conv => whnf
    exact .inl ⟨rfl, rfl, mo⟩
  | true =>
    conv => whnf
    refine ⟨c.cells, Cells.mk gm (Nat.le_of_ble_eq_true rfl) rfl, ?_⟩
    conv => whnf
    have q4 := Mod.push none_ h1 (.row true 13 (rdrow (DV.new c) (.ptr none) none))
    exact .inr ⟨rfl, h1.next, rfl, ⟨none, H.obj_push_new h1 _, ⟨rfl, .inl rfl⟩⟩, mo.next, mod_none mo q4⟩
set_option maxHeartbeats 1000000 in
theorem rBytes {h : H} {q : Option (Nat × Nat)} {L : List GV} (s : Grams h q L) (hb : ∀ g ∈ L, bodyOk g) (hL : L.length ≤ 100000) : ACalls Tryz.prog 43 [.sl q L.length] h (DgQ L h) := by
  refine ACalls.ro (Q := fun r h' => ∃ (po : Option (Nat × Nat)) (G : List Bd), r = .sl po L.length ∧ NewSl h h' po L.length 1 (G.flatMap slC) ∧ (∀ x ∈ G, bOk h' x) ∧ G.map Prod.snd = L.map encV ∧ Ab.Mod none_ h h') ?_ (by
    rintro r h' ⟨po, G, rfl, n, ho, hG, m⟩
    obtain ⟨i, a1, a2, a3⟩ := n.freeze m
    exact ⟨i, po, rfl, ⟨G, by rw [List.length_map]; exact a2, fun x hx => (ho x hx).ro i, hG⟩, a3⟩)
  refine call_ Tryz.func43 rfl rfl (by kernel_rfl) ?_
  conv => whnf
  refine ⟨fun env hh => ∃ (j : Nat) (z : Int) (po : Option (Nat × Nat)) (G : List Bd), j ≤ L.length ∧ z = j ∧ NewSl h hh po j 1 (G.flatMap slC) ∧ (∀ x ∈ G, bOk hh x) ∧ G.map Prod.snd = (L.take j).map encV ∧ Ab.Mod none_ h hh ∧ env = [(4, i64 z), (3, .sl po j), (0, .sl q L.length)],
    fun env _ => match get env 4 with
      | .int _ z => ((L.length : Int) - z).toNat
      | _ => 0, ⟨_, Forget.cons rfl (Forget.cons rfl (Forget.cons rfl (Forget.nil _))), 0, _, none, [], Nat.zero_le _, rfl, NewSl.nil _ _ _, fun x hx => (by cases hx), rfl, mod_refl _ _, rfl⟩, ?_⟩
  rintro _ hh ⟨j, z, po, G, hj, rfl, no, ho, hG, mo, rfl⟩
  conv => whnf
  refine br_mk (fun hd => ?_) (fun hd => ?_)
  rotate_left
  · conv => whnf
    have hd : ¬ j < L.length := by simpa using hd
    obtain rfl : j = L.length := by omega
    rw [List.take_length] at hG
    exact ⟨po, G, rfl, no, ho, hG, mo⟩
  have hd : j < L.length := by simpa using hd
  obtain ⟨i1, c1, p1, f1, f2, f3, f4⟩ := (s.get mo).cell hd
  have bj := hb _ (List.getElem_mem hd)
  conv => whnf
  refine ⟨i1, c1, j, f1, rfl, hd, ?_⟩
  conv => whnf
  refine ⟨_, f2, ?_⟩
  conv => whnf
  refine (gref50 (toG L[j] p1) (toG_ok f4 bj)).mono ?_
  rintro _ h3 ⟨q3, rfl, o3, m3⟩
  rw [encV_to] at o3 ⊢
  have mo3 := mod_none mo m3
  have no3 := NewSl.kept no m3
  have ho3 : ∀ x ∈ G, bOk h3 x := fun x hx => (ho x hx).get m3
  conv => whnf
  refine ⟨_, rfl, ?_⟩
  conv => whnf
  refine ⟨_, rfl, ?_⟩
  conv => whnf
  obtain ⟨y1, y2, y3⟩ := app1 no3 mo3 [slV (q3, encV L[j])] rfl
  refine ⟨_, _, y1, y2, by show (j + 1) * 24 ≤ 70368744177664; omega, by omega, fun p' h' hs hm hf => ?_⟩
  obtain ⟨ng, mg, my⟩ := y3 p' h' hs hm hf
  have e6 : G.flatMap slC ++ [slV (q3, encV L[j])] = (G ++ [(q3, encV L[j])]).flatMap slC := by simp [slC]
  rw [e6] at ng
  conv => whnf
  rw [succ_i64 hd (by omega)]
  refine ⟨_, Forget.cons rfl (Forget.cons rfl (Forget.cons rfl (Forget.nil _))), ⟨j + 1, _, p', G ++ [(q3, encV L[j])], hd, rfl, ng, fun x hx => ?_, ?_, mg, rfl⟩, ?_⟩
  · rcases List.mem_append.1 hx with hx | hx
    · exact (ho3 x hx).get my
    · rw [List.mem_singleton.1 hx]
      exact RoSl.get (show RoSl h3 q3 (encV L[j]).length 1 (ints .u8 (encV L[j])) from o3) my
  · rw [List.map_append, hG, List.take_succ_eq_append_getElem hd, List.map_append]
    rfl
  · show ((L.length : Int) - ((j + 1 : Nat) : Int)).toNat < ((L.length : Int) - (j : Int)).toNat
    omega
def RDPushQ (h : H) (ri : Nat) (d : RCId) (v : DV) (R : (List GV × Int) × CV) (r : V) (h' : H) : Prop :=
  ∃ q, r = .tup [.sl q (R.1.1.map encV).length, i64 R.1.2] ∧ Rws h' q (R.1.1.map encV) ∧ RDrS h' ri d v R.2 ∧ Ab.Mod d.all h h'
set_option maxHeartbeats 1000000 in
theorem rdPush {h : H} {ri : Nat} {d : RCId} {v : DV} {cv : CV} (s : RDrS h ri d v cv) (g : CG cv) (hN : cv.cnt ≤ 1000000) {now : Int} (hn0 : -1000000000 ≤ now) (hn1 : now ≤ 1000000000) (m : Msg) (ok : m.ok h) (hl : (encB m).length ≤ 100000) (hf : ∀ b : List Int, (pushV cv now b).1.1.length ≤ 100000) :
    ACalls Tryz.prog 39 [.ptr (some (ri, 0)), i64 now, .agg m.cells] h (RDPushQ h ri d v (pushV cv now (encB m))) := by
  refine call_ Tryz.func39 rfl rfl (by kernel_rfl) ?_
  conv => whnf
  have mb := Mod.push none_ h (.row true 9 m.cells)
  have gb : (h.push (.row true 9 m.cells)).obj h.next = some (.row true 9 m.cells) := H.obj_push_new _ _
  refine ⟨m.cells, Cells.mk gb (Nat.le_of_ble_eq_true rfl) rfl, ?_⟩
  conv => whnf
  refine (ref42 m (ok.old mb (fun _ _ k => k))).mono ?_
  rintro _ h2 ⟨q2, rfl, o2, m2⟩
  have mo := mod_none mb m2
  have s2 := s.old mo
  conv => whnf
  refine ⟨_, rfl, ?_⟩
  conv => whnf
  refine ⟨_, rfl, ?_⟩
  conv => whnf
  obtain ⟨pw, b1, b2⟩ := s2.box
  refine ⟨_, Cell.mk b1 rfl, ?_⟩
  conv => whnf
  have hcnt : cv.s.N + cv.O.length ≤ 1000000 := hN
  refine (rPush s2.ch g.ok (by omega) hn0 hn1 (show SlIs h2 q2 (encB m).length false 1 (ints .u8 (encB m)) from o2.is) hl).mono ?_
  rintro _ h3 ⟨q3, rfl, gr, c3, m3⟩
  conv => whnf
  refine ⟨_, rfl, ?_⟩
  conv => whnf
  refine ⟨_, rfl, ?_⟩
  conv => whnf
  have pov := push_ov g.ok g.ov (by omega) now (encB_oct m) hl
  refine (rBytes gr (fun x hx => go_body (pov.2.1 x hx)) (hf _)).mono ?_
  rintro _ h4 ⟨q4, rfl, rw4, m4⟩
  conv => whnf
  have b3 := (m3.get b1 (.inl s.sep))
  have b4 := m4.get b3 (.inl (fun k => k))
  exact ⟨q4, by rw [List.length_map], rw4, ⟨⟨pw, b4, (b2.get m3).get m4⟩, c3.old m4, s.sep⟩, mo.trans' (m3.trans' m4 (S2 := d.all) (fun _ _ k => k) (fun _ _ k => k.elim)) (fun _ _ k => k.elim) (fun _ _ k => k)⟩
def RStartQ (h : H) (ri : Nat) (v : DV) (now a n : Int) (r : V) (h' : H) : Prop :=
  ((inR a 0 65535 = false ∨ inR n 0 65535 = false) ∧ r = .tup [.sl none 0, i64 1] ∧ h' = h) ∨
  (inR a 0 65535 = true ∧ inR n 0 65535 = true ∧ ∃ d q, r = .tup [.sl q ((startR v now a n).1.1.map encV).length, i64 (startR v now a n).1.2] ∧ Rws h' q ((startR v now a n).1.1.map encV) ∧ RDrS h' ri d (startD v a) (startR v now a n).2 ∧ (∀ i, d.all i → h.next ≤ i) ∧ Ab.Mod (one ri) h h')
set_option maxHeartbeats 1000000 in
theorem rdStart {h : H} {ri : Nat} {v : DV} (s : RDrB h ri v) (ok : okCfg v.c = true) (hc : 0 ≤ v.conn ∧ v.conn ≤ 1000000) {now : Int} (hn0 : -1000000000 ≤ now) (hn1 : now ≤ 1000000000) (a n : Int) (hf : ∀ b : List Int, (pushV (CV.new v.c (v.conn + 1)) now b).1.1.length ≤ 100000) (hl : (encB (openM a n)).length ≤ 100000) :
    ACalls Tryz.prog 9 [.ptr (some (ri, 0)), i64 now, i64 a, i64 n] h (RStartQ h ri v now a n) := by
  obtain ⟨ch, pw, b, rw0⟩ := s
  have hri := h.lt _ _ b
  refine call_ Tryz.func9 rfl rfl (by kernel_rfl) ?_
  conv => whnf
  refine (rWithin _ a 0 65535).mono ?_
  rintro _ h1 ⟨eh, rfl⟩
  rw [eh]
  clear eh h1
  cases e1 : inR a 0 65535 with
  | false =>
    conv => whnf
    exact .inl ⟨.inl e1, rfl, rfl⟩
  | true =>
  conv => whnf
  refine (rWithin _ n 0 65535).mono ?_
  rintro _ h1 ⟨eh, rfl⟩
  rw [eh]
  clear eh h1
  cases e2 : inR n 0 65535 with
  | false =>
    conv => whnf
    exact .inl ⟨.inr e2, rfl, rfl⟩
  | true =>
  have hw : IntKind.i64.wrap (v.conn + 1) = v.conn + 1 := wrap_i64 (by omega) (by omega)
  have okc : okCh v.c (v.conn + 1) = true := by
    rw [okCh, ok, inR_iff.2 ⟨by omega, by omega⟩]
    rfl
  conv => whnf
  refine ⟨_, Cell.mk b rfl, ?_⟩
  conv => whnf
  rw [hw]
  refine ⟨_, _, b, Nat.le_of_ble_eq_true rfl, ?_⟩
  obtain ⟨n1, b1⟩ := rset (v' := { v with conn := v.conn + 1 }) (ch' := ch) (pw' := pw) b
  conv => whnf
  refine ⟨[0, 1, 2, 3, 4, 5, 6, 7, 8, 9, 10, 11, 12], [0, 0, 2, 6, 14, 0, 32, 96, 224, 510, 1023, 2047, 4095], by kernel_rfl, ?_⟩
  conv => whnf
  refine ⟨v.c.cells, Cells.mk b1 (Nat.le_of_ble_eq_true rfl) rfl, ?_⟩
  conv => whnf
  refine ⟨_, Cell.mk b1 rfl, ?_⟩
  conv => whnf
  refine (rcNew _ v.c (v.conn + 1)).mono ?_
  rintro _ h2 (⟨q, _⟩ | ⟨_, d, rfl, c2, nd, m2⟩)
  · rw [okc] at q
    cases q
  have b2 := m2.get b1 (.inl (fun k => k))
  have nx : h.next ≤ h2.next := Nat.le_trans n1.next m2.next
  conv => whnf
  refine ⟨_, _, b2, Nat.le_of_ble_eq_true rfl, ?_⟩
  obtain ⟨n3, b3⟩ := rset (v' := { v with conn := v.conn + 1 }) (ch' := .ptr (some (d.c, 0))) (pw' := pw) b2
  conv => whnf
  refine ⟨_, _, b3, Nat.le_of_ble_eq_true rfl, ?_⟩
  obtain ⟨n4, b4⟩ := rset (v' := { v with conn := v.conn + 1, live := true }) (ch' := .ptr (some (d.c, 0))) (pw' := pw) b3
  conv => whnf
  refine ⟨_, _, b4, Nat.le_of_ble_eq_true rfl, ?_⟩
  obtain ⟨n5, b5⟩ := rset (v' := { v with conn := v.conn + 1, live := true, why := 0 }) (ch' := .ptr (some (d.c, 0))) (pw' := pw) b4
  conv => whnf
  refine ⟨_, _, b5, Nat.le_of_ble_eq_true rfl, ?_⟩
  obtain ⟨n6, b6⟩ := rset (v' := { v with conn := v.conn + 1, live := true, why := 0, pos := a }) (ch' := .ptr (some (d.c, 0))) (pw' := pw) b5
  conv => whnf
  refine ⟨_, _, b6, Nat.le_of_ble_eq_true rfl, ?_⟩
  obtain ⟨n7, b7⟩ := rset (v' := { v with conn := v.conn + 1, live := true, why := 0, pos := a, way := [] }) (ch' := .ptr (some (d.c, 0))) (pw' := none) b6
  conv => whnf
  refine ⟨_, _, b7, Nat.le_of_ble_eq_true rfl, ?_⟩
  obtain ⟨n8, b8⟩ := rset (v' := startD v a) (ch' := .ptr (some (d.c, 0))) (pw' := none) b7
  conv => whnf
  have T : ∀ {x y z : H}, Ab.Mod (one ri) x y → Ab.Mod (one ri) y z → Ab.Mod (one ri) x z := fun m m' => m.trans' m' (S2 := one ri) (fun _ _ k => k) (fun _ _ k => k)
  have mS := T n3 (T n4 (T n5 (T n6 (T n7 n8))))
  have hnd : ∀ i, d.all i → ¬ one ri i := fun i hi k => by
    have k : i = ri := k
    have := nd i hi
    have : h.next ≤ i := Nat.le_trans n1.next this
    omega
  have s3 : RDrS _ ri d (startD v a) (CV.new v.c (v.conn + 1)) := ⟨⟨none, b8, ⟨rfl, .inl rfl⟩⟩, c2.get mS hnd, fun hi => hnd ri hi rfl⟩
  refine (rdPush s3 ⟨new_cok okc, new_ov _ _, fun x hx => (by cases hx)⟩ (show ((0 : Int) + ((0 : Nat) : Int)) ≤ 1000000 by decide) hn0 hn1 (openM a n) (openM_ok _ a n) hl hf).mono ?_
  rintro _ h9 ⟨q9, rfl, rw9, s9, m9⟩
  conv => whnf
  refine ⟨_, rfl, ?_⟩
  conv => whnf
  refine ⟨_, rfl, ?_⟩
  conv => whnf
  refine .inr ⟨e1, e2, d, q9, rfl, rw9, s9, fun i hi => Nat.le_trans n1.next (nd i hi), ?_⟩
  have nm : Ab.Mod (one ri) h h2 := n1.trans' m2 (S2 := one ri) (fun _ _ k => k) (fun _ _ k => k.elim)
  have nm2 := mS.trans' m9 (S2 := fun i => one ri i ∨ h.next ≤ i) (fun _ _ k => .inl k) (fun i _ k => .inr (Nat.le_trans n1.next (nd i k)))
  exact nm.trans' nm2 (S2 := one ri) (fun _ _ k => k) (fun i hi k => k.elim (fun k => k) (fun k => absurd hi (by omega)))
end Go.Proofs.YtmififfaljihgaaGreat
