/- G6: texts of another seat, turned to this one. -/
import Derived.Test.YtmififfaljihgaaGreatG5
import Derived.Test.YtmififfaljihgaaGreatGE4
set_option linter.unusedVariables false
set_option linter.unusedSimpArgs false
namespace Go.Proofs.YtmififfaljihgaaGreat
open Go Go.Ab Go.Shelf
/-- a datagram, as the codec has it -/
def toG (g : GV) (p : Option (Nat × Nat)) : Grm := ⟨g.conn, g.kind, g.seq, g.ack, g.code, p, g.body⟩
def encV (g : GV) : List Int := encG (toG g none)
theorem encV_to (g : GV) (p : Option (Nat × Nat)) : encG (toG g p) = encV g := rfl
def bodyOk (g : GV) : Prop := Bts g.body ∧ g.body.length ≤ 100000
theorem toG_ok {h : H} {g : GV} {p : Option (Nat × Nat)} (o : gOk h (g, p)) (b : bodyOk g) : (toG g p).ok h := ⟨o.is, b⟩
def DgQ (L : List GV) (h : H) (r : V) (h' : H) : Prop := ∃ q, r = .sl q L.length ∧ Rws h' q (L.map encV) ∧ Ab.Mod none_ h h'
set_option maxHeartbeats 1000000 in
theorem dgrams41 {h : H} {q : Option (Nat × Nat)} {L : List GV} (s : Grams h q L) (hb : ∀ g ∈ L, bodyOk g) (hL : L.length ≤ 100000) : ACalls Tryz.prog 41 [.sl q L.length] h (DgQ L h) := by
  refine ACalls.ro (Q := fun r h' => ∃ (po : Option (Nat × Nat)) (G : List Bd), r = .sl po L.length ∧ NewSl h h' po L.length 1 (G.flatMap slC) ∧ (∀ x ∈ G, bOk h' x) ∧ G.map Prod.snd = L.map encV ∧ Ab.Mod none_ h h') ?_ (by
    rintro r h' ⟨po, G, rfl, n, ho, hG, m⟩
    obtain ⟨i, a1, a2, a3⟩ := n.freeze m
    exact ⟨i, po, rfl, ⟨G, by rw [List.length_map]; exact a2, fun x hx => (ho x hx).ro i, hG⟩, a3⟩)
  refine call_ Tryz.func41 rfl rfl (by kernel_rfl) ?_
  conv => whnf
  refine ⟨fun env hh => ∃ (j : Nat) (z : Int) (po : Option (Nat × Nat)) (G : List Bd), j ≤ L.length ∧ z = j ∧ NewSl h hh po j 1 (G.flatMap slC) ∧ (∀ x ∈ G, bOk hh x) ∧ G.map Prod.snd = (L.take j).map encV ∧ Ab.Mod none_ h hh ∧ env = [(9, i64 z), (2, .sl po j), (8, i64 L.length), (7, .sl q L.length)],
    fun env _ => match get env 9 with
      | .int _ z => ((L.length : Int) - z).toNat
      | _ => 0, ⟨_, Forget.cons rfl (Forget.cons rfl (Forget.cons rfl (Forget.cons rfl (Forget.nil _)))), 0, _, none, [], Nat.zero_le _, rfl, NewSl.nil _ _ _, fun x hx => (by cases hx), rfl, mod_refl _ _, rfl⟩, ?_⟩
  rintro _ hh ⟨j, z, po, G, hj, rfl, no, ho, hG, mo, rfl⟩
  conv => whnf
  refine br_mk (fun hd => ?_) (fun hd => ?_)
  rotate_left
  · conv => whnf
    have hd : ¬ j < L.length := by simpa using hd
    obtain rfl : j = L.length := by omega
    rw [List.take_length] at hG
    exact ⟨po, G, rfl, no, ho, hG, mo⟩
  have hd : j < L.length := by simpa using hd
  obtain ⟨i1, c1, p1, f1, f2, f3, f4⟩ := (s.get mo).cell hd
  have bj := hb _ (List.getElem_mem hd)
  conv => whnf
  refine ⟨i1, c1, j, f1, rfl, hd, ?_⟩
  conv => whnf
  refine ⟨_, f2, ?_⟩
  conv => whnf
  obtain ⟨g0, gx, mx⟩ := lay_row (h := hh) (sz := 6) [i64 0, i64 0, i64 0, i64 0, i64 0, .sl none 0] (gC (L[j], p1))
  refine ⟨_, _, g0, Nat.le_of_ble_eq_true rfl, ?_⟩
  conv => whnf
  refine ⟨gC (L[j], p1), Cells.mk gx (Nat.le_of_ble_eq_true rfl) rfl, ?_⟩
  conv => whnf
  refine (genc49 (toG L[j] p1) (toG_ok (f4.get mx) bj)).mono ?_
  rintro _ h3 ⟨q3, rfl, o3, m3⟩
  rw [encV_to] at o3 ⊢
  have mo3 := mod_none mo (mod_none mx m3)
  have no3 := NewSl.kept no (mod_none mx m3)
  have ho3 : ∀ x ∈ G, bOk h3 x := fun x hx => ((ho x hx).get mx).get m3
  conv => whnf
  refine ⟨_, rfl, ?_⟩
  conv => whnf
  refine ⟨_, rfl, ?_⟩
  conv => whnf
  obtain ⟨y1, y2, y3⟩ := app1 no3 mo3 [slV (q3, encV L[j])] rfl
  refine ⟨_, _, y1, y2, by rw [show (T.at_ 38).bytes = 24 from rfl]; omega, by omega, fun p' h' hs hm hf => ?_⟩
  obtain ⟨ng, mg, my⟩ := y3 p' h' hs hm hf
  have e6 : G.flatMap slC ++ [slV (q3, encV L[j])] = (G ++ [(q3, encV L[j])]).flatMap slC := by simp [slC]
  rw [e6] at ng
  conv => whnf
  rw [succ_i64 hd (by omega)]
  refine ⟨_, Forget.cons rfl (Forget.cons rfl (Forget.cons rfl (Forget.cons rfl (Forget.nil _)))), ⟨j + 1, _, p', G ++ [(q3, encV L[j])], hd, rfl, ng, fun x hx => ?_, ?_, mg, rfl⟩, ?_⟩
  · rcases List.mem_append.1 hx with hx | hx
    · exact (ho3 x hx).get my
    · rw [List.mem_singleton.1 hx]
      exact RoSl.get (show RoSl h3 q3 (encV L[j]).length 1 (ints .u8 (encV L[j])) from o3) my
  · rw [List.map_append, hG, List.take_succ_eq_append_getElem hd, List.map_append]
    rfl
  · show ((L.length : Int) - ((j + 1 : Nat) : Int)).toNat < ((L.length : Int) - (j : Int)).toNat
    omega
structure DV where
  c : Cfg
  conn : Int
  live : Bool
  why : Int
  pos : Int
  way : List Int
  has : Bool
abbrev drow (v : DV) (ch : V) (pw : Option (Nat × Nat)) : List V := [i64 v.c.sess, i64 v.c.win, i64 v.c.retry, i64 v.c.base, i64 v.c.cap, i64 v.c.idle, ch, i64 v.conn, .bool v.live, i64 v.why, i64 v.pos, .sl pw v.way.length, .bool v.has]
/-- a driver that has a channel -/
structure DrS (h : H) (di : Nat) (d : CId) (po : Option (Nat × Nat)) (v : DV) (cv : CV) : Prop where
  box : ∃ pw, h.obj di = some (.row true 13 (drow v (.ptr (some (d.c, 0))) pw)) ∧ RoSl h pw v.way.length 1 (ints .i64 v.way)
  ch : ChS h d po cv
  sep : ¬ chAll d po di
/-- a driver that never started -/
def DrN (h : H) (di : Nat) (v : DV) : Prop := ∃ pw, h.obj di = some (.row true 13 (drow v (.ptr none) pw)) ∧ RoSl h pw v.way.length 1 (ints .i64 v.way)
def drAll (di : Nat) (d : CId) (po : Option (Nat × Nat)) : Nat → Prop := fun i => i = di ∨ chAll d po i
section
variable {h h' : H} {di : Nat} {d : CId} {po : Option (Nat × Nat)} {v : DV} {cv : CV}
theorem DrS.get {Z : Nat → Prop} (s : DrS h di d po v cv) (m : Ab.Mod Z h h') (hz : ∀ i, drAll di d po i → ¬ Z i) : DrS h' di d po v cv := by
  obtain ⟨⟨pw, h1, h2⟩, h3, h4⟩ := s
  exact ⟨⟨pw, m.get h1 (.inl (hz _ (.inl rfl))), h2.get m⟩, h3.get m (fun i hi => hz i (.inr hi)), h4⟩
theorem DrS.old (s : DrS h di d po v cv) (m : Ab.Mod none_ h h') : DrS h' di d po v cv := s.get m (fun _ _ k => k)
theorem DrS.lt (s : DrS h di d po v cv) {i : Nat} (hi : drAll di d po i) : i < h.next := by
  obtain ⟨⟨pw, h1, h2⟩, h3, h4⟩ := s
  rcases hi with rfl | hi
  · exact h.lt _ _ h1
  · exact h3.lt hi
end
/-- what a channel must be for what is sent to be bytes -/
structure CG (cv : CV) : Prop where
  ok : COk cv
  ov : OV cv
  ln : ∀ x ∈ cv.C, x.2.length ≤ 100000
theorem oct_bts {xs : List Int} (o : Oct xs) : Bts xs := fun x hx => by
  have := o x hx
  omega
theorem go_body {g : GV} (o : GO g) : bodyOk g := ⟨oct_bts o.oct, o.len⟩
def DPushQ (h : H) (di : Nat) (d : CId) (po : Option (Nat × Nat)) (v : DV) (R : (List GV × Int) × CV) (r : V) (h' : H) : Prop :=
  ∃ q po', r = .tup [.sl q (R.1.1.map encV).length, i64 R.1.2] ∧ Rws h' q (R.1.1.map encV) ∧ DrS h' di d po' v R.2 ∧ (∀ i, inSl po' i → inSl po i ∨ h.next ≤ i) ∧ Ab.Mod (chAll d po) h h'
theorem within27 (h : H) (x : Int) : ACalls Tryz.prog 34 [i64 x] h (fun r h' => h' = h ∧ r = .bool (inR x 0 65535)) := by
  refine call_ Tryz.func34 rfl rfl (by kernel_rfl) ?_
  conv => whnf
  refine br_mk (fun ha => ?_) (fun ha => ?_)
  · conv => whnf
    have ha : 0 ≤ x := by simpa using ha
    exact ⟨rfl, by rw [inR, decide_eq_true ha, Bool.true_and]⟩
  · conv => whnf
    have ha : ¬ 0 ≤ x := by simpa using ha
    exact ⟨rfl, by rw [inR, decide_eq_false ha, Bool.false_and]⟩
theorem encB_oct (m : Msg) : Oct (encB m) := fun x hx => by
  rw [encB] at hx
  split at hx
  · have := bytesP_bts _ x hx
    omega
  · cases hx
set_option maxHeartbeats 1000000 in
theorem dPush {h : H} {di : Nat} {d : CId} {po : Option (Nat × Nat)} {v : DV} {cv : CV} (s : DrS h di d po v cv) (g : CG cv) (hN : cv.cnt ≤ 1000000) {now : Int} (hn0 : -1000000000 ≤ now) (hn1 : now ≤ 1000000000) (m : Msg) (ok : m.ok h) (hl : (encB m).length ≤ 100000) (hf : ∀ b : List Int, (pushV cv now b).1.1.length ≤ 100000) :
    ACalls Tryz.prog 36 [.ptr (some (di, 0)), i64 now, .agg m.cells] h (DPushQ h di d po v (pushV cv now (encB m))) := by
  refine call_ Tryz.func36 rfl rfl (by kernel_rfl) ?_
  conv => whnf
  have mb := Mod.push none_ h (.row true 9 m.cells)
  have gb : (h.push (.row true 9 m.cells)).obj h.next = some (.row true 9 m.cells) := H.obj_push_new _ _
  refine ⟨m.cells, Cells.mk gb (Nat.le_of_ble_eq_true rfl) rfl, ?_⟩
  conv => whnf
  refine (enc41 m (ok.old mb (fun _ _ k => k))).mono ?_
  rintro _ h2 ⟨q2, rfl, o2, m2⟩
  have mo := mod_none mb m2
  have s2 := s.old mo
  conv => whnf
  refine ⟨_, rfl, ?_⟩
  conv => whnf
  refine ⟨_, rfl, ?_⟩
  conv => whnf
  obtain ⟨pw, b1, b2⟩ := s2.box
  refine ⟨_, Cell.mk b1 rfl, ?_⟩
  conv => whnf
  have hcnt : cv.s.N + cv.O.length ≤ 1000000 := hN
  refine (cPush s2.ch g.ok (by omega) hn0 hn1 (show SlIs h2 q2 (encB m).length false 1 (ints .u8 (encB m)) from o2.is) hl).mono ?_
  rintro _ h3 ⟨q3, po3, rfl, gr, c3, hp3, m3⟩
  conv => whnf
  refine ⟨_, rfl, ?_⟩
  conv => whnf
  refine ⟨_, rfl, ?_⟩
  conv => whnf
  have pov := push_ov g.ok g.ov (by omega) now (encB_oct m) hl
  refine (dgrams41 gr (fun x hx => go_body (pov.2.1 x hx)) (hf _)).mono ?_
  rintro _ h4 ⟨q4, rfl, rw4, m4⟩
  conv => whnf
  have sepd : ∀ i, chAll d po3 i → i ≠ di := fun i hi e => by
    rcases hi with hi | hi
    · exact s.sep (.inl (e ▸ hi))
    · rcases hp3 i hi with k | k
      · exact s.sep (.inr (e ▸ k))
      · have := s2.lt (i := di) (.inl rfl)
        omega
  have b3 := (m3.get b1 (.inl s.sep))
  have b4 := m4.get b3 (.inl (fun k => k))
  refine ⟨q4, po3, by rw [List.length_map], rw4, ⟨⟨pw, b4, (b2.get m3).get m4⟩, c3.old m4, fun k => sepd _ k rfl⟩, fun i hi => ?_, mo.trans' (m3.trans' m4 (S2 := chAll d po) (fun _ _ k => k) (fun _ _ k => k.elim)) (fun _ _ k => k.elim) (fun _ _ k => k)⟩
  rcases hp3 i hi with k | k
  · exact .inl k
  · exact .inr (Nat.le_trans mo.next k)
def DrB (h : H) (di : Nat) (v : DV) : Prop := ∃ ch pw, h.obj di = some (.row true 13 (drow v ch pw)) ∧ RoSl h pw v.way.length 1 (ints .i64 v.way)
theorem DrS.b {h : H} {di : Nat} {d : CId} {po : Option (Nat × Nat)} {v : DV} {cv : CV} (s : DrS h di d po v cv) : DrB h di v := by
  obtain ⟨pw, h1, h2⟩ := s.box
  exact ⟨_, pw, h1, h2⟩
theorem DrN.b {h : H} {di : Nat} {v : DV} (s : DrN h di v) : DrB h di v := by
  obtain ⟨pw, h1, h2⟩ := s
  exact ⟨_, pw, h1, h2⟩
theorem DrN.get {Z : Nat → Prop} {h h' : H} {di : Nat} {v : DV} (s : DrN h di v) (m : Ab.Mod Z h h') (hz : ¬ Z di) : DrN h' di v := by
  obtain ⟨pw, h1, h2⟩ := s
  exact ⟨pw, m.get h1 (.inl hz), h2.get m⟩
theorem dConn {h : H} {di : Nat} {v : DV} (s : DrB h di v) : ACalls Tryz.prog 26 [.ptr (some (di, 0))] h (fun r h' => h' = h ∧ r = i64 v.conn) := by
  obtain ⟨ch, pw, b, _⟩ := s
  refine call_ Tryz.func26 rfl rfl (by kernel_rfl) ?_
  conv => whnf
  refine ⟨_, Cell.mk b rfl, ?_⟩
  conv => whnf
  exact ⟨rfl, rfl⟩
theorem dLive {h : H} {di : Nat} {v : DV} (s : DrB h di v) : ACalls Tryz.prog 27 [.ptr (some (di, 0))] h (fun r h' => h' = h ∧ r = .bool v.live) := by
  obtain ⟨ch, pw, b, _⟩ := s
  refine call_ Tryz.func27 rfl rfl (by kernel_rfl) ?_
  conv => whnf
  refine ⟨_, Cell.mk b rfl, ?_⟩
  conv => whnf
  exact ⟨rfl, rfl⟩
theorem dLive0 (h : H) : ACalls Tryz.prog 27 [.ptr none] h (fun r h' => h' = h ∧ r = .bool false) := by
  refine call_ Tryz.func27 rfl rfl (by kernel_rfl) ?_
  conv => whnf
  exact ⟨rfl, rfl⟩
theorem dAt {h : H} {di : Nat} {v : DV} (s : DrB h di v) : ACalls Tryz.prog 29 [.ptr (some (di, 0))] h (fun r h' => h' = h ∧ r = i64 v.pos) := by
  obtain ⟨ch, pw, b, _⟩ := s
  refine call_ Tryz.func29 rfl rfl (by kernel_rfl) ?_
  conv => whnf
  refine ⟨_, Cell.mk b rfl, ?_⟩
  conv => whnf
  exact ⟨rfl, rfl⟩
theorem dAt0 (h : H) : ACalls Tryz.prog 29 [.ptr none] h (fun r h' => h' = h ∧ r = i64 (-1)) := by
  refine call_ Tryz.func29 rfl rfl (by kernel_rfl) ?_
  conv => whnf
  exact ⟨rfl, rfl⟩
theorem dWhy {h : H} {di : Nat} {v : DV} (s : DrB h di v) : ACalls Tryz.prog 28 [.ptr (some (di, 0))] h (fun r h' => h' = h ∧ r = i64 v.why) := by
  obtain ⟨ch, pw, b, _⟩ := s
  refine call_ Tryz.func28 rfl rfl (by kernel_rfl) ?_
  conv => whnf
  refine ⟨_, Cell.mk b rfl, ?_⟩
  conv => whnf
  exact ⟨rfl, rfl⟩
def DV.new (c : Cfg) : DV := ⟨c, 0, false, 0, -1, [], false⟩
theorem dNew (h : H) (c : Cfg) : ACalls Tryz.prog 6 [.agg c.cells] h (fun r h' => (okCfg c = false ∧ r = .tup [.ptr none, i64 1] ∧ Ab.Mod none_ h h') ∨ (okCfg c = true ∧ ∃ di, r = .tup [.ptr (some (di, 0)), i64 0] ∧ DrN h' di (DV.new c) ∧ h.next ≤ di ∧ Ab.Mod none_ h h')) := by
  refine call_ Tryz.func6 rfl rfl (by kernel_rfl) ?_
  conv => whnf
  have mP := Mod.push none_ h (.row true 6 c.cells)
  have gm : (h.push (.row true 6 c.cells)).obj h.next = some (.row true 6 c.cells) := H.obj_push_new _ _
  refine ⟨c.cells, Cells.mk gm (Nat.le_of_ble_eq_true rfl) rfl, ?_⟩
  conv => whnf
  refine (cCheck _ c).mono ?_
  rintro _ h1 ⟨rfl, m1⟩
  have gm := m1.get gm (.inl (fun k => k))
  have mo := mod_none mP m1
  cases ok : okCfg c with
  | false =>
    conv => whnf
    exact .inl ⟨rfl, rfl, mo⟩
  | true =>
    conv => whnf
    refine ⟨c.cells, Cells.mk gm (Nat.le_of_ble_eq_true rfl) rfl, ?_⟩
    conv => whnf
    have q4 := Mod.push none_ h1 (.row true 13 (drow (DV.new c) (.ptr none) none))
    exact .inr ⟨rfl, h1.next, rfl, ⟨none, H.obj_push_new h1 _, ⟨rfl, .inl rfl⟩⟩, mo.next, mod_none mo q4⟩
def openM (a n : Int) : Msg := ⟨1, a, n, none, [], 0, 0, 0, 0, 0⟩
def startD (v : DV) (a : Int) : DV := ⟨v.c, v.conn + 1, true, 0, a, [], false⟩
def startR (v : DV) (now a n : Int) : (List GV × Int) × CV := pushV (CV.new v.c (v.conn + 1)) now (encB (openM a n))
def StartQ (h : H) (di : Nat) (v : DV) (now a n : Int) (r : V) (h' : H) : Prop :=
  ((inR a 0 65535 = false ∨ inR n 0 65535 = false) ∧ r = .tup [.sl none 0, i64 1] ∧ h' = h) ∨
  (inR a 0 65535 = true ∧ inR n 0 65535 = true ∧ ∃ d q po, r = .tup [.sl q ((startR v now a n).1.1.map encV).length, i64 (startR v now a n).1.2] ∧ Rws h' q ((startR v now a n).1.1.map encV) ∧ DrS h' di d po (startD v a) (startR v now a n).2 ∧ (∀ i, chAll d po i → h.next ≤ i) ∧ Ab.Mod (one di) h h')
theorem openM_ok (h : H) (a n : Int) : (openM a n).ok h := ⟨SlIs.nil _ _ _, (by decide : (-9223372036854775808 : Int) ≤ 0), (by decide : (0 : Int) ≤ 9223372036854775807), Nat.zero_le _⟩
set_option maxHeartbeats 1000000 in
theorem dStart {h : H} {di : Nat} {v : DV} (s : DrB h di v) (ok : okCfg v.c = true) (hc : 0 ≤ v.conn ∧ v.conn ≤ 1000000) {now : Int} (hn0 : -1000000000 ≤ now) (hn1 : now ≤ 1000000000) (a n : Int) (hf : ∀ b : List Int, (pushV (CV.new v.c (v.conn + 1)) now b).1.1.length ≤ 100000) (hl : (encB (openM a n)).length ≤ 100000) :
    ACalls Tryz.prog 8 [.ptr (some (di, 0)), i64 now, i64 a, i64 n] h (StartQ h di v now a n) := by
  obtain ⟨ch, pw, b, rw0⟩ := s
  have hdi := h.lt _ _ b
  refine call_ Tryz.func8 rfl rfl (by kernel_rfl) ?_
  conv => whnf
  refine (within27 _ a).mono ?_
  rintro _ h1 ⟨eh, rfl⟩
  subst eh
  cases e1 : inR a 0 65535 with
  | false =>
    conv => whnf
    exact .inl ⟨.inl e1, rfl, rfl⟩
  | true =>
  conv => whnf
  refine (within27 _ n).mono ?_
  rintro _ h1 ⟨eh, rfl⟩
  subst eh
  cases e2 : inR n 0 65535 with
  | false =>
    conv => whnf
    exact .inl ⟨.inr e2, rfl, rfl⟩
  | true =>
  have hw : IntKind.i64.wrap (v.conn + 1) = v.conn + 1 := wrap_i64 (by omega) (by omega)
  have okc : okCh v.c (v.conn + 1) = true := by
    rw [okCh, ok, inR_iff.2 ⟨by omega, by omega⟩]
    rfl
  conv => whnf
  refine ⟨[0, 1, 2, 3, 4, 5, 6, 7, 8, 9, 10, 11, 12, 13, 14], [0, 1, 3, 7, 0, 16, 48, 112, 240, 511, 1023, 2047, 2047, 4095, 16383], by kernel_rfl, ?_⟩
  conv => whnf
  refine ⟨v.c.cells, Cells.mk b (Nat.le_of_ble_eq_true rfl) rfl, ?_⟩
  conv => whnf
  refine ⟨_, Cell.mk b rfl, ?_⟩
  conv => whnf
  rw [hw]
  refine (cNew _ v.c (v.conn + 1)).mono ?_
  rintro _ h2 (⟨q, _⟩ | ⟨_, d, rfl, c2, nd, m2⟩)
  · rw [okc] at q
    cases q
  have b2 := m2.get b (.inl (fun k => k))
  conv => whnf
  refine ⟨_, rfl, ?_⟩
  conv => whnf
  refine ⟨_, rfl, ?_⟩
  conv => whnf
  refine ⟨[0, 1, 2, 3, 4, 5, 6, 7, 8, 9, 10, 11, 12, 13, 14], [0, 0, 2, 6, 14, 0, 0, 64, 192, 448, 960, 0, 4094, 8191, 16383], by kernel_rfl, ?_⟩
  conv => whnf
  refine ⟨v.c.cells, Cells.mk b2 (Nat.le_of_ble_eq_true rfl) rfl, ?_⟩
  conv => whnf
  refine ⟨_, Cell.mk b2 rfl, ?_⟩
  conv => whnf
  rw [hw]
  refine ⟨_, _, b2, Nat.le_of_ble_eq_true rfl, ?_⟩
  conv => whnf
  have mS : Ab.Mod (one di) h2 (h2.set di (.row true 13 (drow (startD v a) (.ptr (some (d.c, 0))) none))) := Mod.set rfl b2 rfl
  have hnd : ∀ i, chAll d none i → ¬ one di i := fun i hi k => by
    have hk : i = di := k
    rcases hi with hi | ⟨o, e⟩
    · have := nd i hi
      omega
    · cases e
  have s3 : DrS (h2.set di (.row true 13 (drow (startD v a) (.ptr (some (d.c, 0))) none))) di d none (startD v a) (CV.new v.c (v.conn + 1)) :=
    ⟨⟨none, H.obj_set_same b2, ⟨rfl, .inl rfl⟩⟩, c2.get mS hnd, fun hi => hnd di hi rfl⟩
  refine (dPush s3 ⟨new_cok okc, new_ov _ _, fun x hx => (by cases hx)⟩ (show ((0 : Int) + ((0 : Nat) : Int)) ≤ 1000000 by decide) hn0 hn1 (openM a n) (openM_ok _ a n) hl hf).mono ?_
  rintro _ h4 ⟨q4, po4, rfl, rw4, s4, hp4, m4⟩
  conv => whnf
  refine ⟨_, rfl, ?_⟩
  conv => whnf
  refine ⟨_, rfl, ?_⟩
  conv => whnf
  refine .inr ⟨e1, e2, d, q4, po4, rfl, rw4, s4, fun i hi => ?_, m2.trans' (mS.trans' m4 (S2 := fun i => one di i ∨ h1.next ≤ i) (fun _ _ k => .inl k) (fun i _ k => ?_)) (fun _ _ k => k.elim) (fun i hi k => k.elim (fun k => k) (fun k => absurd hi (by omega)))⟩
  · rcases hi with hi | hi
    · exact nd i hi
    · rcases hp4 i hi with ⟨o, e⟩ | k
      · cases e
      · exact Nat.le_trans m2.next k
  · rcases k with k | ⟨o, e⟩
    · exact .inr (nd i k)
    · cases e
def tickO (cv : CV) (now : Int) : List (List Int) := if (passV cv now).1.2 = 0 then (passV cv now).1.1.map encV else []
def tickD (v : DV) (cv : CV) (now : Int) : DV := if (passV cv now).1.2 = 0 then v else { v with live := false, why := 0 }
def TickQ (h : H) (di : Nat) (d : CId) (po : Option (Nat × Nat)) (v : DV) (cv : CV) (now : Int) (r : V) (h' : H) : Prop :=
  (v.live = false ∧ r = .sl none 0 ∧ h' = h) ∨
  (v.live = true ∧ ∃ q po', r = .sl q (tickO cv now).length ∧ Rws h' q (tickO cv now) ∧ DrS h' di d po' (tickD v cv now) (passV cv now).2 ∧ (∀ i, inSl po' i → inSl po i ∨ h.next ≤ i) ∧ Ab.Mod (drAll di d po) h h')
theorem rws_nil (h : H) : Rws h none [] := ⟨[], ⟨rfl, .inl rfl⟩, fun x hx => (by cases hx), rfl⟩
set_option maxHeartbeats 1000000 in
theorem dTick {h : H} {di : Nat} {d : CId} {po : Option (Nat × Nat)} {v : DV} {cv : CV} (s : DrS h di d po v cv) (g : CG cv) (hN : cv.cnt ≤ 1000000) {now : Int} (hn0 : -1000000000 ≤ now) (hn1 : now ≤ 1000000000) (hf : (passV cv now).1.1.length ≤ 100000) :
    ACalls Tryz.prog 16 [.ptr (some (di, 0)), i64 now] h (TickQ h di d po v cv now) := by
  refine call_ Tryz.func16 rfl rfl (by kernel_rfl) ?_
  conv => whnf
  refine (dLive s.b).mono ?_
  rintro _ h1 ⟨eh, rfl⟩
  subst eh
  cases el : v.live with
  | false =>
    conv => whnf
    exact .inl ⟨el, rfl, rfl⟩
  | true =>
  obtain ⟨pw, b1, b2⟩ := s.box
  conv => whnf
  refine ⟨_, Cell.mk b1 rfl, ?_⟩
  conv => whnf
  have hcnt : cv.s.N + cv.O.length ≤ 1000000 := hN
  refine (cPass s.ch g.ok (by omega) hn0 hn1).mono ?_
  rintro _ h3 ⟨q3, po3, rfl, gr, c3, hp3, m3⟩
  have b3 := m3.get b1 (.inl s.sep)
  have w3 := b2.get m3
  have sepd : ∀ i, chAll d po3 i → i ≠ di := fun i hi e => by
    rcases hi with hi | hi
    · exact s.sep (.inl (e ▸ hi))
    · rcases hp3 i hi with k | k
      · exact s.sep (.inr (e ▸ k))
      · have := s.lt (i := di) (.inl rfl)
        omega
  conv => whnf
  refine ⟨_, rfl, ?_⟩
  conv => whnf
  refine ⟨_, rfl, ?_⟩
  conv => whnf
  refine br_mk (fun he => ?_) (fun he => ?_)
  · have he : ¬ (passV cv now).1.2 = 0 := by simpa using he
    have eO : tickO cv now = [] := if_neg he
    have eD : tickD v cv now = { v with live := false, why := 0 } := if_neg he
    conv => whnf
    refine ⟨_, _, b3, Nat.le_of_ble_eq_true rfl, ?_⟩
    conv => whnf
    have mS : Ab.Mod (one di) h3 (h3.set di (.row true 13 (drow { v with live := false } (.ptr (some (d.c, 0))) pw))) := Mod.set rfl b3 rfl
    have b4 : (h3.set di (.row true 13 (drow { v with live := false } (.ptr (some (d.c, 0))) pw))).obj di = some (.row true 13 (drow { v with live := false } (.ptr (some (d.c, 0))) pw)) := H.obj_set_same b3
    refine ⟨_, _, b4, Nat.le_of_ble_eq_true rfl, ?_⟩
    conv => whnf
    have mT : Ab.Mod (one di) (h3.set di (.row true 13 (drow { v with live := false } (.ptr (some (d.c, 0))) pw))) ((h3.set di (.row true 13 (drow { v with live := false } (.ptr (some (d.c, 0))) pw))).set di (.row true 13 (drow { v with live := false, why := 0 } (.ptr (some (d.c, 0))) pw))) := Mod.set rfl b4 rfl
    have mST := mS.trans' mT (S2 := one di) (fun _ _ k => k) (fun _ _ k => k)
    refine .inr ⟨el, none, po3, by rw [eO]; rfl, by rw [eO]; exact rws_nil _, ?_, hp3, m3.trans' mST (fun _ _ k => .inr k) (fun _ _ k => .inl k)⟩
    rw [eD]
    exact ⟨⟨pw, H.obj_set_same b4, (w3.get mS).get mT⟩, c3.get mST (fun i hi k => sepd i hi k), fun k => sepd _ k rfl⟩
  · have he : (passV cv now).1.2 = 0 := by simpa using he
    have eO : tickO cv now = (passV cv now).1.1.map encV := if_pos he
    have eD : tickD v cv now = v := if_pos he
    have pov := pass_ov g.ok g.ov (by omega) now
    conv => whnf
    refine (dgrams41 gr (fun x hx => go_body (pov.2.1 x hx)) hf).mono ?_
    rintro _ h4 ⟨q4, rfl, rw4, m4⟩
    conv => whnf
    refine .inr ⟨el, q4, po3, by rw [eO, List.length_map], by rw [eO]; exact rw4, ?_, hp3, m3.trans' m4 (fun _ _ k => .inr k) (fun _ _ k => k.elim)⟩
    rw [eD]
    exact ⟨⟨pw, m4.get b3 (.inl (fun k => k)), w3.get m4⟩, c3.old m4, fun k => sepd _ k rfl⟩
def repM (p : Int) : Msg := ⟨2, p, 0, none, [], 0, 0, 0, 0, 0⟩
theorem repM_ok (h : H) (p : Int) : (repM p).ok h := ⟨SlIs.nil _ _ _, (by decide : (-9223372036854775808 : Int) ≤ 0), (by decide : (0 : Int) ≤ 9223372036854775807), Nat.zero_le _⟩
/-- the way behind a place that was told -/
def repD (v : DV) (p : Int) : DV :=
  if v.has = true ∧ v.way.head? = some p then { v with way := v.way.tail, pos := p }
  else if p ≠ v.pos then { v with way := [], has := false, pos := p } else { v with pos := p }
def ReportQ (h : H) (di : Nat) (d : CId) (po : Option (Nat × Nat)) (v : DV) (R : (List GV × Int) × CV) (p : Int) (r : V) (h' : H) : Prop :=
  (v.live = false ∧ r = .tup [.sl none 0, i64 4] ∧ h' = h) ∨
  (v.live = true ∧ inR p 0 65535 = false ∧ r = .tup [.sl none 0, i64 1] ∧ h' = h) ∨
  (v.live = true ∧ inR p 0 65535 = true ∧ ∃ q po' out v', r = .tup [.sl q out.length, i64 R.1.2] ∧ Rws h' q out ∧ DrS h' di d po' v' R.2 ∧ (∀ i, inSl po' i → inSl po i ∨ h.next ≤ i) ∧ Ab.Mod (drAll di d po) h h' ∧
    ((R.1.2 ≠ 0 ∧ out = [] ∧ v' = v) ∨ (R.1.2 = 0 ∧ out = R.1.1.map encV ∧ v' = repD v p)))
theorem DrS.set {h : H} {di : Nat} {d : CId} {po : Option (Nat × Nat)} {v : DV} {cv : CV} (s : DrS h di d po v cv) {cs : List V} (b : h.obj di = some (.row true 13 cs)) {v' : DV} {pw' : Option (Nat × Nat)} (w : RoSl h pw' v'.way.length 1 (ints .i64 v'.way)) :
    DrS (h.set di (.row true 13 (drow v' (.ptr (some (d.c, 0))) pw'))) di d po v' cv ∧ Ab.Mod (one di) h (h.set di (.row true 13 (drow v' (.ptr (some (d.c, 0))) pw'))) ∧ (h.set di (.row true 13 (drow v' (.ptr (some (d.c, 0))) pw'))).obj di = some (.row true 13 (drow v' (.ptr (some (d.c, 0))) pw')) ∧ RoSl (h.set di (.row true 13 (drow v' (.ptr (some (d.c, 0))) pw'))) pw' v'.way.length 1 (ints .i64 v'.way) := by
  have mS : Ab.Mod (one di) h (h.set di (.row true 13 (drow v' (.ptr (some (d.c, 0))) pw'))) := Mod.set rfl b rfl
  exact ⟨⟨⟨pw', H.obj_set_same b, w.get mS⟩, s.ch.get mS (fun i hi k => s.sep (by have : i = di := k; rw [← this]; exact hi)), s.sep⟩, mS, H.obj_set_same b, w.get mS⟩
set_option maxHeartbeats 1000000 in
theorem dReport {h : H} {di : Nat} {d : CId} {po : Option (Nat × Nat)} {v : DV} {cv : CV} (s : DrS h di d po v cv) (g : CG cv) (hN : cv.cnt ≤ 1000000) {now : Int} (hn0 : -1000000000 ≤ now) (hn1 : now ≤ 1000000000) (p : Int) (hl : (encB (repM p)).length ≤ 100000) (hf : ∀ b : List Int, (pushV cv now b).1.1.length ≤ 100000) :
    ACalls Tryz.prog 10 [.ptr (some (di, 0)), i64 now, i64 p] h (ReportQ h di d po v (pushV cv now (encB (repM p))) p) := by
  refine call_ Tryz.func10 rfl rfl (by kernel_rfl) ?_
  conv => whnf
  refine (dLive s.b).mono ?_
  rintro _ h1 ⟨eh, rfl⟩
  subst eh
  cases el : v.live with
  | false =>
    conv => whnf
    exact .inl ⟨el, rfl, rfl⟩
  | true =>
  conv => whnf
  refine (within27 _ p).mono ?_
  rintro _ h2 ⟨eh, rfl⟩
  subst eh
  cases e1 : inR p 0 65535 with
  | false =>
    conv => whnf
    exact .inr (.inl ⟨el, e1, rfl, rfl⟩)
  | true =>
  conv => whnf
  refine (dPush s g hN hn0 hn1 (repM p) (repM_ok _ p) hl hf).mono ?_
  rintro _ h3 ⟨q3, po3, rfl, rw3, s3, hp3, m3⟩
  generalize pushV cv now (encB (repM p)) = R at *
  conv => whnf
  refine ⟨_, rfl, ?_⟩
  conv => whnf
  refine ⟨_, rfl, ?_⟩
  conv => whnf
  refine br_mk (fun he => ?_) (fun he => ?_)
  · have he : ¬ R.1.2 = 0 := by simpa using he
    conv => whnf
    exact .inr (.inr ⟨el, e1, none, po3, [], v, rfl, rws_nil _, s3, hp3, m3.mono (fun _ _ k => .inr k), .inl ⟨he, rfl, rfl⟩⟩)
  have he : R.1.2 = 0 := by simpa using he
  obtain ⟨pw, b1, b2⟩ := s3.box
  conv => whnf
  refine ⟨_, Cell.mk b1 rfl, ?_⟩
  have hsl := slo_len b2.is
  cases eh : v.has with
  | false =>
    conv => whnf
    have hno : ¬ (v.has = true ∧ v.way.head? = some p) := fun q => by rw [eh] at q; cases q.1
    refine ⟨_, Cell.mk b1 rfl, ?_⟩
    conv => whnf
    refine br_mk (fun hy => ?_) (fun hy => ?_)
    · have hy : p ≠ v.pos := by simpa using hy
      have ed : repD v p = { v with way := [], has := false, pos := p } := by rw [repD, if_neg hno, if_pos hy]
      conv => whnf
      refine ⟨_, _, b1, Nat.le_of_ble_eq_true rfl, ?_⟩
      conv => whnf
      obtain ⟨s4, m4, b4, w4⟩ := s3.set b1 (v' := { v with way := [] }) (pw' := none) ⟨rfl, .inl rfl⟩
      refine ⟨_, _, b4, Nat.le_of_ble_eq_true rfl, ?_⟩
      conv => whnf
      obtain ⟨s5, m5, b5, w5⟩ := s4.set b4 (v' := { v with way := [], has := false }) (pw' := none) w4
      refine ⟨_, _, b5, Nat.le_of_ble_eq_true rfl, ?_⟩
      conv => whnf
      obtain ⟨s6, m6, b6, w6⟩ := s5.set b5 (v' := { v with way := [], has := false, pos := p }) (pw' := none) w5
      have mm := (m4.trans' m5 (S2 := one di) (fun _ _ k => k) (fun _ _ k => k)).trans' m6 (S2 := one di) (fun _ _ k => k) (fun _ _ k => k)
      exact .inr (.inr ⟨el, e1, q3, po3, _, _, by rw [he], rw3.get mm, s6, hp3, m3.trans' mm (fun _ _ k => .inr k) (fun _ _ k => .inl k), .inr ⟨he, rfl, ed.symm⟩⟩)
    · have hy : ¬ p ≠ v.pos := by simpa using hy
      have ed : repD v p = { v with pos := p } := by rw [repD, if_neg hno, if_neg hy]
      conv => whnf
      refine ⟨_, _, b1, Nat.le_of_ble_eq_true rfl, ?_⟩
      conv => whnf
      obtain ⟨s6, m6, b6, w6⟩ := s3.set b1 (v' := { v with pos := p }) (pw' := pw) b2
      exact .inr (.inr ⟨el, e1, q3, po3, _, _, by rw [he], rw3.get m6, s6, hp3, m3.trans' m6 (fun _ _ k => .inr k) (fun _ _ k => .inl k), .inr ⟨he, rfl, ed.symm⟩⟩)
  | true =>
    conv => whnf
    refine ⟨_, Cell.mk b1 rfl, ?_⟩
    conv => whnf
    by_cases hw : v.way.length = 0
    · rw [decide_eq_false (show ¬ ((v.way.length : Int) > 0) by omega)]
      conv => whnf
      have hno : ¬ (v.has = true ∧ v.way.head? = some p) := fun q => by
        rw [List.length_eq_zero_iff.1 hw] at q
        cases q.2
      refine ⟨_, Cell.mk b1 rfl, ?_⟩
      conv => whnf
      refine br_mk (fun hy => ?_) (fun hy => ?_)
      · have hy : p ≠ v.pos := by simpa using hy
        have ed : repD v p = { v with way := [], has := false, pos := p } := by rw [repD, if_neg hno, if_pos hy]
        conv => whnf
        refine ⟨_, _, b1, Nat.le_of_ble_eq_true rfl, ?_⟩
        conv => whnf
        obtain ⟨s4, m4, b4, w4⟩ := s3.set b1 (v' := { v with way := [] }) (pw' := none) ⟨rfl, .inl rfl⟩
        refine ⟨_, _, b4, Nat.le_of_ble_eq_true rfl, ?_⟩
        conv => whnf
        obtain ⟨s5, m5, b5, w5⟩ := s4.set b4 (v' := { v with way := [], has := false }) (pw' := none) w4
        refine ⟨_, _, b5, Nat.le_of_ble_eq_true rfl, ?_⟩
        conv => whnf
        obtain ⟨s6, m6, b6, w6⟩ := s5.set b5 (v' := { v with way := [], has := false, pos := p }) (pw' := none) w5
        have mm := (m4.trans' m5 (S2 := one di) (fun _ _ k => k) (fun _ _ k => k)).trans' m6 (S2 := one di) (fun _ _ k => k) (fun _ _ k => k)
        exact .inr (.inr ⟨el, e1, q3, po3, _, _, by rw [he], rw3.get mm, s6, hp3, m3.trans' mm (fun _ _ k => .inr k) (fun _ _ k => .inl k), .inr ⟨he, rfl, ed.symm⟩⟩)
      · have hy : ¬ p ≠ v.pos := by simpa using hy
        have ed : repD v p = { v with pos := p } := by rw [repD, if_neg hno, if_neg hy]
        conv => whnf
        refine ⟨_, _, b1, Nat.le_of_ble_eq_true rfl, ?_⟩
        conv => whnf
        obtain ⟨s6, m6, b6, w6⟩ := s3.set b1 (v' := { v with pos := p }) (pw' := pw) b2
        exact .inr (.inr ⟨el, e1, q3, po3, _, _, by rw [he], rw3.get m6, s6, hp3, m3.trans' m6 (fun _ _ k => .inr k) (fun _ _ k => .inl k), .inr ⟨he, rfl, ed.symm⟩⟩)
    rw [decide_eq_true (show ((v.way.length : Int) > 0) by omega)]
    conv => whnf
    refine ⟨_, Cell.mk b1 rfl, ?_⟩
    obtain ⟨i1, c1, f1, f2⟩ := slo_get b2.is (show 0 < v.way.length by omega)
    conv => whnf
    refine ⟨i1, c1, 0, f1, rfl, by omega, ?_⟩
    conv => whnf
    refine ⟨_, f2, ?_⟩
    conv => whnf
    have hh : v.way.head? = some (v.way.getD 0 0) := by
      cases hq : v.way with
      | nil => rw [hq] at hw; exact absurd rfl hw
      | cons a l => rfl
    refine br_mk (fun hx => ?_) (fun hx => ?_)
    rotate_left
    · conv => whnf
      have hx : ¬ v.way.getD 0 0 = p := by simpa using hx
      have hno : ¬ (v.has = true ∧ v.way.head? = some p) := fun q => hx (by rw [hh] at q; exact Option.some.inj q.2)
      refine ⟨_, Cell.mk b1 rfl, ?_⟩
      conv => whnf
      refine br_mk (fun hy => ?_) (fun hy => ?_)
      · have hy : p ≠ v.pos := by simpa using hy
        have ed : repD v p = { v with way := [], has := false, pos := p } := by rw [repD, if_neg hno, if_pos hy]
        conv => whnf
        refine ⟨_, _, b1, Nat.le_of_ble_eq_true rfl, ?_⟩
        conv => whnf
        obtain ⟨s4, m4, b4, w4⟩ := s3.set b1 (v' := { v with way := [] }) (pw' := none) ⟨rfl, .inl rfl⟩
        refine ⟨_, _, b4, Nat.le_of_ble_eq_true rfl, ?_⟩
        conv => whnf
        obtain ⟨s5, m5, b5, w5⟩ := s4.set b4 (v' := { v with way := [], has := false }) (pw' := none) w4
        refine ⟨_, _, b5, Nat.le_of_ble_eq_true rfl, ?_⟩
        conv => whnf
        obtain ⟨s6, m6, b6, w6⟩ := s5.set b5 (v' := { v with way := [], has := false, pos := p }) (pw' := none) w5
        have mm := (m4.trans' m5 (S2 := one di) (fun _ _ k => k) (fun _ _ k => k)).trans' m6 (S2 := one di) (fun _ _ k => k) (fun _ _ k => k)
        exact .inr (.inr ⟨el, e1, q3, po3, _, _, by rw [he], rw3.get mm, s6, hp3, m3.trans' mm (fun _ _ k => .inr k) (fun _ _ k => .inl k), .inr ⟨he, rfl, ed.symm⟩⟩)
      · have hy : ¬ p ≠ v.pos := by simpa using hy
        have ed : repD v p = { v with pos := p } := by rw [repD, if_neg hno, if_neg hy]
        conv => whnf
        refine ⟨_, _, b1, Nat.le_of_ble_eq_true rfl, ?_⟩
        conv => whnf
        obtain ⟨s6, m6, b6, w6⟩ := s3.set b1 (v' := { v with pos := p }) (pw' := pw) b2
        exact .inr (.inr ⟨el, e1, q3, po3, _, _, by rw [he], rw3.get m6, s6, hp3, m3.trans' m6 (fun _ _ k => .inr k) (fun _ _ k => .inl k), .inr ⟨he, rfl, ed.symm⟩⟩)
    · conv => whnf
      have hx : v.way.getD 0 0 = p := by simpa using hx
      have ed : repD v p = { v with way := v.way.tail, pos := p } := by rw [repD, if_pos ⟨eh, by rw [hh, hx]⟩]
      refine ⟨_, Cell.mk b1 rfl, ?_⟩
      conv => whnf
      refine ⟨⟨_, b2.is⟩, 1, rfl, by omega, Nat.le_refl _, ?_⟩
      conv => whnf
      have wt : RoSl h3 (slp pw (1 * 1)) v.way.tail.length 1 (ints .i64 v.way.tail) := by
        have := b2.cut (show 1 ≤ v.way.length by omega) (Nat.le_refl _)
        have e : ((ints .i64 v.way).drop (1 * 1)).take ((v.way.length - 1) * 1) = ints .i64 v.way.tail := by
          rw [ints_drop, List.take_of_length_le (by rw [ints_length, List.length_drop]; omega)]
          simp
        rw [e] at this
        rw [List.length_tail]
        exact this
      rw [show v.way.length - 1 = v.way.tail.length from List.length_tail.symm]
      refine ⟨_, _, b1, Nat.le_of_ble_eq_true rfl, ?_⟩
      conv => whnf
      obtain ⟨s4, m4, b4, w4⟩ := s3.set b1 (v' := { v with way := v.way.tail }) (pw' := slp pw (1 * 1)) wt
      refine ⟨_, _, b4, Nat.le_of_ble_eq_true rfl, ?_⟩
      conv => whnf
      obtain ⟨s5, m5, b5, w5⟩ := s4.set b4 (v' := { v with way := v.way.tail, pos := p }) (pw' := slp pw (1 * 1)) w4
      have mm := m4.trans' m5 (S2 := one di) (fun _ _ k => k) (fun _ _ k => k)
      exact .inr (.inr ⟨el, e1, q3, po3, _, _, by rw [he], rw3.get mm, s5, hp3, m3.trans' mm (fun _ _ k => .inr k) (fun _ _ k => .inl k), .inr ⟨he, rfl, ed.symm⟩⟩)
def CloneQ (xs : List Int) (h : H) (r : V) (h' : H) : Prop := ∃ q, r = .sl q xs.length ∧ RoSl h' q xs.length 1 (ints .i64 xs) ∧ Ab.Mod none_ h h'
theorem clone42 {h : H} {p : Option (Nat × Nat)} {xs : List Int} (o : SlIs h p xs.length false 1 (ints .i64 xs)) (hn : xs.length ≤ 1000000) : ACalls Tryz.prog 53 [.sl p xs.length] h (CloneQ xs h) := by
  refine ACalls.ro (Q := fun r h' => ∃ q, r = .sl q xs.length ∧ NewSl h h' q xs.length 1 (ints .i64 xs) ∧ Ab.Mod none_ h h') ?_ (by
    rintro r h' ⟨q, rfl, nq, m⟩
    obtain ⟨i, a1, a2, a3⟩ := nq.freeze m
    exact ⟨i, q, rfl, a2, a3⟩)
  refine call_ Tryz.func53 rfl rfl (by kernel_rfl) ?_
  conv => whnf
  refine br_mk (fun hb => ?_) (fun hb => ?_)
  · conv => whnf
    cases p with
    | some x => simp at hb
    | none =>
      rcases o.2 with ⟨h0, _⟩ | ⟨i, j, b, r, e, _⟩
      · cases xs with
        | nil => exact ⟨none, rfl, NewSl.nil _ _ _, mod_refl _ _⟩
        | cons x xs => simp at h0
      · cases e
  conv => whnf
  obtain ⟨y1, y2, y3⟩ := app0 (h0 := h) o
  refine ⟨_, _, y1, y2, by rw [show (T.at_ 3).bytes = 8 from rfl]; omega, by omega, fun pA hA hs hm hf => ?_⟩
  obtain ⟨nA, mA⟩ := y3 pA hA hs hm hf
  conv => whnf
  exact ⟨pA, by rw [Nat.zero_add], nA, mA⟩
def wayOf (v : DV) : List Int := if v.has then v.way else []
def WayQ (v : DV) (h : H) (r : V) (h' : H) : Prop := ∃ q, r = .tup [.sl q (wayOf v).length, .bool v.has] ∧ RoSl h' q (wayOf v).length 1 (ints .i64 (wayOf v)) ∧ Ab.Mod none_ h h'
theorem dWay {h : H} {di : Nat} {v : DV} (s : DrB h di v) (hn : v.way.length ≤ 1000000) : ACalls Tryz.prog 24 [.ptr (some (di, 0))] h (WayQ v h) := by
  obtain ⟨ch, pw, b, w⟩ := s
  refine call_ Tryz.func24 rfl rfl (by kernel_rfl) ?_
  conv => whnf
  refine ⟨_, Cell.mk b rfl, ?_⟩
  cases eh : v.has with
  | false =>
    have ew : wayOf v = [] := by rw [wayOf, eh]; rfl
    conv => whnf
    exact ⟨none, by rw [ew, eh]; rfl, by rw [ew]; exact ⟨rfl, .inl rfl⟩, mod_refl _ _⟩
  | true =>
    have ew : wayOf v = v.way := by rw [wayOf, eh]; rfl
    conv => whnf
    refine ⟨_, Cell.mk b rfl, ?_⟩
    conv => whnf
    refine (clone42 w.is hn).mono ?_
    rintro _ h1 ⟨q, rfl, o, m⟩
    conv => whnf
    exact ⟨q, by rw [ew, eh], by rw [ew]; exact o, m⟩
def hearD (v : DV) (m : Msg) : DV := if m.k = 5 then { v with way := m.es, has := true } else if m.k = 6 then { v with way := [], has := false } else v
theorem dHears {h : H} {di : Nat} {d : CId} {po : Option (Nat × Nat)} {v : DV} {cv : CV} (s : DrS h di d po v cv) (m : Msg) (ok : m.ok h) : ACalls Tryz.prog 49 [.ptr (some (di, 0)), .agg m.cells] h (fun r h' => DrS h' di d po (hearD v m) cv ∧ Ab.Mod (one di) h h') := by
  refine call_ Tryz.func49 rfl rfl (by kernel_rfl) ?_
  conv => whnf
  have mb := Mod.push none_ h (.row true 9 m.cells)
  have gb : (h.push (.row true 9 m.cells)).obj h.next = some (.row true 9 m.cells) := H.obj_push_new _ _
  have s1 := s.old mb
  have ok1 := ok.old mb (fun _ _ k => k)
  refine ⟨_, Cell.mk gb rfl, ?_⟩
  conv => whnf
  refine br_mk (fun h5 => ?_) (fun h5 => ?_)
  · have h5 : m.k = 5 := by simpa using h5
    have ed : hearD v m = { v with way := m.es, has := true } := if_pos h5
    conv => whnf
    refine ⟨_, Cell.mk gb rfl, ?_⟩
    conv => whnf
    refine (clone42 ok1.1 (by have := ok.2.2.2; omega)).mono ?_
    rintro _ h2 ⟨q, rfl, o, m2⟩
    have s2 := s1.old m2
    obtain ⟨pw, b2, w2⟩ := s2.box
    conv => whnf
    refine ⟨_, _, b2, Nat.le_of_ble_eq_true rfl, ?_⟩
    conv => whnf
    obtain ⟨s4, m4, b4, w4⟩ := s2.set b2 (v' := { v with way := m.es }) (pw' := q) o
    refine ⟨_, _, b4, Nat.le_of_ble_eq_true rfl, ?_⟩
    conv => whnf
    obtain ⟨s5, m5, b5, w5⟩ := s4.set b4 (v' := { v with way := m.es, has := true }) (pw' := q) w4
    rw [ed]
    exact ⟨s5, (mod_none mb m2).trans' (m4.trans' m5 (S2 := one di) (fun _ _ k => k) (fun _ _ k => k)) (fun _ _ k => k.elim) (fun _ _ k => k)⟩
  have h5 : ¬ m.k = 5 := by simpa using h5
  obtain ⟨pw, b2, w2⟩ := s1.box
  conv => whnf
  refine br_mk (fun h6 => ?_) (fun h6 => ?_)
  · have h6 : m.k = 6 := by simpa using h6
    have ed : hearD v m = { v with way := [], has := false } := by rw [hearD, if_neg h5, if_pos h6]
    conv => whnf
    refine ⟨_, _, b2, Nat.le_of_ble_eq_true rfl, ?_⟩
    conv => whnf
    obtain ⟨s4, m4, b4, w4⟩ := s1.set b2 (v' := { v with way := [] }) (pw' := none) ⟨rfl, .inl rfl⟩
    refine ⟨_, _, b4, Nat.le_of_ble_eq_true rfl, ?_⟩
    conv => whnf
    obtain ⟨s5, m5, b5, w5⟩ := s4.set b4 (v' := { v with way := [], has := false }) (pw' := none) w4
    rw [ed]
    exact ⟨s5, mb.trans' (m4.trans' m5 (S2 := one di) (fun _ _ k => k) (fun _ _ k => k)) (fun _ _ k => k.elim) (fun _ _ k => k)⟩
  · have h6 : ¬ m.k = 6 := by simpa using h6
    have ed : hearD v m = v := by rw [hearD, if_neg h5, if_neg h6]
    conv => whnf
    rw [ed]
    exact ⟨s1, mb.mono (fun _ _ k => k.elim)⟩
theorem repM_len (p : Int) : (encB (repM p)).length ≤ 100000 := by
  rw [encB]
  split
  · have e : bytesP (parts (repM p)) = be 2 1 ++ (be p 2 ++ []) := rfl
    rw [e]
    simp [be_length]
  · exact Nat.zero_le _
def FollowQ (h : H) (di : Nat) (d : CId) (po : Option (Nat × Nat)) (v : DV) (cv : CV) (now : Int) (r : V) (h' : H) : Prop :=
  ((v.live = false ∨ v.way = []) ∧ r = .tup [.sl none 0, i64 4] ∧ h' = h) ∨
  (v.live = true ∧ ∃ p l, v.way = p :: l ∧ ReportQ h di d po v (pushV cv now (encB (repM p))) p r h')
theorem dFollow {h : H} {di : Nat} {d : CId} {po : Option (Nat × Nat)} {v : DV} {cv : CV} (s : DrS h di d po v cv) (g : CG cv) (hN : cv.cnt ≤ 1000000) {now : Int} (hn0 : -1000000000 ≤ now) (hn1 : now ≤ 1000000000) (hf : ∀ b : List Int, (pushV cv now b).1.1.length ≤ 100000) :
    ACalls Tryz.prog 12 [.ptr (some (di, 0)), i64 now] h (FollowQ h di d po v cv now) := by
  refine call_ Tryz.func12 rfl rfl (by kernel_rfl) ?_
  conv => whnf
  refine (dLive s.b).mono ?_
  rintro _ h1 ⟨eh, rfl⟩
  subst eh
  cases el : v.live with
  | false =>
    conv => whnf
    exact .inl ⟨.inl el, rfl, rfl⟩
  | true =>
  obtain ⟨pw, b1, b2⟩ := s.box
  conv => whnf
  refine ⟨_, Cell.mk b1 rfl, ?_⟩
  conv => whnf
  cases ew : v.way with
  | nil =>
    conv => whnf
    exact .inl ⟨.inr ew, rfl, rfl⟩
  | cons p l =>
    obtain ⟨i1, c1, f1, f2⟩ := slo_get b2.is (show 0 < v.way.length by rw [ew]; exact Nat.zero_lt_succ _)
    have e0 : v.way.getD 0 0 = p := by rw [ew]; rfl
    rw [e0] at f2
    rw [show ((((p :: l).length : Nat) : Int) == 0) = false from by simp; omega]
    conv => whnf
    refine ⟨_, Cell.mk b1 rfl, ?_⟩
    conv => whnf
    refine ⟨i1, c1, 0, f1, rfl, by rw [ew]; exact Nat.zero_lt_succ _, ?_⟩
    conv => whnf
    refine ⟨_, f2, ?_⟩
    conv => whnf
    refine (dReport s g hN hn0 hn1 p (repM_len p) hf).mono ?_
    rintro r h2 q
    have q0 := q
    rcases q with ⟨q, _⟩ | ⟨_, _, rfl, _⟩ | ⟨_, _, qq, po', out, v', rfl, _⟩
    · rw [el] at q
      cases q
    · conv => whnf
      refine ⟨_, rfl, ?_⟩
      conv => whnf
      refine ⟨_, rfl, ?_⟩
      conv => whnf
      exact .inr ⟨el, p, l, ew, q0⟩
    · conv => whnf
      refine ⟨_, rfl, ?_⟩
      conv => whnf
      refine ⟨_, rfl, ?_⟩
      conv => whnf
      exact .inr ⟨el, p, l, ew, q0⟩
end Go.Proofs.YtmififfaljihgaaGreat
