/- FT: several texts in one. -/
import Derived.Test.YtmififfaljihgaaD5
import Derived.Test.YtmififfaljihgaaE4
set_option linter.unusedVariables false
/-! The driver: datagrams' bytes. -/
namespace Go.Proofs.Ytmififfaljihgaa
open Go Go.Ab
/-- a datagram, as the codec has it -/
def toG (g : GV) (p : Option (Nat × Nat)) : Grm := ⟨g.conn, g.kind, g.seq, g.ack, g.code, p, g.body⟩
def encV (g : GV) : List Int := encG (toG g none)
theorem encV_to (g : GV) (p : Option (Nat × Nat)) : encG (toG g p) = encV g := rfl
def bodyOk (g : GV) : Prop := Bts g.body ∧ g.body.length ≤ 100000
theorem toG_ok {h : H} {g : GV} {p : Option (Nat × Nat)} (o : gOk h (g, p)) (b : bodyOk g) : (toG g p).ok h := ⟨o.is, b⟩
def DgQ (L : List GV) (h : H) (r : V) (h' : H) : Prop := ∃ q, r = .sl q L.length ∧ Rws h' q (L.map encV) ∧ Ab.Mod none_ h h'
set_option maxHeartbeats 1000000 in
theorem dgrams41 {h : H} {q : Option (Nat × Nat)} {L : List GV} (s : Grams h q L) (hb : ∀ g ∈ L, bodyOk g) (hL : L.length ≤ 100000) : ACalls Try.prog 41 [.sl q L.length] h (DgQ L h) := by
  refine ACalls.ro (Q := fun r h' => ∃ (po : Option (Nat × Nat)) (G : List Bd), r = .sl po L.length ∧ NewSl h h' po L.length 1 (G.flatMap slC) ∧ (∀ x ∈ G, bOk h' x) ∧ G.map Prod.snd = L.map encV ∧ Ab.Mod none_ h h') ?_ (by
    rintro r h' ⟨po, G, rfl, n, ho, hG, m⟩
    obtain ⟨i, a1, a2, a3⟩ := n.freeze m
    exact ⟨i, po, rfl, ⟨G, by rw [List.length_map]; exact a2, fun x hx => (ho x hx).ro i, hG⟩, a3⟩)
  refine call_ Try.func41 rfl rfl (by kernel_rfl) ?_
  conv => whnf
  refine ⟨fun env hh => ∃ (j : Nat) (z : Int) (po : Option (Nat × Nat)) (G : List Bd), j ≤ L.length ∧ z = j ∧ NewSl h hh po j 1 (G.flatMap slC) ∧ (∀ x ∈ G, bOk hh x) ∧ G.map Prod.snd = (L.take j).map encV ∧ Ab.Mod none_ h hh ∧ env = [(9, i64 z), (2, .sl po j), (8, i64 L.length), (7, .sl q L.length)],
    fun env _ => match get env 9 with
      | .int _ z => ((L.length : Int) - z).toNat
      | _ => 0, ⟨_, Forget.cons rfl (Forget.cons rfl (Forget.cons rfl (Forget.cons rfl (Forget.nil _)))), 0, _, none, [], Nat.zero_le _, rfl, NewSl.nil _ _ _, fun x hx => (by cases hx), rfl, mod_refl _ _, rfl⟩, ?_⟩
  rintro _ hh ⟨j, z, po, G, hj, rfl, no, ho, hG, mo, rfl⟩
  conv => whnf
  refine br_mk (fun hd => ?_) (fun hd => ?_)
  rotate_left
  · conv => whnf
    have hd : ¬ j < L.length := by simpa using hd
    obtain rfl : j = L.length := by omega
    rw [List.take_length] at hG
    exact ⟨po, G, rfl, no, ho, hG, mo⟩
  have hd : j < L.length := by simpa using hd
  obtain ⟨i1, c1, p1, f1, f2, f3, f4⟩ := (s.get mo).cell hd
  have bj := hb _ (List.getElem_mem hd)
  conv => whnf
  refine ⟨i1, c1, j, f1, rfl, hd, ?_⟩
  conv => whnf
  refine ⟨_, f2, ?_⟩
  conv => whnf
  obtain ⟨g0, gx, mx⟩ := lay_row (h := hh) (sz := 6) [i64 0, i64 0, i64 0, i64 0, i64 0, .sl none 0] (gC (L[j], p1))
  refine ⟨_, _, g0, Nat.le_of_ble_eq_true rfl, ?_⟩
  conv => whnf
  refine ⟨gC (L[j], p1), Cells.mk gx (Nat.le_of_ble_eq_true rfl) rfl, ?_⟩
  conv => whnf
  refine (genc49 (toG L[j] p1) (toG_ok (f4.get mx) bj)).mono ?_
  rintro _ h3 ⟨q3, rfl, o3, m3⟩
  rw [encV_to] at o3 ⊢
  have mo3 := mod_none mo (mod_none mx m3)
  have no3 := NewSl.kept no (mod_none mx m3)
  have ho3 : ∀ x ∈ G, bOk h3 x := fun x hx => ((ho x hx).get mx).get m3
  conv => whnf
  refine ⟨_, rfl, ?_⟩
  conv => whnf
  refine ⟨_, rfl, ?_⟩
  conv => whnf
  obtain ⟨y1, y2, y3⟩ := app1 no3 mo3 [slV (q3, encV L[j])] rfl
  refine ⟨_, _, y1, y2, by rw [show (T.at_ 36).bytes = 24 from rfl]; omega, by omega, fun p' h' hs hm hf => ?_⟩
  obtain ⟨ng, mg, my⟩ := y3 p' h' hs hm hf
  have e6 : G.flatMap slC ++ [slV (q3, encV L[j])] = (G ++ [(q3, encV L[j])]).flatMap slC := by simp [slC]
  rw [e6] at ng
  conv => whnf
  rw [succ_i64 hd (by omega)]
  refine ⟨_, Forget.cons rfl (Forget.cons rfl (Forget.cons rfl (Forget.cons rfl (Forget.nil _)))), ⟨j + 1, _, p', G ++ [(q3, encV L[j])], hd, rfl, ng, fun x hx => ?_, ?_, mg, rfl⟩, ?_⟩
  · rcases List.mem_append.1 hx with hx | hx
    · exact (ho3 x hx).get my
    · rw [List.mem_singleton.1 hx]
      exact RoSl.get (show RoSl h3 q3 (encV L[j]).length 1 (ints .u8 (encV L[j])) from o3) my
  · rw [List.map_append, hG, List.take_succ_eq_append_getElem hd, List.map_append]
    rfl
  · show ((L.length : Int) - ((j + 1 : Nat) : Int)).toNat < ((L.length : Int) - (j : Int)).toNat
    omega
end Go.Proofs.Ytmififfaljihgaa
/-! The driver: what lies in memory; a message that is pushed. -/
namespace Go.Proofs.Ytmififfaljihgaa
open Go Go.Ab
structure DV where
  c : Cfg
  conn : Int
  live : Bool
  why : Int
  pos : Int
  way : List Int
  has : Bool
abbrev drow (v : DV) (ch : V) (pw : Option (Nat × Nat)) : List V := [i64 v.c.sess, i64 v.c.win, i64 v.c.retry, i64 v.c.base, i64 v.c.cap, i64 v.c.idle, ch, i64 v.conn, .bool v.live, i64 v.why, i64 v.pos, .sl pw v.way.length, .bool v.has]
/-- a driver that has a channel -/
structure DrS (h : H) (di : Nat) (d : CId) (po : Option (Nat × Nat)) (v : DV) (cv : CV) : Prop where
  box : ∃ pw, h.obj di = some (.row true 13 (drow v (.ptr (some (d.c, 0))) pw)) ∧ RoSl h pw v.way.length 1 (ints .i64 v.way)
  ch : ChS h d po cv
  sep : ¬ chAll d po di
/-- a driver that never started -/
def DrN (h : H) (di : Nat) (v : DV) : Prop := ∃ pw, h.obj di = some (.row true 13 (drow v (.ptr none) pw)) ∧ RoSl h pw v.way.length 1 (ints .i64 v.way)
def drAll (di : Nat) (d : CId) (po : Option (Nat × Nat)) : Nat → Prop := fun i => i = di ∨ chAll d po i
section
variable {h h' : H} {di : Nat} {d : CId} {po : Option (Nat × Nat)} {v : DV} {cv : CV}
theorem DrS.get {Z : Nat → Prop} (s : DrS h di d po v cv) (m : Ab.Mod Z h h') (hz : ∀ i, drAll di d po i → ¬ Z i) : DrS h' di d po v cv := by
  obtain ⟨⟨pw, h1, h2⟩, h3, h4⟩ := s
  exact ⟨⟨pw, m.get h1 (.inl (hz _ (.inl rfl))), h2.get m⟩, h3.get m (fun i hi => hz i (.inr hi)), h4⟩
theorem DrS.old (s : DrS h di d po v cv) (m : Ab.Mod none_ h h') : DrS h' di d po v cv := s.get m (fun _ _ k => k)
theorem DrS.lt (s : DrS h di d po v cv) {i : Nat} (hi : drAll di d po i) : i < h.next := by
  obtain ⟨⟨pw, h1, h2⟩, h3, h4⟩ := s
  rcases hi with rfl | hi
  · exact h.lt _ _ h1
  · exact h3.lt hi
end
/-- what a channel must be for what is sent to be bytes -/
structure CG (cv : CV) : Prop where
  ok : COk cv
  ov : OV cv
  ln : ∀ x ∈ cv.C, x.2.length ≤ 100000
theorem oct_bts {xs : List Int} (o : Oct xs) : Bts xs := fun x hx => by
  have := o x hx
  omega
theorem go_body {g : GV} (o : GO g) : bodyOk g := ⟨oct_bts o.oct, o.len⟩
def DPushQ (h : H) (di : Nat) (d : CId) (po : Option (Nat × Nat)) (v : DV) (R : (List GV × Int) × CV) (r : V) (h' : H) : Prop :=
  ∃ q po', r = .tup [.sl q (R.1.1.map encV).length, i64 R.1.2] ∧ Rws h' q (R.1.1.map encV) ∧ DrS h' di d po' v R.2 ∧ (∀ i, inSl po' i → inSl po i ∨ h.next ≤ i) ∧ Ab.Mod (chAll d po) h h'
theorem within27 (h : H) (x : Int) : ACalls Try.prog 27 [i64 x] h (fun r h' => h' = h ∧ r = .bool (inR x 0 65535)) := by
  refine call_ Try.func27 rfl rfl (by kernel_rfl) ?_
  conv => whnf
  refine br_mk (fun ha => ?_) (fun ha => ?_)
  · conv => whnf
    have ha : 0 ≤ x := by simpa using ha
    exact ⟨rfl, by rw [inR, decide_eq_true ha, Bool.true_and]⟩
  · conv => whnf
    have ha : ¬ 0 ≤ x := by simpa using ha
    exact ⟨rfl, by rw [inR, decide_eq_false ha, Bool.false_and]⟩
theorem encB_oct (m : Msg) : Oct (encB m) := fun x hx => by
  rw [encB] at hx
  split at hx
  · have := bytesP_bts _ x hx
    omega
  · cases hx
set_option maxHeartbeats 1000000 in
theorem dPush {h : H} {di : Nat} {d : CId} {po : Option (Nat × Nat)} {v : DV} {cv : CV} (s : DrS h di d po v cv) (g : CG cv) (hN : cv.cnt ≤ 1000000) {now : Int} (hn0 : -1000000000 ≤ now) (hn1 : now ≤ 1000000000) (m : Msg) (ok : m.ok h) (hl : (encB m).length ≤ 100000) (hf : ∀ b : List Int, (pushV cv now b).1.1.length ≤ 100000) :
    ACalls Try.prog 29 [.ptr (some (di, 0)), i64 now, .agg m.cells] h (DPushQ h di d po v (pushV cv now (encB m))) := by
  refine call_ Try.func29 rfl rfl (by kernel_rfl) ?_
  conv => whnf
  have mb := Mod.push none_ h (.row true 9 m.cells)
  have gb : (h.push (.row true 9 m.cells)).obj h.next = some (.row true 9 m.cells) := H.obj_push_new _ _
  refine ⟨m.cells, Cells.mk gb (Nat.le_of_ble_eq_true rfl) rfl, ?_⟩
  conv => whnf
  refine (enc41 m (ok.old mb (fun _ _ k => k))).mono ?_
  rintro _ h2 ⟨q2, rfl, o2, m2⟩
  have mo := mod_none mb m2
  have s2 := s.old mo
  conv => whnf
  refine ⟨_, rfl, ?_⟩
  conv => whnf
  refine ⟨_, rfl, ?_⟩
  conv => whnf
  obtain ⟨pw, b1, b2⟩ := s2.box
  refine ⟨_, Cell.mk b1 rfl, ?_⟩
  conv => whnf
  have hcnt : cv.s.N + cv.O.length ≤ 1000000 := hN
  refine (cPush s2.ch g.ok (by omega) hn0 hn1 (show SlIs h2 q2 (encB m).length false 1 (ints .u8 (encB m)) from o2.is) hl).mono ?_
  rintro _ h3 ⟨q3, po3, rfl, gr, c3, hp3, m3⟩
  conv => whnf
  refine ⟨_, rfl, ?_⟩
  conv => whnf
  refine ⟨_, rfl, ?_⟩
  conv => whnf
  have pov := push_ov g.ok g.ov (by omega) now (encB_oct m) hl
  refine (dgrams41 gr (fun x hx => go_body (pov.2.1 x hx)) (hf _)).mono ?_
  rintro _ h4 ⟨q4, rfl, rw4, m4⟩
  conv => whnf
  have sepd : ∀ i, chAll d po3 i → i ≠ di := fun i hi e => by
    rcases hi with hi | hi
    · exact s.sep (.inl (e ▸ hi))
    · rcases hp3 i hi with k | k
      · exact s.sep (.inr (e ▸ k))
      · have := s2.lt (i := di) (.inl rfl)
        omega
  have b3 := (m3.get b1 (.inl s.sep))
  have b4 := m4.get b3 (.inl (fun k => k))
  refine ⟨q4, po3, by rw [List.length_map], rw4, ⟨⟨pw, b4, (b2.get m3).get m4⟩, c3.old m4, fun k => sepd _ k rfl⟩, fun i hi => ?_, mo.trans' (m3.trans' m4 (S2 := chAll d po) (fun _ _ k => k) (fun _ _ k => k.elim)) (fun _ _ k => k.elim) (fun _ _ k => k)⟩
  rcases hp3 i hi with k | k
  · exact .inl k
  · exact .inr (Nat.le_trans mo.next k)
end Go.Proofs.Ytmififfaljihgaa
/-! The driver: what it tells; a new one. -/
namespace Go.Proofs.Ytmififfaljihgaa
open Go Go.Ab
def DrB (h : H) (di : Nat) (v : DV) : Prop := ∃ ch pw, h.obj di = some (.row true 13 (drow v ch pw)) ∧ RoSl h pw v.way.length 1 (ints .i64 v.way)
theorem DrS.b {h : H} {di : Nat} {d : CId} {po : Option (Nat × Nat)} {v : DV} {cv : CV} (s : DrS h di d po v cv) : DrB h di v := by
  obtain ⟨pw, h1, h2⟩ := s.box
  exact ⟨_, pw, h1, h2⟩
theorem DrN.b {h : H} {di : Nat} {v : DV} (s : DrN h di v) : DrB h di v := by
  obtain ⟨pw, h1, h2⟩ := s
  exact ⟨_, pw, h1, h2⟩
theorem DrN.get {Z : Nat → Prop} {h h' : H} {di : Nat} {v : DV} (s : DrN h di v) (m : Ab.Mod Z h h') (hz : ¬ Z di) : DrN h' di v := by
  obtain ⟨pw, h1, h2⟩ := s
  exact ⟨pw, m.get h1 (.inl hz), h2.get m⟩
theorem dConn {h : H} {di : Nat} {v : DV} (s : DrB h di v) : ACalls Try.prog 11 [.ptr (some (di, 0))] h (fun r h' => h' = h ∧ r = i64 v.conn) := by
  obtain ⟨ch, pw, b, _⟩ := s
  refine call_ Try.func11 rfl rfl (by kernel_rfl) ?_
  conv => whnf
  refine ⟨_, Cell.mk b rfl, ?_⟩
  conv => whnf
  exact ⟨rfl, rfl⟩
theorem dLive {h : H} {di : Nat} {v : DV} (s : DrB h di v) : ACalls Try.prog 12 [.ptr (some (di, 0))] h (fun r h' => h' = h ∧ r = .bool v.live) := by
  obtain ⟨ch, pw, b, _⟩ := s
  refine call_ Try.func12 rfl rfl (by kernel_rfl) ?_
  conv => whnf
  refine ⟨_, Cell.mk b rfl, ?_⟩
  conv => whnf
  exact ⟨rfl, rfl⟩
theorem dLive0 (h : H) : ACalls Try.prog 12 [.ptr none] h (fun r h' => h' = h ∧ r = .bool false) := by
  refine call_ Try.func12 rfl rfl (by kernel_rfl) ?_
  conv => whnf
  exact ⟨rfl, rfl⟩
theorem dAt {h : H} {di : Nat} {v : DV} (s : DrB h di v) : ACalls Try.prog 13 [.ptr (some (di, 0))] h (fun r h' => h' = h ∧ r = i64 v.pos) := by
  obtain ⟨ch, pw, b, _⟩ := s
  refine call_ Try.func13 rfl rfl (by kernel_rfl) ?_
  conv => whnf
  refine ⟨_, Cell.mk b rfl, ?_⟩
  conv => whnf
  exact ⟨rfl, rfl⟩
theorem dAt0 (h : H) : ACalls Try.prog 13 [.ptr none] h (fun r h' => h' = h ∧ r = i64 (-1)) := by
  refine call_ Try.func13 rfl rfl (by kernel_rfl) ?_
  conv => whnf
  exact ⟨rfl, rfl⟩
theorem dWhy {h : H} {di : Nat} {v : DV} (s : DrB h di v) : ACalls Try.prog 18 [.ptr (some (di, 0))] h (fun r h' => h' = h ∧ r = i64 v.why) := by
  obtain ⟨ch, pw, b, _⟩ := s
  refine call_ Try.func18 rfl rfl (by kernel_rfl) ?_
  conv => whnf
  refine ⟨_, Cell.mk b rfl, ?_⟩
  conv => whnf
  exact ⟨rfl, rfl⟩
def DV.new (c : Cfg) : DV := ⟨c, 0, false, 0, -1, [], false⟩
theorem dNew (h : H) (c : Cfg) : ACalls Try.prog 7 [.agg c.cells] h (fun r h' => (okCfg c = false ∧ r = .tup [.ptr none, i64 1] ∧ Ab.Mod none_ h h') ∨ (okCfg c = true ∧ ∃ di, r = .tup [.ptr (some (di, 0)), i64 0] ∧ DrN h' di (DV.new c) ∧ h.next ≤ di ∧ Ab.Mod none_ h h')) := by
  refine call_ Try.func7 rfl rfl (by kernel_rfl) ?_
  conv => whnf
  have mP := Mod.push none_ h (.row true 6 c.cells)
  have gm : (h.push (.row true 6 c.cells)).obj h.next = some (.row true 6 c.cells) := H.obj_push_new _ _
  refine ⟨c.cells, Cells.mk gm (Nat.le_of_ble_eq_true rfl) rfl, ?_⟩
  conv => whnf
  refine (cCheck _ c).mono ?_
  rintro _ h1 ⟨rfl, m1⟩
  have gm := m1.get gm (.inl (fun k => k))
  have mo := mod_none mP m1
  cases ok : okCfg c with
  | false =>
    conv => whnf
    exact .inl ⟨rfl, rfl, mo⟩
  | true =>
    conv => whnf
    refine ⟨c.cells, Cells.mk gm (Nat.le_of_ble_eq_true rfl) rfl, ?_⟩
    conv => whnf
    have q4 := Mod.push none_ h1 (.row true 13 (drow (DV.new c) (.ptr none) none))
    exact .inr ⟨rfl, h1.next, rfl, ⟨none, H.obj_push_new h1 _, ⟨rfl, .inl rfl⟩⟩, mo.next, mod_none mo q4⟩
end Go.Proofs.Ytmififfaljihgaa
/-! The driver: Start. -/
namespace Go.Proofs.Ytmififfaljihgaa
open Go Go.Ab
def openM (a n : Int) : Msg := ⟨1, a, n, none, [], 0, 0, 0, 0, 0⟩
def startD (v : DV) (a : Int) : DV := ⟨v.c, v.conn + 1, true, 0, a, [], false⟩
def startR (v : DV) (now a n : Int) : (List GV × Int) × CV := pushV (CV.new v.c (v.conn + 1)) now (encB (openM a n))
def StartQ (h : H) (di : Nat) (v : DV) (now a n : Int) (r : V) (h' : H) : Prop :=
  ((inR a 0 65535 = false ∨ inR n 0 65535 = false) ∧ r = .tup [.sl none 0, i64 1] ∧ h' = h) ∨
  (inR a 0 65535 = true ∧ inR n 0 65535 = true ∧ ∃ d q po, r = .tup [.sl q ((startR v now a n).1.1.map encV).length, i64 (startR v now a n).1.2] ∧ Rws h' q ((startR v now a n).1.1.map encV) ∧ DrS h' di d po (startD v a) (startR v now a n).2 ∧ (∀ i, chAll d po i → h.next ≤ i) ∧ Ab.Mod (one di) h h')
theorem openM_ok (h : H) (a n : Int) : (openM a n).ok h := ⟨SlIs.nil _ _ _, (by decide : (-9223372036854775808 : Int) ≤ 0), (by decide : (0 : Int) ≤ 9223372036854775807), Nat.zero_le _⟩
set_option maxHeartbeats 1000000 in
theorem dStart {h : H} {di : Nat} {v : DV} (s : DrB h di v) (ok : okCfg v.c = true) (hc : 0 ≤ v.conn ∧ v.conn ≤ 1000000) {now : Int} (hn0 : -1000000000 ≤ now) (hn1 : now ≤ 1000000000) (a n : Int) (hf : ∀ b : List Int, (pushV (CV.new v.c (v.conn + 1)) now b).1.1.length ≤ 100000) (hl : (encB (openM a n)).length ≤ 100000) :
    ACalls Try.prog 10 [.ptr (some (di, 0)), i64 now, i64 a, i64 n] h (StartQ h di v now a n) := by
  obtain ⟨ch, pw, b, rw0⟩ := s
  have hdi := h.lt _ _ b
  refine call_ Try.func10 rfl rfl (by kernel_rfl) ?_
  conv => whnf
  refine (within27 _ a).mono ?_
  rintro _ h1 ⟨eh, rfl⟩
  subst eh
  cases e1 : inR a 0 65535 with
  | false =>
    conv => whnf
    exact .inl ⟨.inl e1, rfl, rfl⟩
  | true =>
  conv => whnf
  refine (within27 _ n).mono ?_
  rintro _ h1 ⟨eh, rfl⟩
  subst eh
  cases e2 : inR n 0 65535 with
  | false =>
    conv => whnf
    exact .inl ⟨.inr e2, rfl, rfl⟩
  | true =>
  have hw : IntKind.i64.wrap (v.conn + 1) = v.conn + 1 := wrap_i64 (by omega) (by omega)
  have okc : okCh v.c (v.conn + 1) = true := by
    rw [okCh, ok, inR_iff.2 ⟨by omega, by omega⟩]
    rfl
  conv => whnf
  refine ⟨[0, 1, 2, 3, 4, 5, 6, 7, 8, 9, 10, 11, 12, 13, 14], [0, 1, 3, 7, 0, 16, 48, 112, 240, 511, 1023, 2047, 2047, 4095, 16383], by kernel_rfl, ?_⟩
  conv => whnf
  refine ⟨v.c.cells, Cells.mk b (Nat.le_of_ble_eq_true rfl) rfl, ?_⟩
  conv => whnf
  refine ⟨_, Cell.mk b rfl, ?_⟩
  conv => whnf
  rw [hw]
  refine (cNew _ v.c (v.conn + 1)).mono ?_
  rintro _ h2 (⟨q, _⟩ | ⟨_, d, rfl, c2, nd, m2⟩)
  · rw [okc] at q
    cases q
  have b2 := m2.get b (.inl (fun k => k))
  conv => whnf
  refine ⟨_, rfl, ?_⟩
  conv => whnf
  refine ⟨_, rfl, ?_⟩
  conv => whnf
  refine ⟨[0, 1, 2, 3, 4, 5, 6, 7, 8, 9, 10, 11, 12, 13, 14], [0, 0, 2, 6, 14, 0, 0, 64, 192, 448, 960, 0, 4094, 8191, 16383], by kernel_rfl, ?_⟩
  conv => whnf
  refine ⟨v.c.cells, Cells.mk b2 (Nat.le_of_ble_eq_true rfl) rfl, ?_⟩
  conv => whnf
  refine ⟨_, Cell.mk b2 rfl, ?_⟩
  conv => whnf
  rw [hw]
  refine ⟨_, _, b2, Nat.le_of_ble_eq_true rfl, ?_⟩
  conv => whnf
  have mS : Ab.Mod (one di) h2 (h2.set di (.row true 13 (drow (startD v a) (.ptr (some (d.c, 0))) none))) := Mod.set rfl b2 rfl
  have hnd : ∀ i, chAll d none i → ¬ one di i := fun i hi k => by
    have hk : i = di := k
    rcases hi with hi | ⟨o, e⟩
    · have := nd i hi
      omega
    · cases e
  have s3 : DrS (h2.set di (.row true 13 (drow (startD v a) (.ptr (some (d.c, 0))) none))) di d none (startD v a) (CV.new v.c (v.conn + 1)) :=
    ⟨⟨none, H.obj_set_same b2, ⟨rfl, .inl rfl⟩⟩, c2.get mS hnd, fun hi => hnd di hi rfl⟩
  refine (dPush s3 ⟨new_cok okc, new_ov _ _, fun x hx => (by cases hx)⟩ (show ((0 : Int) + ((0 : Nat) : Int)) ≤ 1000000 by decide) hn0 hn1 (openM a n) (openM_ok _ a n) hl hf).mono ?_
  rintro _ h4 ⟨q4, po4, rfl, rw4, s4, hp4, m4⟩
  conv => whnf
  refine ⟨_, rfl, ?_⟩
  conv => whnf
  refine ⟨_, rfl, ?_⟩
  conv => whnf
  refine .inr ⟨e1, e2, d, q4, po4, rfl, rw4, s4, fun i hi => ?_, m2.trans' (mS.trans' m4 (S2 := fun i => one di i ∨ h1.next ≤ i) (fun _ _ k => .inl k) (fun i _ k => ?_)) (fun _ _ k => k.elim) (fun i hi k => k.elim (fun k => k) (fun k => absurd hi (by omega)))⟩
  · rcases hi with hi | hi
    · exact nd i hi
    · rcases hp4 i hi with ⟨o, e⟩ | k
      · cases e
      · exact Nat.le_trans m2.next k
  · rcases k with k | ⟨o, e⟩
    · exact .inr (nd i k)
    · cases e
end Go.Proofs.Ytmififfaljihgaa
/-! The driver: Tick. -/
namespace Go.Proofs.Ytmififfaljihgaa
open Go Go.Ab
def tickO (cv : CV) (now : Int) : List (List Int) := if (passV cv now).1.2 = 0 then (passV cv now).1.1.map encV else []
def tickD (v : DV) (cv : CV) (now : Int) : DV := if (passV cv now).1.2 = 0 then v else { v with live := false, why := 0 }
def TickQ (h : H) (di : Nat) (d : CId) (po : Option (Nat × Nat)) (v : DV) (cv : CV) (now : Int) (r : V) (h' : H) : Prop :=
  (v.live = false ∧ r = .sl none 0 ∧ h' = h) ∨
  (v.live = true ∧ ∃ q po', r = .sl q (tickO cv now).length ∧ Rws h' q (tickO cv now) ∧ DrS h' di d po' (tickD v cv now) (passV cv now).2 ∧ (∀ i, inSl po' i → inSl po i ∨ h.next ≤ i) ∧ Ab.Mod (drAll di d po) h h')
theorem rws_nil (h : H) : Rws h none [] := ⟨[], ⟨rfl, .inl rfl⟩, fun x hx => (by cases hx), rfl⟩
set_option maxHeartbeats 1000000 in
theorem dTick {h : H} {di : Nat} {d : CId} {po : Option (Nat × Nat)} {v : DV} {cv : CV} (s : DrS h di d po v cv) (g : CG cv) (hN : cv.cnt ≤ 1000000) {now : Int} (hn0 : -1000000000 ≤ now) (hn1 : now ≤ 1000000000) (hf : (passV cv now).1.1.length ≤ 100000) :
    ACalls Try.prog 24 [.ptr (some (di, 0)), i64 now] h (TickQ h di d po v cv now) := by
  refine call_ Try.func24 rfl rfl (by kernel_rfl) ?_
  conv => whnf
  refine (dLive s.b).mono ?_
  rintro _ h1 ⟨eh, rfl⟩
  subst eh
  cases el : v.live with
  | false =>
    conv => whnf
    exact .inl ⟨el, rfl, rfl⟩
  | true =>
  obtain ⟨pw, b1, b2⟩ := s.box
  conv => whnf
  refine ⟨_, Cell.mk b1 rfl, ?_⟩
  conv => whnf
  have hcnt : cv.s.N + cv.O.length ≤ 1000000 := hN
  refine (cPass s.ch g.ok (by omega) hn0 hn1).mono ?_
  rintro _ h3 ⟨q3, po3, rfl, gr, c3, hp3, m3⟩
  have b3 := m3.get b1 (.inl s.sep)
  have w3 := b2.get m3
  have sepd : ∀ i, chAll d po3 i → i ≠ di := fun i hi e => by
    rcases hi with hi | hi
    · exact s.sep (.inl (e ▸ hi))
    · rcases hp3 i hi with k | k
      · exact s.sep (.inr (e ▸ k))
      · have := s.lt (i := di) (.inl rfl)
        omega
  conv => whnf
  refine ⟨_, rfl, ?_⟩
  conv => whnf
  refine ⟨_, rfl, ?_⟩
  conv => whnf
  refine br_mk (fun he => ?_) (fun he => ?_)
  · have he : ¬ (passV cv now).1.2 = 0 := by simpa using he
    have eO : tickO cv now = [] := if_neg he
    have eD : tickD v cv now = { v with live := false, why := 0 } := if_neg he
    conv => whnf
    refine ⟨_, _, b3, Nat.le_of_ble_eq_true rfl, ?_⟩
    conv => whnf
    have mS : Ab.Mod (one di) h3 (h3.set di (.row true 13 (drow { v with live := false } (.ptr (some (d.c, 0))) pw))) := Mod.set rfl b3 rfl
    have b4 : (h3.set di (.row true 13 (drow { v with live := false } (.ptr (some (d.c, 0))) pw))).obj di = some (.row true 13 (drow { v with live := false } (.ptr (some (d.c, 0))) pw)) := H.obj_set_same b3
    refine ⟨_, _, b4, Nat.le_of_ble_eq_true rfl, ?_⟩
    conv => whnf
    have mT : Ab.Mod (one di) (h3.set di (.row true 13 (drow { v with live := false } (.ptr (some (d.c, 0))) pw))) ((h3.set di (.row true 13 (drow { v with live := false } (.ptr (some (d.c, 0))) pw))).set di (.row true 13 (drow { v with live := false, why := 0 } (.ptr (some (d.c, 0))) pw))) := Mod.set rfl b4 rfl
    have mST := mS.trans' mT (S2 := one di) (fun _ _ k => k) (fun _ _ k => k)
    refine .inr ⟨el, none, po3, by rw [eO]; rfl, by rw [eO]; exact rws_nil _, ?_, hp3, m3.trans' mST (fun _ _ k => .inr k) (fun _ _ k => .inl k)⟩
    rw [eD]
    exact ⟨⟨pw, H.obj_set_same b4, (w3.get mS).get mT⟩, c3.get mST (fun i hi k => sepd i hi k), fun k => sepd _ k rfl⟩
  · have he : (passV cv now).1.2 = 0 := by simpa using he
    have eO : tickO cv now = (passV cv now).1.1.map encV := if_pos he
    have eD : tickD v cv now = v := if_pos he
    have pov := pass_ov g.ok g.ov (by omega) now
    conv => whnf
    refine (dgrams41 gr (fun x hx => go_body (pov.2.1 x hx)) hf).mono ?_
    rintro _ h4 ⟨q4, rfl, rw4, m4⟩
    conv => whnf
    refine .inr ⟨el, q4, po3, by rw [eO, List.length_map], by rw [eO]; exact rw4, ?_, hp3, m3.trans' m4 (fun _ _ k => .inr k) (fun _ _ k => k.elim)⟩
    rw [eD]
    exact ⟨⟨pw, m4.get b3 (.inl (fun k => k)), w3.get m4⟩, c3.old m4, fun k => sepd _ k rfl⟩
end Go.Proofs.Ytmififfaljihgaa
/-! The driver: Report. -/
namespace Go.Proofs.Ytmififfaljihgaa
open Go Go.Ab
def repM (p : Int) : Msg := ⟨2, p, 0, none, [], 0, 0, 0, 0, 0⟩
theorem repM_ok (h : H) (p : Int) : (repM p).ok h := ⟨SlIs.nil _ _ _, (by decide : (-9223372036854775808 : Int) ≤ 0), (by decide : (0 : Int) ≤ 9223372036854775807), Nat.zero_le _⟩
/-- the way behind a place that was told -/
def repD (v : DV) (p : Int) : DV :=
  if v.has = true ∧ v.way.head? = some p then { v with way := v.way.tail, pos := p }
  else if p ≠ v.pos then { v with way := [], has := false, pos := p } else { v with pos := p }
def ReportQ (h : H) (di : Nat) (d : CId) (po : Option (Nat × Nat)) (v : DV) (R : (List GV × Int) × CV) (p : Int) (r : V) (h' : H) : Prop :=
  (v.live = false ∧ r = .tup [.sl none 0, i64 4] ∧ h' = h) ∨
  (v.live = true ∧ inR p 0 65535 = false ∧ r = .tup [.sl none 0, i64 1] ∧ h' = h) ∨
  (v.live = true ∧ inR p 0 65535 = true ∧ ∃ q po' out v', r = .tup [.sl q out.length, i64 R.1.2] ∧ Rws h' q out ∧ DrS h' di d po' v' R.2 ∧ (∀ i, inSl po' i → inSl po i ∨ h.next ≤ i) ∧ Ab.Mod (drAll di d po) h h' ∧
    ((R.1.2 ≠ 0 ∧ out = [] ∧ v' = v) ∨ (R.1.2 = 0 ∧ out = R.1.1.map encV ∧ v' = repD v p)))
theorem DrS.set {h : H} {di : Nat} {d : CId} {po : Option (Nat × Nat)} {v : DV} {cv : CV} (s : DrS h di d po v cv) {cs : List V} (b : h.obj di = some (.row true 13 cs)) {v' : DV} {pw' : Option (Nat × Nat)} (w : RoSl h pw' v'.way.length 1 (ints .i64 v'.way)) :
    DrS (h.set di (.row true 13 (drow v' (.ptr (some (d.c, 0))) pw'))) di d po v' cv ∧ Ab.Mod (one di) h (h.set di (.row true 13 (drow v' (.ptr (some (d.c, 0))) pw'))) ∧ (h.set di (.row true 13 (drow v' (.ptr (some (d.c, 0))) pw'))).obj di = some (.row true 13 (drow v' (.ptr (some (d.c, 0))) pw')) ∧ RoSl (h.set di (.row true 13 (drow v' (.ptr (some (d.c, 0))) pw'))) pw' v'.way.length 1 (ints .i64 v'.way) := by
  have mS : Ab.Mod (one di) h (h.set di (.row true 13 (drow v' (.ptr (some (d.c, 0))) pw'))) := Mod.set rfl b rfl
  exact ⟨⟨⟨pw', H.obj_set_same b, w.get mS⟩, s.ch.get mS (fun i hi k => s.sep (by have : i = di := k; rw [← this]; exact hi)), s.sep⟩, mS, H.obj_set_same b, w.get mS⟩
set_option maxHeartbeats 1000000 in
theorem dReport {h : H} {di : Nat} {d : CId} {po : Option (Nat × Nat)} {v : DV} {cv : CV} (s : DrS h di d po v cv) (g : CG cv) (hN : cv.cnt ≤ 1000000) {now : Int} (hn0 : -1000000000 ≤ now) (hn1 : now ≤ 1000000000) (p : Int) (hl : (encB (repM p)).length ≤ 100000) (hf : ∀ b : List Int, (pushV cv now b).1.1.length ≤ 100000) :
    ACalls Try.prog 19 [.ptr (some (di, 0)), i64 now, i64 p] h (ReportQ h di d po v (pushV cv now (encB (repM p))) p) := by
  refine call_ Try.func19 rfl rfl (by kernel_rfl) ?_
  conv => whnf
  refine (dLive s.b).mono ?_
  rintro _ h1 ⟨eh, rfl⟩
  subst eh
  cases el : v.live with
  | false =>
    conv => whnf
    exact .inl ⟨el, rfl, rfl⟩
  | true =>
  conv => whnf
  refine (within27 _ p).mono ?_
  rintro _ h2 ⟨eh, rfl⟩
  subst eh
  cases e1 : inR p 0 65535 with
  | false =>
    conv => whnf
    exact .inr (.inl ⟨el, e1, rfl, rfl⟩)
  | true =>
  conv => whnf
  refine (dPush s g hN hn0 hn1 (repM p) (repM_ok _ p) hl hf).mono ?_
  rintro _ h3 ⟨q3, po3, rfl, rw3, s3, hp3, m3⟩
  generalize pushV cv now (encB (repM p)) = R at *
  conv => whnf
  refine ⟨_, rfl, ?_⟩
  conv => whnf
  refine ⟨_, rfl, ?_⟩
  conv => whnf
  refine br_mk (fun he => ?_) (fun he => ?_)
  · have he : ¬ R.1.2 = 0 := by simpa using he
    conv => whnf
    exact .inr (.inr ⟨el, e1, none, po3, [], v, rfl, rws_nil _, s3, hp3, m3.mono (fun _ _ k => .inr k), .inl ⟨he, rfl, rfl⟩⟩)
  have he : R.1.2 = 0 := by simpa using he
  obtain ⟨pw, b1, b2⟩ := s3.box
  conv => whnf
  refine ⟨_, Cell.mk b1 rfl, ?_⟩
  have hsl := slo_len b2.is
  cases eh : v.has with
  | false =>
    conv => whnf
    have hno : ¬ (v.has = true ∧ v.way.head? = some p) := fun q => by rw [eh] at q; cases q.1
    refine ⟨_, Cell.mk b1 rfl, ?_⟩
    conv => whnf
    refine br_mk (fun hy => ?_) (fun hy => ?_)
    · have hy : p ≠ v.pos := by simpa using hy
      have ed : repD v p = { v with way := [], has := false, pos := p } := by rw [repD, if_neg hno, if_pos hy]
      conv => whnf
      refine ⟨_, _, b1, Nat.le_of_ble_eq_true rfl, ?_⟩
      conv => whnf
      obtain ⟨s4, m4, b4, w4⟩ := s3.set b1 (v' := { v with way := [] }) (pw' := none) ⟨rfl, .inl rfl⟩
      refine ⟨_, _, b4, Nat.le_of_ble_eq_true rfl, ?_⟩
      conv => whnf
      obtain ⟨s5, m5, b5, w5⟩ := s4.set b4 (v' := { v with way := [], has := false }) (pw' := none) w4
      refine ⟨_, _, b5, Nat.le_of_ble_eq_true rfl, ?_⟩
      conv => whnf
      obtain ⟨s6, m6, b6, w6⟩ := s5.set b5 (v' := { v with way := [], has := false, pos := p }) (pw' := none) w5
      have mm := (m4.trans' m5 (S2 := one di) (fun _ _ k => k) (fun _ _ k => k)).trans' m6 (S2 := one di) (fun _ _ k => k) (fun _ _ k => k)
      exact .inr (.inr ⟨el, e1, q3, po3, _, _, by rw [he], rw3.get mm, s6, hp3, m3.trans' mm (fun _ _ k => .inr k) (fun _ _ k => .inl k), .inr ⟨he, rfl, ed.symm⟩⟩)
    · have hy : ¬ p ≠ v.pos := by simpa using hy
      have ed : repD v p = { v with pos := p } := by rw [repD, if_neg hno, if_neg hy]
      conv => whnf
      refine ⟨_, _, b1, Nat.le_of_ble_eq_true rfl, ?_⟩
      conv => whnf
      obtain ⟨s6, m6, b6, w6⟩ := s3.set b1 (v' := { v with pos := p }) (pw' := pw) b2
      exact .inr (.inr ⟨el, e1, q3, po3, _, _, by rw [he], rw3.get m6, s6, hp3, m3.trans' m6 (fun _ _ k => .inr k) (fun _ _ k => .inl k), .inr ⟨he, rfl, ed.symm⟩⟩)
  | true =>
    conv => whnf
    refine ⟨_, Cell.mk b1 rfl, ?_⟩
    conv => whnf
    by_cases hw : v.way.length = 0
    · rw [decide_eq_false (show ¬ ((v.way.length : Int) > 0) by omega)]
      conv => whnf
      have hno : ¬ (v.has = true ∧ v.way.head? = some p) := fun q => by
        rw [List.length_eq_zero_iff.1 hw] at q
        cases q.2
      refine ⟨_, Cell.mk b1 rfl, ?_⟩
      conv => whnf
      refine br_mk (fun hy => ?_) (fun hy => ?_)
      · have hy : p ≠ v.pos := by simpa using hy
        have ed : repD v p = { v with way := [], has := false, pos := p } := by rw [repD, if_neg hno, if_pos hy]
        conv => whnf
        refine ⟨_, _, b1, Nat.le_of_ble_eq_true rfl, ?_⟩
        conv => whnf
        obtain ⟨s4, m4, b4, w4⟩ := s3.set b1 (v' := { v with way := [] }) (pw' := none) ⟨rfl, .inl rfl⟩
        refine ⟨_, _, b4, Nat.le_of_ble_eq_true rfl, ?_⟩
        conv => whnf
        obtain ⟨s5, m5, b5, w5⟩ := s4.set b4 (v' := { v with way := [], has := false }) (pw' := none) w4
        refine ⟨_, _, b5, Nat.le_of_ble_eq_true rfl, ?_⟩
        conv => whnf
        obtain ⟨s6, m6, b6, w6⟩ := s5.set b5 (v' := { v with way := [], has := false, pos := p }) (pw' := none) w5
        have mm := (m4.trans' m5 (S2 := one di) (fun _ _ k => k) (fun _ _ k => k)).trans' m6 (S2 := one di) (fun _ _ k => k) (fun _ _ k => k)
        exact .inr (.inr ⟨el, e1, q3, po3, _, _, by rw [he], rw3.get mm, s6, hp3, m3.trans' mm (fun _ _ k => .inr k) (fun _ _ k => .inl k), .inr ⟨he, rfl, ed.symm⟩⟩)
      · have hy : ¬ p ≠ v.pos := by simpa using hy
        have ed : repD v p = { v with pos := p } := by rw [repD, if_neg hno, if_neg hy]
        conv => whnf
        refine ⟨_, _, b1, Nat.le_of_ble_eq_true rfl, ?_⟩
        conv => whnf
        obtain ⟨s6, m6, b6, w6⟩ := s3.set b1 (v' := { v with pos := p }) (pw' := pw) b2
        exact .inr (.inr ⟨el, e1, q3, po3, _, _, by rw [he], rw3.get m6, s6, hp3, m3.trans' m6 (fun _ _ k => .inr k) (fun _ _ k => .inl k), .inr ⟨he, rfl, ed.symm⟩⟩)
    rw [decide_eq_true (show ((v.way.length : Int) > 0) by omega)]
    conv => whnf
    refine ⟨_, Cell.mk b1 rfl, ?_⟩
    obtain ⟨i1, c1, f1, f2⟩ := slo_get b2.is (show 0 < v.way.length by omega)
    conv => whnf
    refine ⟨i1, c1, 0, f1, rfl, by omega, ?_⟩
    conv => whnf
    refine ⟨_, f2, ?_⟩
    conv => whnf
    have hh : v.way.head? = some (v.way.getD 0 0) := by
      cases hq : v.way with
      | nil => rw [hq] at hw; exact absurd rfl hw
      | cons a l => rfl
    refine br_mk (fun hx => ?_) (fun hx => ?_)
    rotate_left
    · conv => whnf
      have hx : ¬ v.way.getD 0 0 = p := by simpa using hx
      have hno : ¬ (v.has = true ∧ v.way.head? = some p) := fun q => hx (by rw [hh] at q; exact Option.some.inj q.2)
      refine ⟨_, Cell.mk b1 rfl, ?_⟩
      conv => whnf
      refine br_mk (fun hy => ?_) (fun hy => ?_)
      · have hy : p ≠ v.pos := by simpa using hy
        have ed : repD v p = { v with way := [], has := false, pos := p } := by rw [repD, if_neg hno, if_pos hy]
        conv => whnf
        refine ⟨_, _, b1, Nat.le_of_ble_eq_true rfl, ?_⟩
        conv => whnf
        obtain ⟨s4, m4, b4, w4⟩ := s3.set b1 (v' := { v with way := [] }) (pw' := none) ⟨rfl, .inl rfl⟩
        refine ⟨_, _, b4, Nat.le_of_ble_eq_true rfl, ?_⟩
        conv => whnf
        obtain ⟨s5, m5, b5, w5⟩ := s4.set b4 (v' := { v with way := [], has := false }) (pw' := none) w4
        refine ⟨_, _, b5, Nat.le_of_ble_eq_true rfl, ?_⟩
        conv => whnf
        obtain ⟨s6, m6, b6, w6⟩ := s5.set b5 (v' := { v with way := [], has := false, pos := p }) (pw' := none) w5
        have mm := (m4.trans' m5 (S2 := one di) (fun _ _ k => k) (fun _ _ k => k)).trans' m6 (S2 := one di) (fun _ _ k => k) (fun _ _ k => k)
        exact .inr (.inr ⟨el, e1, q3, po3, _, _, by rw [he], rw3.get mm, s6, hp3, m3.trans' mm (fun _ _ k => .inr k) (fun _ _ k => .inl k), .inr ⟨he, rfl, ed.symm⟩⟩)
      · have hy : ¬ p ≠ v.pos := by simpa using hy
        have ed : repD v p = { v with pos := p } := by rw [repD, if_neg hno, if_neg hy]
        conv => whnf
        refine ⟨_, _, b1, Nat.le_of_ble_eq_true rfl, ?_⟩
        conv => whnf
        obtain ⟨s6, m6, b6, w6⟩ := s3.set b1 (v' := { v with pos := p }) (pw' := pw) b2
        exact .inr (.inr ⟨el, e1, q3, po3, _, _, by rw [he], rw3.get m6, s6, hp3, m3.trans' m6 (fun _ _ k => .inr k) (fun _ _ k => .inl k), .inr ⟨he, rfl, ed.symm⟩⟩)
    · conv => whnf
      have hx : v.way.getD 0 0 = p := by simpa using hx
      have ed : repD v p = { v with way := v.way.tail, pos := p } := by rw [repD, if_pos ⟨eh, by rw [hh, hx]⟩]
      refine ⟨_, Cell.mk b1 rfl, ?_⟩
      conv => whnf
      refine ⟨⟨_, b2.is⟩, 1, rfl, by omega, Nat.le_refl _, ?_⟩
      conv => whnf
      have wt : RoSl h3 (slp pw (1 * 1)) v.way.tail.length 1 (ints .i64 v.way.tail) := by
        have := b2.cut (show 1 ≤ v.way.length by omega) (Nat.le_refl _)
        have e : ((ints .i64 v.way).drop (1 * 1)).take ((v.way.length - 1) * 1) = ints .i64 v.way.tail := by
          rw [ints_drop, List.take_of_length_le (by rw [ints_length, List.length_drop]; omega)]
          simp
        rw [e] at this
        rw [List.length_tail]
        exact this
      rw [show v.way.length - 1 = v.way.tail.length from List.length_tail.symm]
      refine ⟨_, _, b1, Nat.le_of_ble_eq_true rfl, ?_⟩
      conv => whnf
      obtain ⟨s4, m4, b4, w4⟩ := s3.set b1 (v' := { v with way := v.way.tail }) (pw' := slp pw (1 * 1)) wt
      refine ⟨_, _, b4, Nat.le_of_ble_eq_true rfl, ?_⟩
      conv => whnf
      obtain ⟨s5, m5, b5, w5⟩ := s4.set b4 (v' := { v with way := v.way.tail, pos := p }) (pw' := slp pw (1 * 1)) w4
      have mm := m4.trans' m5 (S2 := one di) (fun _ _ k => k) (fun _ _ k => k)
      exact .inr (.inr ⟨el, e1, q3, po3, _, _, by rw [he], rw3.get mm, s5, hp3, m3.trans' mm (fun _ _ k => .inr k) (fun _ _ k => .inl k), .inr ⟨he, rfl, ed.symm⟩⟩)
end Go.Proofs.Ytmififfaljihgaa
/-! The driver: Way. -/
namespace Go.Proofs.Ytmififfaljihgaa
open Go Go.Ab
def CloneQ (xs : List Int) (h : H) (r : V) (h' : H) : Prop := ∃ q, r = .sl q xs.length ∧ RoSl h' q xs.length 1 (ints .i64 xs) ∧ Ab.Mod none_ h h'
theorem clone42 {h : H} {p : Option (Nat × Nat)} {xs : List Int} (o : SlIs h p xs.length false 1 (ints .i64 xs)) (hn : xs.length ≤ 1000000) : ACalls Try.prog 42 [.sl p xs.length] h (CloneQ xs h) := by
  refine ACalls.ro (Q := fun r h' => ∃ q, r = .sl q xs.length ∧ NewSl h h' q xs.length 1 (ints .i64 xs) ∧ Ab.Mod none_ h h') ?_ (by
    rintro r h' ⟨q, rfl, nq, m⟩
    obtain ⟨i, a1, a2, a3⟩ := nq.freeze m
    exact ⟨i, q, rfl, a2, a3⟩)
  refine call_ Try.func42 rfl rfl (by kernel_rfl) ?_
  conv => whnf
  refine br_mk (fun hb => ?_) (fun hb => ?_)
  · conv => whnf
    cases p with
    | some x => simp at hb
    | none =>
      rcases o.2 with ⟨h0, _⟩ | ⟨i, j, b, r, e, _⟩
      · cases xs with
        | nil => exact ⟨none, rfl, NewSl.nil _ _ _, mod_refl _ _⟩
        | cons x xs => simp at h0
      · cases e
  conv => whnf
  obtain ⟨y1, y2, y3⟩ := app0 (h0 := h) o
  refine ⟨_, _, y1, y2, by rw [show (T.at_ 3).bytes = 8 from rfl]; omega, by omega, fun pA hA hs hm hf => ?_⟩
  obtain ⟨nA, mA⟩ := y3 pA hA hs hm hf
  conv => whnf
  exact ⟨pA, by rw [Nat.zero_add], nA, mA⟩
def wayOf (v : DV) : List Int := if v.has then v.way else []
def WayQ (v : DV) (h : H) (r : V) (h' : H) : Prop := ∃ q, r = .tup [.sl q (wayOf v).length, .bool v.has] ∧ RoSl h' q (wayOf v).length 1 (ints .i64 (wayOf v)) ∧ Ab.Mod none_ h h'
theorem dWay {h : H} {di : Nat} {v : DV} (s : DrB h di v) (hn : v.way.length ≤ 1000000) : ACalls Try.prog 21 [.ptr (some (di, 0))] h (WayQ v h) := by
  obtain ⟨ch, pw, b, w⟩ := s
  refine call_ Try.func21 rfl rfl (by kernel_rfl) ?_
  conv => whnf
  refine ⟨_, Cell.mk b rfl, ?_⟩
  cases eh : v.has with
  | false =>
    have ew : wayOf v = [] := by rw [wayOf, eh]; rfl
    conv => whnf
    exact ⟨none, by rw [ew, eh]; rfl, by rw [ew]; exact ⟨rfl, .inl rfl⟩, mod_refl _ _⟩
  | true =>
    have ew : wayOf v = v.way := by rw [wayOf, eh]; rfl
    conv => whnf
    refine ⟨_, Cell.mk b rfl, ?_⟩
    conv => whnf
    refine (clone42 w.is hn).mono ?_
    rintro _ h1 ⟨q, rfl, o, m⟩
    conv => whnf
    exact ⟨q, by rw [ew, eh], by rw [ew]; exact o, m⟩
end Go.Proofs.Ytmififfaljihgaa
/-! The driver: hears. -/
namespace Go.Proofs.Ytmififfaljihgaa
open Go Go.Ab
def hearD (v : DV) (m : Msg) : DV := if m.k = 5 then { v with way := m.es, has := true } else if m.k = 6 then { v with way := [], has := false } else v
theorem dHears {h : H} {di : Nat} {d : CId} {po : Option (Nat × Nat)} {v : DV} {cv : CV} (s : DrS h di d po v cv) (m : Msg) (ok : m.ok h) : ACalls Try.prog 40 [.ptr (some (di, 0)), .agg m.cells] h (fun r h' => DrS h' di d po (hearD v m) cv ∧ Ab.Mod (one di) h h') := by
  refine call_ Try.func40 rfl rfl (by kernel_rfl) ?_
  conv => whnf
  have mb := Mod.push none_ h (.row true 9 m.cells)
  have gb : (h.push (.row true 9 m.cells)).obj h.next = some (.row true 9 m.cells) := H.obj_push_new _ _
  have s1 := s.old mb
  have ok1 := ok.old mb (fun _ _ k => k)
  refine ⟨_, Cell.mk gb rfl, ?_⟩
  conv => whnf
  refine br_mk (fun h5 => ?_) (fun h5 => ?_)
  · have h5 : m.k = 5 := by simpa using h5
    have ed : hearD v m = { v with way := m.es, has := true } := if_pos h5
    conv => whnf
    refine ⟨_, Cell.mk gb rfl, ?_⟩
    conv => whnf
    refine (clone42 ok1.1 (by have := ok.2.2.2; omega)).mono ?_
    rintro _ h2 ⟨q, rfl, o, m2⟩
    have s2 := s1.old m2
    obtain ⟨pw, b2, w2⟩ := s2.box
    conv => whnf
    refine ⟨_, _, b2, Nat.le_of_ble_eq_true rfl, ?_⟩
    conv => whnf
    obtain ⟨s4, m4, b4, w4⟩ := s2.set b2 (v' := { v with way := m.es }) (pw' := q) o
    refine ⟨_, _, b4, Nat.le_of_ble_eq_true rfl, ?_⟩
    conv => whnf
    obtain ⟨s5, m5, b5, w5⟩ := s4.set b4 (v' := { v with way := m.es, has := true }) (pw' := q) w4
    rw [ed]
    exact ⟨s5, (mod_none mb m2).trans' (m4.trans' m5 (S2 := one di) (fun _ _ k => k) (fun _ _ k => k)) (fun _ _ k => k.elim) (fun _ _ k => k)⟩
  have h5 : ¬ m.k = 5 := by simpa using h5
  obtain ⟨pw, b2, w2⟩ := s1.box
  conv => whnf
  refine br_mk (fun h6 => ?_) (fun h6 => ?_)
  · have h6 : m.k = 6 := by simpa using h6
    have ed : hearD v m = { v with way := [], has := false } := by rw [hearD, if_neg h5, if_pos h6]
    conv => whnf
    refine ⟨_, _, b2, Nat.le_of_ble_eq_true rfl, ?_⟩
    conv => whnf
    obtain ⟨s4, m4, b4, w4⟩ := s1.set b2 (v' := { v with way := [] }) (pw' := none) ⟨rfl, .inl rfl⟩
    refine ⟨_, _, b4, Nat.le_of_ble_eq_true rfl, ?_⟩
    conv => whnf
    obtain ⟨s5, m5, b5, w5⟩ := s4.set b4 (v' := { v with way := [], has := false }) (pw' := none) w4
    rw [ed]
    exact ⟨s5, mb.trans' (m4.trans' m5 (S2 := one di) (fun _ _ k => k) (fun _ _ k => k)) (fun _ _ k => k.elim) (fun _ _ k => k)⟩
  · have h6 : ¬ m.k = 6 := by simpa using h6
    have ed : hearD v m = v := by rw [hearD, if_neg h5, if_neg h6]
    conv => whnf
    rw [ed]
    exact ⟨s1, mb.mono (fun _ _ k => k.elim)⟩
end Go.Proofs.Ytmififfaljihgaa
/-! The driver: Follow. -/
namespace Go.Proofs.Ytmififfaljihgaa
open Go Go.Ab
theorem repM_len (p : Int) : (encB (repM p)).length ≤ 100000 := by
  rw [encB]
  split
  · have e : bytesP (parts (repM p)) = be 2 1 ++ (be p 2 ++ []) := rfl
    rw [e]
    simp [be_length]
  · exact Nat.zero_le _
def FollowQ (h : H) (di : Nat) (d : CId) (po : Option (Nat × Nat)) (v : DV) (cv : CV) (now : Int) (r : V) (h' : H) : Prop :=
  ((v.live = false ∨ v.way = []) ∧ r = .tup [.sl none 0, i64 4] ∧ h' = h) ∨
  (v.live = true ∧ ∃ p l, v.way = p :: l ∧ ReportQ h di d po v (pushV cv now (encB (repM p))) p r h')
theorem dFollow {h : H} {di : Nat} {d : CId} {po : Option (Nat × Nat)} {v : DV} {cv : CV} (s : DrS h di d po v cv) (g : CG cv) (hN : cv.cnt ≤ 1000000) {now : Int} (hn0 : -1000000000 ≤ now) (hn1 : now ≤ 1000000000) (hf : ∀ b : List Int, (pushV cv now b).1.1.length ≤ 100000) :
    ACalls Try.prog 23 [.ptr (some (di, 0)), i64 now] h (FollowQ h di d po v cv now) := by
  refine call_ Try.func23 rfl rfl (by kernel_rfl) ?_
  conv => whnf
  refine (dLive s.b).mono ?_
  rintro _ h1 ⟨eh, rfl⟩
  subst eh
  cases el : v.live with
  | false =>
    conv => whnf
    exact .inl ⟨.inl el, rfl, rfl⟩
  | true =>
  obtain ⟨pw, b1, b2⟩ := s.box
  conv => whnf
  refine ⟨_, Cell.mk b1 rfl, ?_⟩
  conv => whnf
  cases ew : v.way with
  | nil =>
    conv => whnf
    exact .inl ⟨.inr ew, rfl, rfl⟩
  | cons p l =>
    obtain ⟨i1, c1, f1, f2⟩ := slo_get b2.is (show 0 < v.way.length by rw [ew]; exact Nat.zero_lt_succ _)
    have e0 : v.way.getD 0 0 = p := by rw [ew]; rfl
    rw [e0] at f2
    rw [show ((((p :: l).length : Nat) : Int) == 0) = false from by simp; omega]
    conv => whnf
    refine ⟨_, Cell.mk b1 rfl, ?_⟩
    conv => whnf
    refine ⟨i1, c1, 0, f1, rfl, by rw [ew]; exact Nat.zero_lt_succ _, ?_⟩
    conv => whnf
    refine ⟨_, f2, ?_⟩
    conv => whnf
    refine (dReport s g hN hn0 hn1 p (repM_len p) hf).mono ?_
    rintro r h2 q
    have q0 := q
    rcases q with ⟨q, _⟩ | ⟨_, _, rfl, _⟩ | ⟨_, _, qq, po', out, v', rfl, _⟩
    · rw [el] at q
      cases q
    · conv => whnf
      refine ⟨_, rfl, ?_⟩
      conv => whnf
      refine ⟨_, rfl, ?_⟩
      conv => whnf
      exact .inr ⟨el, p, l, ew, q0⟩
    · conv => whnf
      refine ⟨_, rfl, ?_⟩
      conv => whnf
      refine ⟨_, rfl, ?_⟩
      conv => whnf
      exact .inr ⟨el, p, l, ew, q0⟩
end Go.Proofs.Ytmififfaljihgaa
/-! A message, and a datagram, that bytes are: at most one. -/
namespace Go.Proofs.Ytmififfaljihgaa
open Go Go.Ab
theorem be_inj {k : Nat} (h1 : 1 ≤ k) (h7 : k ≤ 7) {x y : Int} (hx : 0 ≤ x ∧ x < 2 ^ (8 * k)) (hy : 0 ≤ y ∧ y < 2 ^ (8 * k)) {r s : List Int} (e : be x k ++ r = be y k ++ s) : x = y ∧ r = s := by
  obtain ⟨_, a2, a3⟩ := read_num h1 h7 hx.1 hx.2 r
  obtain ⟨_, b2, b3⟩ := read_num h1 h7 hy.1 hy.2 s
  rw [e] at a2 a3
  exact ⟨a3.symm.trans b3, a2.symm.trans b2⟩
theorem bytesP_inj : ∀ (ps qs : List (Nat × Int)) (r s : List Int), (∀ p ∈ ps, 1 ≤ p.1 ∧ p.1 ≤ 7) → ps.map Prod.fst = qs.map Prod.fst → fitP ps = true → fitP qs = true → bytesP ps ++ r = bytesP qs ++ s → ps = qs ∧ r = s
  | [], [], r, s, _, _, _, _, e => ⟨rfl, e⟩
  | [], q :: qs, r, s, _, e, _, _, _ => by cases e
  | p :: ps, [], r, s, _, e, _, _, _ => by cases e
  | p :: ps, q :: qs, r, s, hk, e, f1, f2, eb => by
    simp only [fitP, List.all_cons, Bool.and_eq_true, decide_eq_true_eq] at f1 f2
    rw [List.map_cons, List.map_cons] at e
    injection e with e1 e2
    have hp := hk p (by simp)
    obtain ⟨pk, pv⟩ := p
    obtain ⟨qk, qv⟩ := q
    have e1 : pk = qk := e1
    subst e1
    have eb : be pv pk ++ (bytesP ps ++ r) = be qv pk ++ (bytesP qs ++ s) := by
      rw [← List.append_assoc, ← List.append_assoc]
      exact eb
    obtain ⟨g1, g2⟩ := be_inj hp.1 hp.2 f1.1 f2.1 eb
    have g1 : pv = qv := g1
    obtain ⟨g3, g4⟩ := bytesP_inj ps qs r s (fun x hx => hk x (by simp [hx])) e2 f1.2 f2.2 g2
    exact ⟨by rw [g1, g3], g4⟩
theorem enc_uniq {b : List Int} {m n : Msg} (a : Enc b m) (c : Enc b n) : eqM m n := by
  have am := a.ok
  have cm := c.ok
  rw [encOk, Bool.and_eq_true] at am cm
  have hk : m.k = n.k ∧ bytesP (tailP m) = bytesP (tailP n) := by
    have f1 := am.2
    have f2 := cm.2
    simp only [fitP, parts, List.all_cons, Bool.and_eq_true, decide_eq_true_eq] at f1 f2
    exact be_inj (k := 1) (by decide) (by decide) f1.1 f2.1 (a.is.trans c.is.symm)
  have t1 : fitP (tailP m) = true := by
    have f1 := am.2
    simp only [fitP, parts, List.all_cons, Bool.and_eq_true, decide_eq_true_eq] at f1
    exact f1.2
  have t2 : fitP (tailP n) = true := by
    have f1 := cm.2
    simp only [fitP, parts, List.all_cons, Bool.and_eq_true, decide_eq_true_eq] at f1
    exact f1.2
  obtain ⟨hk, hb⟩ := hk
  have ca := a.can
  have cb := c.can
  have key : (tailP m).map Prod.fst = (tailP n).map Prod.fst → (∀ p ∈ tailP m, 1 ≤ p.1 ∧ p.1 ≤ 7) → tailP m = tailP n := fun e e2 => (bytesP_inj _ _ [] [] e2 e t1 t2 (by rw [hb])).1
  by_cases h1 : m.k = 1
  · have h1' : n.k = 1 := hk ▸ h1
    rw [tailP_1 h1, tailP_1 h1'] at key
    have e := key rfl (by simp)
    simp only [List.cons.injEq, Prod.mk.injEq, true_and, and_true] at e
    exact eqM.mk hk.symm e.1.symm e.2.symm (by rw [(ca.r (by omega)).1, (cb.r (by omega)).1]) (by rw [(ca.r (by omega)).2, (cb.r (by omega)).2]) (by rw [(ca.n (by omega)).1, (cb.n (by omega)).1]) (by rw [(ca.n (by omega)).2.1, (cb.n (by omega)).2.1]) (by rw [(ca.n (by omega)).2.2.1, (cb.n (by omega)).2.2.1]) (by rw [(ca.n (by omega)).2.2.2, (cb.n (by omega)).2.2.2])
  have h1' : ¬ n.k = 1 := hk ▸ h1
  have ed : n.d = m.d := by rw [ca.d h1, cb.d h1']
  by_cases h7 : m.k = 7
  · have h7' : n.k = 7 := hk ▸ h7
    rw [tailP_7 h7] at t1
    rw [tailP_7 h7'] at t2
    rw [tailP_7 h7, tailP_7 h7'] at key
    have e := key rfl (by simp)
    simp only [List.cons.injEq, Prod.mk.injEq, true_and, and_true] at e
    obtain ⟨e1, e2, e3, e4⟩ := e
    simp only [fitP, List.all_cons, Bool.and_eq_true, decide_eq_true_eq] at t1 t2
    have lim : ∀ z : Int, -9223372036854775808 ≤ z → z ≤ 9223372036854775807 → 0 ≤ IntKind.i64.wrap (z + 1) → IntKind.i64.wrap (z + 1) = z + 1 := fun z z1 z2 z3 => by
      by_cases hx : z = 9223372036854775807
      · rw [hx] at z3
        have : IntKind.i64.wrap (9223372036854775807 + 1) = -9223372036854775808 := rfl
        omega
      · exact wrap_i64 (by omega) (by omega)
    have e2 : n.e = m.e := by
      have w1 := lim m.e a.e1 a.e2 t1.2.1.1
      have w2 := lim n.e c.e1 c.e2 t2.2.1.1
      omega
    exact eqM.mk hk.symm (by rw [ca.p h1 (by omega) (by omega), cb.p h1' (by omega) (by omega)]) ed (by rw [(ca.r (by omega)).1, (cb.r (by omega)).1]) (by rw [(ca.r (by omega)).2, (cb.r (by omega)).2]) e1.symm e2 e3.symm e4.symm
  have h7' : ¬ n.k = 7 := hk ▸ h7
  obtain ⟨n1, n2, n3, n4⟩ := ca.n h7
  obtain ⟨m1, m2, m3, m4⟩ := cb.n h7'
  by_cases h5 : m.k = 5
  · have h5' : n.k = 5 := hk ▸ h5
    rw [tailP_5 h5] at t1 hb
    rw [tailP_5 h5'] at t2 hb
    have t1' := t1
    have t2' := t2
    simp only [fitP, List.all_cons, Bool.and_eq_true, decide_eq_true_eq] at t1' t2'
    have hb : be m.w 5 ++ (be (m.es.length : Int) 2 ++ bytesP (m.es.map fun v => (2, v))) = be n.w 5 ++ (be (n.es.length : Int) 2 ++ bytesP (n.es.map fun v => (2, v))) := hb
    obtain ⟨g1, g2⟩ := be_inj (k := 5) (by decide) (by decide) t1'.1 t2'.1 hb
    obtain ⟨g3, g4⟩ := be_inj (k := 2) (by decide) (by decide) t1'.2.1 t2'.2.1 g2
    have g3 : m.es.length = n.es.length := by omega
    have ee := (bytesP_inj (m.es.map fun v => (2, v)) (n.es.map fun v => (2, v)) [] [] (fun p hp => by
      obtain ⟨v, _, rfl⟩ := List.mem_map.1 hp
      exact ⟨(by decide : (1 : Nat) ≤ 2), (by decide : (2 : Nat) ≤ 7)⟩) (by
      rw [List.map_map, List.map_map]
      show m.es.map (fun _ => 2) = n.es.map (fun _ => 2)
      rw [List.map_const', List.map_const', g3]) t1'.2.2 t2'.2.2 (by rw [g4])).1
    have es : m.es = n.es := by
      have := congrArg (List.map Prod.snd) ee
      rw [List.map_map, List.map_map] at this
      simpa [Function.comp_def] using this
    exact eqM.mk hk.symm (by rw [ca.p h1 (by omega) (by omega), cb.p h1' (by omega) (by omega)]) ed es.symm g1.symm (by rw [n1, m1]) (by rw [n2, m2]) (by rw [n3, m3]) (by rw [n4, m4])
  have h5' : ¬ n.k = 5 := hk ▸ h5
  obtain ⟨r1, r2⟩ := ca.r h5
  obtain ⟨s1, s2⟩ := cb.r h5'
  refine eqM.mk hk.symm ?_ ed (by rw [r1, s1]) (by rw [r2, s2]) (by rw [n1, m1]) (by rw [n2, m2]) (by rw [n3, m3]) (by rw [n4, m4])
  by_cases h2 : m.k = 2 ∨ m.k = 9
  · have h2' : n.k = 2 ∨ n.k = 9 := hk ▸ h2
    rw [tailP_2 h2, tailP_2 h2'] at key
    have e := key rfl (by simp)
    simp only [List.cons.injEq, Prod.mk.injEq, true_and, and_true] at e
    exact e.symm
  · rw [ca.p h1 (by omega) (by omega), cb.p h1' (by omega) (by omega)]
theorem encG_uniq {body : List Int} {kd : Int} {m n : Grm} (a : EncG body kd m) (c : EncG body kd n) : eqG m n := by
  have hk : m.k = n.k := a.k.trans c.k.symm
  have hK : 1 ≤ m.k ∧ m.k ≤ 3 := by simpa [gknd] using a.kn
  have f1 := a.fit
  have f2 := c.fit
  have hb : bytesP (gparts m) ++ gbody m = bytesP (gparts n) ++ gbody n := a.is.trans c.is.symm
  have key : (gparts m).map Prod.fst = (gparts n).map Prod.fst → (∀ p ∈ gparts m, 1 ≤ p.1 ∧ p.1 ≤ 7) → gparts m = gparts n ∧ gbody m = gbody n := fun e e2 => bytesP_inj _ _ _ _ e2 e f1 f2 hb
  have a3 := a.c3
  have c3 := c.c3
  have a1 := a.c1
  have c1 := c.c1
  have a2 := a.c2
  have c2 := c.c2
  by_cases h1 : m.k = 1
  · have h1' : n.k = 1 := hk ▸ h1
    rw [gparts, gparts, gtail_1 h1, gtail_1 h1', gbody_1 h1, gbody_1 h1'] at key
    obtain ⟨e, eb⟩ := key rfl (by simp)
    simp only [List.cons.injEq, Prod.mk.injEq, true_and, and_true] at e
    exact eqG.mk e.1.symm hk.symm e.2.1.symm e.2.2.symm (by rw [a3 (by omega), c3 (by omega)]) eb.symm
  have h1' : ¬ n.k = 1 := hk ▸ h1
  obtain ⟨a1, a1'⟩ := a1 h1
  obtain ⟨c1, c1'⟩ := c1 h1'
  by_cases h2 : m.k = 2
  · have h2' : n.k = 2 := hk ▸ h2
    rw [gparts, gparts, gtail_2 h2, gtail_2 h2'] at key
    obtain ⟨e, eb⟩ := key rfl (by simp)
    simp only [List.cons.injEq, Prod.mk.injEq, true_and, and_true] at e
    exact eqG.mk e.1.symm hk.symm (by rw [a1, c1]) e.2.symm (by rw [a3 (by omega), c3 (by omega)]) (by rw [a1', c1'])
  have h3 : m.k = 3 := by omega
  have h3' : n.k = 3 := hk ▸ h3
  rw [gparts, gparts, gtail_3 h3, gtail_3 h3'] at key
  obtain ⟨e, eb⟩ := key rfl (by simp)
  simp only [List.cons.injEq, Prod.mk.injEq, true_and, and_true] at e
  exact eqG.mk e.1.symm hk.symm (by rw [a1, c1]) (by rw [a2 h3, c2 h3']) e.2.symm (by rw [a1', c1'])
def Msg.bare (m : Msg) : Msg := { m with ep := none }
theorem eqM.bare {m n : Msg} (e : eqM m n) : n.bare = m.bare := by
  rw [e]
  rfl
open Classical in
/-- the message that bytes are -/
noncomputable def mOf (b : List Int) : Option Msg := if h : ∃ m, Enc b m then some (Classical.choose h).bare else none
theorem mOf_enc {b : List Int} {m : Msg} (e : Enc b m) : mOf b = some m.bare := by
  have ex : ∃ m, Enc b m := ⟨m, e⟩
  rw [mOf, dif_pos ex, (enc_uniq e (Classical.choose_spec ex)).bare]
theorem mOf_no {b : List Int} (d : ∀ m, ¬ Enc b m) : mOf b = none := by
  rw [mOf, dif_neg]
  rintro ⟨m, hm⟩
  exact d m hm
theorem mOf_some {b : List Int} {n : Msg} (e : mOf b = some n) : ∃ m, Enc b m ∧ n = m.bare := by
  by_cases ex : ∃ m, Enc b m
  · obtain ⟨m, hm⟩ := ex
    rw [mOf_enc hm] at e
    injection e with e
    exact ⟨m, hm, e.symm⟩
  · rw [mOf_no (fun m hm => ex ⟨m, hm⟩)] at e
    cases e
def ofG (m : Grm) : GV := ⟨m.cn, m.k, m.sq, m.ak, m.cd, m.bd⟩
theorem eqG.ofG {m n : Grm} (e : eqG m n) : ofG n = ofG m := by
  rw [e]
  rfl
open Classical in
/-- the datagram that bytes are -/
noncomputable def gOf (b : List Int) : Option GV := if h : (unV b).2.2 = 0 ∧ ∃ m, EncG (unV b).2.1 (unV b).1 m then some (ofG (Classical.choose h.2)) else none
theorem gOf_enc {b : List Int} {m : Grm} (u : (unV b).2.2 = 0) (e : EncG (unV b).2.1 (unV b).1 m) : gOf b = some (ofG m) := by
  have ex : (unV b).2.2 = 0 ∧ ∃ m, EncG (unV b).2.1 (unV b).1 m := ⟨u, m, e⟩
  rw [gOf, dif_pos ex, (encG_uniq e (Classical.choose_spec ex.2)).ofG]
theorem unV_e (b : List Int) : (unV b).2.2 = 0 ∨ (unV b).2.2 = 2 ∨ (unV b).2.2 = 3 := by
  unfold unV
  split
  · exact .inr (.inl rfl)
  · split
    · exact .inr (.inr rfl)
    · split
      · exact .inr (.inl rfl)
      · exact .inl rfl
/-- what a reading tells -/
theorem GDec.of {b : List Int} {m1 : Grm} {e : Int} (d : GDec b m1 e) : (e = 0 ∧ gOf b = some (ofG m1) ∧ EncG (unV b).2.1 (unV b).1 m1) ∨ ((e = 2 ∨ e = 3) ∧ gOf b = none) := by
  rcases d with ⟨d0, rfl, _⟩ | ⟨d0, ⟨rfl, d1, _⟩ | ⟨rfl, _, d1⟩⟩
  · refine .inr ⟨(unV_e b).resolve_left d0, ?_⟩
    rw [gOf, dif_neg]
    exact fun k => d0 k.1
  · exact .inl ⟨rfl, gOf_enc d0 d1, d1⟩
  · refine .inr ⟨.inl rfl, ?_⟩
    rw [gOf, dif_neg]
    rintro ⟨_, m, hm⟩
    exact d1 m hm
theorem EncG.seq {body : List Int} {kd : Int} {m : Grm} (e : EncG body kd m) : inI m.sq := by
  by_cases h1 : m.k = 1
  · have f := e.fit
    rw [gparts, gtail_1 h1] at f
    simp only [fitP, List.all_cons, Bool.and_eq_true, decide_eq_true_eq] at f
    have f1 := f.2.1
    have : ((2 : Int) ^ (8 * 4)) = 4294967296 := rfl
    exact ⟨by show (-9223372036854775808 : Int) ≤ _; omega, by show _ ≤ (9223372036854775807 : Int); omega⟩
  · rw [(e.c1 h1).1]
    exact i64_in (by omega) (by omega)
/-- what is written is what it is -/
theorem gOf_encG {g : Grm} (o : gEncOk g = true) : gOf (encG g) = some (ofG (canonG g)) := by
  have u := un_encG o
  have e : EncG (unV (encG g)).2.1 (unV (encG g)).1 (canonG g) := by
    rw [u]
    exact canonG_enc o
  exact gOf_enc (by rw [u]) e
end Go.Proofs.Ytmififfaljihgaa
/-! The driver: Recv. -/
namespace Go.Proofs.Ytmififfaljihgaa
open Go Go.Ab
/-- messages in a row, as they lie -/
def Msgs (h : H) (lo : Nat) (q : Option (Nat × Nat)) (L : List Msg) : Prop := ∃ G : List Msg, RoSl h q L.length 9 (G.flatMap Msg.cells) ∧ (∀ m ∈ G, m.ok h ∧ ∀ i o, m.ep = some (i, o) → lo ≤ i) ∧ G.map Msg.bare = L
noncomputable def gotV (l : List (List Int)) : List Msg := l.filterMap mOf
def recvX (v : DV) (g : GV) : Bool := v.live && decide (g.conn = v.conn)
noncomputable def rcvO (v : DV) (cv : CV) (now : Int) : Option GV → List (List Int) × List Msg
  | none => ([], [])
  | some g => if recvX v g = true ∧ g.kind ≠ 3 then ((recvV cv now g).1.2.map encV, gotV (recvV cv now g).1.1) else ([], [])
noncomputable def rcvD (v : DV) (cv : CV) (now : Int) : Option GV → DV
  | none => v
  | some g => if recvX v g = true then (if g.kind = 3 then { v with live := false, why := g.code } else (gotV (recvV cv now g).1.1).foldl hearD v) else v
def rcvC (v : DV) (cv : CV) (now : Int) : Option GV → CV
  | none => cv
  | some g => if recvX v g = true ∧ g.kind ≠ 3 then (recvV cv now g).2 else cv
def DRecvQ (h : H) (di : Nat) (d : CId) (po : Option (Nat × Nat)) (v : DV) (cv : CV) (now : Int) (og : Option GV) (r : V) (h' : H) : Prop :=
  ∃ q1 q2 po', r = .tup [.sl q1 (rcvO v cv now og).1.length, .sl q2 (rcvO v cv now og).2.length] ∧ Rws h' q1 (rcvO v cv now og).1 ∧ Msgs h' h.next q2 (rcvO v cv now og).2 ∧ DrS h' di d po' (rcvD v cv now og) (rcvC v cv now og) ∧ (∀ i, inSl po' i → inSl po i ∨ h.next ≤ i) ∧ Ab.Mod (drAll di d po) h h'
theorem ins_all {β : Type} {P : β → Prop} {C : List (Int × β)} (s : ∀ x ∈ C, P x.2) {b : β} (hb : P b) (k : Int) : ∀ x ∈ insS C k b, P x.2 := fun x hx => by
  rw [insS, List.mem_append, List.mem_cons] at hx
  rcases hx with hx | rfl | hx
  · exact s x (List.mem_filter.1 hx).1
  · exact hb
  · exact s x (List.mem_filter.1 hx).1
theorem recv_ln {cv : CV} (s : ∀ x ∈ cv.C, x.2.length ≤ 100000) (now : Int) {g : GV} (hb : g.body.length ≤ 100000) : (∀ x ∈ (recvV cv now g).2.C, x.2.length ≤ 100000) ∧ ∀ b ∈ (recvV cv now g).1.1, b.length ≤ 100000 := by
  have key : (∀ b ∈ (tkV (recvS cv g).W cv.N cv.C g.seq g.body).2.1, b.length ≤ 100000) ∧ ∀ x ∈ (tkV (recvS cv g).W cv.N cv.C g.seq g.body).2.2.2, x.2.length ≤ 100000 := by
    unfold tkV
    split
    · exact chn_got (P := fun b : List Int => b.length ≤ 100000) _ _ (ins_all (P := fun b : List Int => b.length ≤ 100000) s hb g.seq)
    · exact ⟨fun b k => (by cases k), s⟩
  unfold recvV
  split
  · exact ⟨s, fun b k => (by cases k)⟩
  · constructor
    · show ∀ x ∈ (recvM cv g).C, x.2.length ≤ 100000
      unfold recvM
      split
      · exact key.2
      · exact s
    · show ∀ b ∈ (if g.kind = 1 then (tkV (recvS cv g).W cv.N cv.C g.seq g.body).2.1 else []), b.length ≤ 100000
      split
      · exact key.1
      · exact fun b k => (by cases k)
theorem recv_cg {cv : CV} (g : CG cv) (hN : cv.cnt ≤ 1000000) (now : Int) {gg : GV} (hg : GO gg) : CG (recvV cv now gg).2 := ⟨recv_cok g.ok now gg, (recv_ov g.ok g.ov (by omega) now hg).1, (recv_ln g.ln now hg.len).1⟩
theorem push_cg {cv : CV} (g : CG cv) (hN : cv.cnt ≤ 1000000) (now : Int) {b : List Int} (hb : Oct b) (hl : b.length ≤ 100000) : CG (pushV cv now b).2 := ⟨push_cok g.ok now hl, (push_ov g.ok g.ov (by omega) now hb hl).1, by
  unfold pushV
  split
  · exact g.ln
  · split
    · exact g.ln
    · exact g.ln⟩
theorem pass_cg {cv : CV} (g : CG cv) (hN : cv.cnt ≤ 1000000) (now : Int) : CG (passV cv now).2 := ⟨pass_cok g.ok now, (pass_ov g.ok g.ov (by omega) now).1, by
  unfold passV
  split
  · exact g.ln
  · exact g.ln⟩
theorem gotV_snoc {l : List (List Int)} {j : Nat} (hj : j < l.length) : gotV (l.take (j + 1)) = gotV (l.take j) ++ (mOf l[j]).toList := by
  rw [List.take_succ_eq_append_getElem hj, gotV, List.filterMap_append]
  congr 1
theorem Msg.ok.by {S : Nat → Prop} {h h' : H} {m : Msg} (o : m.ok h) (k : Ab.Mod S h h') (hS : ∀ i o, m.ep = some (i, o) → m.es = [] ∨ ¬ S i) : m.ok h' := by
  obtain ⟨⟨h1, h2⟩, h3⟩ := o
  refine ⟨⟨h1, ?_⟩, h3⟩
  rcases h2 with h2 | ⟨i, o, o', r, e1, e2, e3⟩
  · exact .inl h2
  · rcases hS i o e1 with q | q
    · exact .inl ⟨by rw [q]; rfl, .inr rfl⟩
    · exact .inr ⟨i, o, o', r, e1, k.get e2 (.inl q), e3⟩
theorem Msg.ok.lt {h : H} {m : Msg} (o : m.ok h) : ∀ i c, m.ep = some (i, c) → m.es = [] ∨ i < h.next := fun i c e => by
  rcases o.1.2 with ⟨r, _⟩ | ⟨i', c', b, cs, e1, e2, _⟩
  · exact .inl (List.length_eq_zero_iff.1 r)
  · rw [e] at e1
    injection e1 with e1
    injection e1 with e1
    subst e1
    exact .inr (h.lt _ _ e2)
theorem Msg.ok.ro {h : H} {m : Msg} (o : m.ok h) (i : Nat) : m.ok (h.ro i) := ⟨SlIs.ro_weak o.1 i, o.2⟩
theorem DrS.ro {h : H} {di : Nat} {d : CId} {po : Option (Nat × Nat)} {v : DV} {cv : CV} (s : DrS h di d po v cv) {i : Nat} (hi : ¬ drAll di d po i) : DrS (h.ro i) di d po v cv := by
  obtain ⟨⟨pw, h1, h2⟩, h3, h4⟩ := s
  exact ⟨⟨pw, by rw [H.ro_ne _ (fun k => hi (.inl k.symm)), h1], h2.ro i⟩, h3.ro (fun k => hi (.inr k)), h4⟩
theorem hearD_bare (v : DV) (m : Msg) : hearD v m.bare = hearD v m := rfl
set_option maxHeartbeats 2000000 in
theorem dRecv {h : H} {di : Nat} {d : CId} {po : Option (Nat × Nat)} {v : DV} {cv : CV} (s : DrS h di d po v cv) (g : CG cv) (hN : cv.cnt ≤ 1000000) (hNt : cv.N ≤ 1000000) {now : Int} (hn0 : -1000000000 ≤ now) (hn1 : now ≤ 1000000000) {p : Option (Nat × Nat)} {n : Nat} {b : List Int} (ob : SlIs h p n false 1 (ints .u8 b)) (bb : Bts b) (hn : n ≤ 800000) (hf : ∀ gg : GV, (recvV cv now gg).1.2.length ≤ 100000) :
    ACalls Try.prog 17 [.ptr (some (di, 0)), i64 now, .sl p n] h (DRecvQ h di d po v cv now (gOf b)) := by
  refine ACalls.ro (Q := fun r h' => ∃ (q1 q2 po' : Option (Nat × Nat)) (G : List Msg) (h3 : H), r = .tup [.sl q1 (rcvO v cv now (gOf b)).1.length, .sl q2 G.length] ∧ Rws h' q1 (rcvO v cv now (gOf b)).1 ∧ NewSl h3 h' q2 G.length 9 (G.flatMap Msg.cells) ∧ (∀ m ∈ G, m.ok h' ∧ ∀ i o, m.ep = some (i, o) → h.next ≤ i) ∧ G.map Msg.bare = (rcvO v cv now (gOf b)).2 ∧ DrS h' di d po' (rcvD v cv now (gOf b)) (rcvC v cv now (gOf b)) ∧ (∀ i, inSl po' i → inSl po i ∨ h.next ≤ i) ∧ (∀ i, drAll di d po' i → i < h3.next) ∧ h.next ≤ h3.next ∧ Ab.Mod (one di) h3 h' ∧ Ab.Mod (drAll di d po) h h') ?_ (by
    rintro r h' ⟨q1, q2, po', G, h3, rfl, rw1, ng, ho, hG, sd, hp, hlt, hh3, hm3, m⟩
    obtain ⟨i, a1, a2, a3⟩ := NewSl.freeze ng hm3
    have hGL : G.length = (rcvO v cv now (gOf b)).2.length := by rw [← hG, List.length_map]
    refine ⟨i, q1, q2, po', by rw [hGL], rw1.ro i, ⟨G, by rw [← hGL]; exact a2, fun m hm => ⟨(ho m hm).1.ro i, (ho m hm).2⟩, hG⟩, sd.ro (fun k => ?_), hp, m.ro_new (Nat.le_trans hh3 a1)⟩
    have := hlt i k
    omega)
  refine call_ Try.func17 rfl rfl (by kernel_rfl) ?_
  conv => whnf
  refine (gdec51 ob bb hn).mono ?_
  rintro _ h1 ⟨m1, e, rfl, ok1, mg, gd, rob⟩
  have s1 := s.old mg
  conv => whnf
  refine ⟨_, rfl, ?_⟩
  conv => whnf
  refine ⟨_, rfl, ?_⟩
  conv => whnf
  obtain ⟨g0, gx, mx⟩ := lay_row (h := h1) (sz := 6) [i64 0, i64 0, i64 0, i64 0, i64 0, .sl none 0] m1.cells
  refine ⟨_, _, g0, Nat.le_of_ble_eq_true rfl, ?_⟩
  conv => whnf
  refine ⟨[0, 1, 2, 3, 4, 5, 6, 7, 8, 9, 10, 11, 12, 13, 14, 15], [0, 1, 3, 7, 15, 31, 63, 127, 255, 511, 255, 1279, 3327, 7423, 16383, 32767], by kernel_rfl, ?_⟩
  rcases gd.of with ⟨rfl, eo, enc⟩ | ⟨he, eo⟩
  rotate_left
  · have sx := s1.old mx
    have nay : ∀ hh, DrS hh di d po v cv → Ab.Mod none_ h hh → ∃ (q1 q2 po' : Option (Nat × Nat)) (G : List Msg) (h3 : H), V.tup [.sl none 0, .sl none 0] = .tup [.sl q1 (rcvO v cv now (gOf b)).1.length, .sl q2 G.length] ∧ Rws hh q1 (rcvO v cv now (gOf b)).1 ∧ NewSl h3 hh q2 G.length 9 (G.flatMap Msg.cells) ∧ (∀ m ∈ G, m.ok hh ∧ ∀ i o, m.ep = some (i, o) → h.next ≤ i) ∧ G.map Msg.bare = (rcvO v cv now (gOf b)).2 ∧ DrS hh di d po' (rcvD v cv now (gOf b)) (rcvC v cv now (gOf b)) ∧ (∀ i, inSl po' i → inSl po i ∨ h.next ≤ i) ∧ (∀ i, drAll di d po' i → i < h3.next) ∧ h.next ≤ h3.next ∧ Ab.Mod (one di) h3 hh ∧ Ab.Mod (drAll di d po) h hh := fun hh sc m => by
      rw [eo]
      exact ⟨none, none, po, [], hh, rfl, rws_nil _, NewSl.nil _ _ _, (fun x hx => by cases hx), rfl, sc, fun _ k => .inl k, fun i hi => sc.lt hi, m.next, mod_refl _ _, m.mono (fun _ _ k => k.elim)⟩
    rcases he with rfl | rfl
    · conv => whnf
      exact nay _ sx (mod_none mg mx)
    · conv => whnf
      exact nay _ sx (mod_none mg mx)
  have sx := s1.old mx
  have mo := mod_none mg mx
  have gok : GO (ofG m1) := ⟨ok1.2.1, enc.seq, ok1.2.2⟩
  have nay : recvX v (ofG m1) = false → ∀ hh, DrS hh di d po v cv → Ab.Mod none_ h hh → ∃ (q1 q2 po' : Option (Nat × Nat)) (G : List Msg) (h3 : H), V.tup [.sl none 0, .sl none 0] = .tup [.sl q1 (rcvO v cv now (gOf b)).1.length, .sl q2 G.length] ∧ Rws hh q1 (rcvO v cv now (gOf b)).1 ∧ NewSl h3 hh q2 G.length 9 (G.flatMap Msg.cells) ∧ (∀ m ∈ G, m.ok hh ∧ ∀ i o, m.ep = some (i, o) → h.next ≤ i) ∧ G.map Msg.bare = (rcvO v cv now (gOf b)).2 ∧ DrS hh di d po' (rcvD v cv now (gOf b)) (rcvC v cv now (gOf b)) ∧ (∀ i, inSl po' i → inSl po i ∨ h.next ≤ i) ∧ (∀ i, drAll di d po' i → i < h3.next) ∧ h.next ≤ h3.next ∧ Ab.Mod (one di) h3 hh ∧ Ab.Mod (drAll di d po) h hh := fun hx hh sc m => by
    rw [eo]
    have e1 : rcvO v cv now (some (ofG m1)) = ([], []) := by rw [rcvO, hx]; rfl
    have e2 : rcvD v cv now (some (ofG m1)) = v := by rw [rcvD, hx]; rfl
    have e3 : rcvC v cv now (some (ofG m1)) = cv := by rw [rcvC, hx]; rfl
    rw [e1, e2, e3]
    exact ⟨none, none, po, [], hh, rfl, rws_nil _, NewSl.nil _ _ _, (fun x hx => by cases hx), rfl, sc, fun _ k => .inl k, fun i hi => sc.lt hi, m.next, mod_refl _ _, m.mono (fun _ _ k => k.elim)⟩
  conv => whnf
  refine (dLive sx.b).mono ?_
  rintro _ h2 ⟨eh, rfl⟩
  have eh : h2 = _ := eh
  rw [← eh] at sx mx gx mo
  clear eh
  cases el : v.live with
  | false =>
    conv => whnf
    exact nay (by rw [recvX, el]; rfl) _ sx mo
  | true =>
  obtain ⟨pw, b1, b2⟩ := sx.box
  conv => whnf
  refine ⟨_, Cell.mk gx rfl, ?_⟩
  conv => whnf
  refine ⟨_, Cell.mk b1 rfl, ?_⟩
  conv => whnf
  refine br_mk (fun hc => ?_) (fun hc => ?_)
  · have hc : ¬ m1.cn = v.conn := by simpa using hc
    conv => whnf
    exact nay (by rw [recvX, el, decide_eq_false (show ¬ (ofG m1).conn = v.conn from hc)]; rfl) _ sx mo
  have hc : m1.cn = v.conn := by simpa using hc
  have hX : recvX v (ofG m1) = true := by rw [recvX, el, decide_eq_true (show (ofG m1).conn = v.conn from hc)]; rfl
  conv => whnf
  refine ⟨_, Cell.mk gx rfl, ?_⟩
  conv => whnf
  refine br_mk (fun h3 => ?_) (fun h3 => ?_)
  · have h3 : m1.k = 3 := by simpa using h3
    have hk : (ofG m1).kind = 3 := h3
    have e1 : rcvO v cv now (some (ofG m1)) = ([], []) := by rw [rcvO, if_neg (fun k => k.2 hk)]
    have e2 : rcvD v cv now (some (ofG m1)) = { v with live := false, why := m1.cd } := by rw [rcvD, if_pos hX, if_pos hk]; rfl
    have e3 : rcvC v cv now (some (ofG m1)) = cv := by rw [rcvC, if_neg (fun k => k.2 hk)]
    conv => whnf
    refine ⟨[0, 1, 2, 3, 4, 5, 6, 7, 8, 9], [0, 0, 0, 4, 1, 17, 49, 127, 255, 511], by kernel_rfl, ?_⟩
    conv => whnf
    refine ⟨_, Cell.mk gx rfl, ?_⟩
    conv => whnf
    refine ⟨_, _, b1, Nat.le_of_ble_eq_true rfl, ?_⟩
    conv => whnf
    obtain ⟨s4, m4, b4, w4⟩ := sx.set (cs := drow v (.ptr (some (d.c, 0))) pw) b1 (v' := { v with live := false }) (pw' := pw) b2
    have hne : h1.next ≠ di := fun k => by
      have := (h.lt _ _ (s.box.choose_spec).1)
      have := mg.next
      omega
    refine ⟨⟨_, Cell.mk (m4.get gx (.inl hne)) rfl, rfl⟩, ?_⟩
    conv => whnf
    refine ⟨_, _, b4, Nat.le_of_ble_eq_true rfl, ?_⟩
    conv => whnf
    obtain ⟨s5, m5, b5, w5⟩ := s4.set (cs := drow { v with live := false } (.ptr (some (d.c, 0))) pw) b4 (v' := { v with live := false, why := m1.cd }) (pw' := pw) w4
    have m45 := m4.trans' m5 (S2 := one di) (fun _ _ k => k) (fun _ _ k => k)
    have mF := mo.trans' m45 (S2 := drAll di d po) (fun _ _ k => k.elim) (fun _ _ k => .inl k)
    rw [eo, e1, e2, e3]
    exact ⟨none, none, po, [], _, rfl, rws_nil _, NewSl.nil _ _ _, (fun x hx => by cases hx), rfl, s5, fun _ k => .inl k, fun i hi => s5.lt hi, mF.next, mod_refl _ _, mF⟩
  have h3 : ¬ m1.k = 3 := by simpa using h3
  have hk : (ofG m1).kind ≠ 3 := h3
  have e1 : rcvO v cv now (some (ofG m1)) = ((recvV cv now (ofG m1)).1.2.map encV, gotV (recvV cv now (ofG m1)).1.1) := by rw [rcvO, if_pos ⟨hX, hk⟩]
  have e2 : rcvD v cv now (some (ofG m1)) = (gotV (recvV cv now (ofG m1)).1.1).foldl hearD v := by rw [rcvD, if_pos hX, if_neg hk]
  have e3 : rcvC v cv now (some (ofG m1)) = (recvV cv now (ofG m1)).2 := by rw [rcvC, if_pos ⟨hX, hk⟩]
  rw [eo, e1, e2, e3]
  clear nay e1 e2 e3
  conv => whnf
  refine ⟨[0, 1, 2, 3, 4, 5, 6, 7, 8, 9, 10, 11], [0, 1, 3, 7, 0, 0, 63, 127, 255, 255, 511, 2047], by kernel_rfl, ?_⟩
  conv => whnf
  refine ⟨_, Cell.mk b1 rfl, ?_⟩
  conv => whnf
  refine ⟨m1.cells, Cells.mk gx (Nat.le_of_ble_eq_true rfl) rfl, ?_⟩
  conv => whnf
  have hcnt : cv.s.N + cv.O.length ≤ 1000000 := hN
  refine (cRecv sx.ch g.ok (by omega) hNt hn0 hn1 (g := ofG m1) (p := m1.bp) (fun h' m' => RoSl.is ((rob.get mx).get m')) gok.seq gok.len).mono ?_
  rintro _ h3 ⟨q3, qg, po3, rfl, rw3, gr, c3, hp3, m3⟩
  have pov := recv_ov g.ok g.ov (by omega) now gok
  have s3 : DrS h3 di d po3 v (recvV cv now (ofG m1)).2 := ⟨⟨pw, m3.get b1 (.inl sx.sep), b2.get m3⟩, c3, fun k => by
    rcases k with k | k
    · exact sx.sep (.inl k)
    · rcases hp3 di k with k | k
      · exact sx.sep (.inr k)
      · have := sx.lt (i := di) (.inl rfl)
        omega⟩
  have mo3 : Ab.Mod (drAll di d po) h h3 := mo.trans' m3 (S2 := drAll di d po) (fun _ _ k => k.elim) (fun _ _ k => .inr k)
  conv => whnf
  refine ⟨_, rfl, ?_⟩
  conv => whnf
  refine ⟨_, rfl, ?_⟩
  conv => whnf
  have bl := (recv_ln g.ln now gok.len).2
  have bo := pov.2.1
  have bn := pov.2.2.2.2.2.2
  obtain ⟨⟨⟨B, GL⟩, cv2⟩, eR⟩ : ∃ x, recvV cv now (ofG m1) = x := ⟨_, rfl⟩
  have hfR := hf (ofG m1)
  rw [eR] at bl bo bn rw3 gr s3 pov hfR ⊢
  have bl : ∀ b ∈ B, b.length ≤ 100000 := bl
  have bo : ∀ b ∈ B, Oct b := bo
  have bn : B.length ≤ 16 := bn
  have rw3 : Rws h3 q3 B := rw3
  have gr : Grams h3 qg GL := gr
  have hfR : GL.length ≤ 100000 := hfR
  have s3 : DrS h3 di d po3 v cv2 := s3
  have pov : ∀ g' ∈ GL, GO g' := pov.2.2.1
  have hdi3 : ∀ i, drAll di d po3 i → i < h3.next := fun i hi => s3.lt hi
  refine ⟨fun env hh => ∃ (j : Nat) (z : Int) (pq : Option (Nat × Nat)) (G : List Msg), j ≤ B.length ∧ z = j ∧ G.length ≤ j ∧ NewSl h3 hh pq G.length 9 (G.flatMap Msg.cells) ∧ (∀ m ∈ G, m.ok hh ∧ ∀ i o, m.ep = some (i, o) → h3.next ≤ i ∧ (m.es = [] ∨ ¬ inSl pq i)) ∧ G.map Msg.bare = gotV (B.take j) ∧ DrS hh di d po3 ((gotV (B.take j)).foldl hearD v) cv2 ∧ Ab.Mod (one di) h3 hh ∧ env = [(60, i64 z), (59, i64 B.length), (58, .sl q3 B.length), (11, .sl qg GL.length), (7, .sl pq G.length), (0, .ptr (some (di, 0)))],
    fun env _ => match get env 60 with
      | .int _ z => ((B.length : Int) - z).toNat
      | _ => 0, ⟨_, Forget.cons rfl (Forget.cons rfl (Forget.cons rfl (Forget.cons rfl (Forget.cons rfl (Forget.cons rfl (Forget.nil _)))))), 0, _, none, [], Nat.zero_le _, rfl, Nat.le_refl _, NewSl.nil _ _ _, fun x hx => (by cases hx), rfl, s3, mod_refl _ _, rfl⟩, ?_⟩
  rintro _ hh ⟨j, z, pq, G, hj, rfl, hGj, no, ho, hG, sj, mj, rfl⟩
  conv => whnf
  refine br_mk (fun hd => ?_) (fun hd => ?_)
  rotate_left
  · conv => whnf
    have hd : ¬ j < B.length := by simpa using hd
    obtain rfl : j = B.length := by omega
    rw [List.take_length] at hG sj
    refine (dgrams41 (gr.get mj) (fun x hx => go_body (pov x hx)) hfR).mono ?_
    rintro _ h5 ⟨q5, rfl, rw5, m5⟩
    have hh3 : h.next ≤ h3.next := mo3.next
    exact ⟨q5, pq, po3, G, h3, by rw [List.length_map], rw5, NewSl.kept no m5, fun m hm => ⟨(ho m hm).1.old m5 (fun _ _ k => k), fun i o e => Nat.le_trans hh3 ((ho m hm).2 i o e).1⟩, hG, sj.old m5, fun i hi => (hp3 i hi).elim .inl (fun k => .inr (Nat.le_trans mo.next k)), hdi3, hh3, mj.trans' m5 (S2 := one di) (fun _ _ k => k) (fun _ _ k => k.elim), mo3.trans' (mj.trans' m5 (S2 := one di) (fun _ _ k => k) (fun _ _ k => k.elim)) (fun _ _ k => k) (fun _ _ k => .inl k)⟩
  have hd : j < B.length := by simpa using hd
  obtain ⟨i1, c1, p1, f1, f2, f3⟩ := (rw3.get mj).cell hd
  have bj := bl _ (List.getElem_mem hd)
  have oj := bo _ (List.getElem_mem hd)
  conv => whnf
  refine ⟨i1, c1, j, f1, rfl, hd, ?_⟩
  conv => whnf
  refine ⟨_, f2, ?_⟩
  conv => whnf
  refine (dec43 f3.is (oct_bts oj) bj).mono ?_
  rintro _ h6 ⟨m2, ok2, rfl, okm, m6, da, hep⟩
  conv => whnf
  refine ⟨_, rfl, ?_⟩
  conv => whnf
  refine ⟨_, rfl, ?_⟩
  conv => whnf
  obtain ⟨g0', gx', mx'⟩ := lay_row (h := h6) (sz := 9) [i64 0, i64 0, i64 0, .sl none 0, i64 0, i64 0, i64 0, i64 0, i64 0] m2.cells
  refine ⟨_, _, g0', Nat.le_of_ble_eq_true rfl, ?_⟩
  conv => whnf
  have mn := mod_none m6 mx'
  have no2 := NewSl.kept no mn
  have ho2 : ∀ m ∈ G, m.ok _ ∧ ∀ i o, m.ep = some (i, o) → h3.next ≤ i ∧ (m.es = [] ∨ ¬ inSl pq i) := fun m hm => ⟨(ho m hm).1.old mn (fun _ _ k => k), (ho m hm).2⟩
  have sj2 := sj.old mn
  have mj2 := mj.trans' mn (S2 := one di) (fun _ _ k => k) (fun _ _ k => k.elim)
  cases ok2 with
  | false =>
    have em : gotV (B.take (j + 1)) = gotV (B.take j) := by
      rw [gotV_snoc hd]
      rcases da with ⟨q, _⟩ | ⟨_, _, q⟩
      · cases q
      · rw [mOf_no q]
        simp
    rw [← em] at hG sj2
    conv => whnf
    rw [succ_i64 hd (by omega)]
    refine ⟨_, Forget.cons rfl (Forget.cons rfl (Forget.cons rfl (Forget.cons rfl (Forget.cons rfl (Forget.cons rfl (Forget.nil _)))))), ⟨j + 1, _, pq, G, hd, rfl, by omega, no2, ho2, hG, sj2, mj2, rfl⟩, ?_⟩
    show ((B.length : Int) - ((j + 1 : Nat) : Int)).toNat < ((B.length : Int) - (j : Int)).toNat
    omega
  | true =>
    have em : gotV (B.take (j + 1)) = gotV (B.take j) ++ [m2.bare] := by
      rw [gotV_snoc hd]
      rcases da with ⟨_, q, _⟩ | ⟨q, _, _⟩
      · rw [mOf_enc q]
        rfl
      · cases q
    have okx := okm.old mx' (fun _ _ k => k)
    conv => whnf
    refine ⟨m2.cells, Cells.mk gx' (Nat.le_of_ble_eq_true rfl) rfl, ?_⟩
    conv => whnf
    have hlt6 : di < h3.next := hdi3 di (.inl rfl)
    have hn6 : h3.next ≤ h6.next := Nat.le_trans mj.next m6.next
    refine (dHears sj2 m2 okx).mono ?_
    rintro _ h7 ⟨s7, m7⟩
    have gx7 := m7.get gx' (.inl (fun k => by have k : h6.next = di := k; omega))
    have no7 : NewSl h3 h7 pq G.length 9 (G.flatMap Msg.cells) := NewSl.keep no2 m7 (fun i k => by have k : i = di := k; omega)
    have okk : ∀ (m : Msg) (hx : H), m.ok hx → (∀ i o, m.ep = some (i, o) → h3.next ≤ i) → ∀ hy, Ab.Mod (one di) hx hy → m.ok hy := fun m hx o1 o2 hy mm => ⟨o1.1.get mm (fun i o e => .inl (fun k => by have k : i = di := k; have := o2 i o e; omega)), o1.2⟩
    have hep' : ∀ i o, m2.ep = some (i, o) → h3.next ≤ i := fun i o e => by
      have := hep i o e
      have := mj.next
      omega
    have ok7 := okk m2 _ okx hep' _ m7
    have ho7 : ∀ m ∈ G, m.ok h7 ∧ ∀ i o, m.ep = some (i, o) → h3.next ≤ i ∧ (m.es = [] ∨ ¬ inSl pq i) := fun m hm => ⟨okk m _ (ho2 m hm).1 (fun i o e => ((ho2 m hm).2 i o e).1) _ m7, (ho2 m hm).2⟩
    have mj7 := mj2.trans' m7 (S2 := one di) (fun _ _ k => k) (fun _ _ k => k)
    conv => whnf
    refine ⟨m2.cells, Cells.mk gx7 (Nat.le_of_ble_eq_true rfl) rfl, ?_⟩
    conv => whnf
    obtain ⟨y1, y2, y3⟩ := app1 no7 mj7 m2.cells rfl
    refine ⟨_, _, y1, y2, by rw [show (T.at_ 44).bytes = 88 from rfl]; omega, by omega, fun p' h' hs hm hf' => ?_⟩
    obtain ⟨ng, mg', my⟩ := y3 p' h' hs hm hf'
    have e6 : G.flatMap Msg.cells ++ m2.cells = (G ++ [m2]).flatMap Msg.cells := by simp
    rw [e6] at ng
    have elen : (G ++ [m2]).length = G.length + 1 := by simp
    rw [← elen] at ng ⊢
    conv => whnf
    rw [succ_i64 hd (by omega)]
    have hq7 : ∀ i, inSl pq i → i < hh.next := fun i k => SlIs.own_lt no.1 k
    have dis : ∀ m ∈ G ++ [m2], m.ok h' ∧ ∀ i o, m.ep = some (i, o) → h3.next ≤ i ∧ (m.es = [] ∨ ¬ inSl p' i) := fun m hm => by
      have both : m.ok h7 ∧ ∀ i o, m.ep = some (i, o) → h3.next ≤ i ∧ (m.es = [] ∨ ¬ inSl pq i) := by
        rcases List.mem_append.1 hm with hm | hm
        · exact ho7 m hm
        · rw [List.mem_singleton.1 hm]
          exact ⟨ok7, fun i o e => ⟨hep' i o e, .inr (fun k => by
            have := hep i o e
            have := hq7 i k
            omega)⟩⟩
      refine ⟨both.1.by my (fun i o e => (both.2 i o e).2), fun i o e => ⟨(both.2 i o e).1, ?_⟩⟩
      rcases (both.2 i o e).2 with q | q
      · exact .inl q
      · rcases both.1.lt i o e with q2 | q2
        · exact .inl q2
        · refine .inr (fun k => ?_)
          obtain ⟨o', k⟩ := k
          rcases hf' i o' k with k2 | k2
          · exact q ⟨o', k2 ▸ k⟩
          · have k2 : h7.next + 1 ≤ i := k2
            omega
    have sF : DrS h' di d po3 ((gotV (B.take (j + 1))).foldl hearD v) cv2 := by
      rw [em, List.foldl_append]
      exact s7.get my (fun i hi k => by
        have := hdi3 i hi
        have := no.2 i _ k.choose_spec
        omega)
    refine ⟨_, Forget.cons rfl (Forget.cons rfl (Forget.cons rfl (Forget.cons rfl (Forget.cons rfl (Forget.cons rfl (Forget.nil _)))))), ⟨j + 1, _, p', G ++ [m2], hd, rfl, by omega, ng, dis, by rw [em, List.map_append, hG]; rfl, sF, mg', rfl⟩, ?_⟩
    show ((B.length : Int) - ((j + 1 : Nat) : Int)).toNat < ((B.length : Int) - (j : Int)).toNat
    omega
end Go.Proofs.Ytmififfaljihgaa
/-! The driver: what is not live; how much goes out. -/
namespace Go.Proofs.Ytmififfaljihgaa
open Go Go.Ab
theorem paysV_len (now : Int) : ∀ (O : List (List Int)) (s : SV), (paysV now s O).1.length ≤ O.length
  | [], s => Nat.le_refl _
  | b :: O, s => by
    rw [paysV]
    split
    · have := paysV_len now O (sendV s now b).2
      simpa using this
    · exact Nat.zero_le _
theorem push_len {cv : CV} (o : COk cv) (now : Int) (b : List Int) : (pushV cv now b).1.1.length ≤ 100000 := by
  have h1 := o.o
  unfold pushV
  split
  · exact Nat.zero_le _
  · split
    · exact Nat.zero_le _
    · have := paysV_len now (cv.O ++ [b]) cv.s
      rw [List.length_append] at this
      show ((paysV now cv.s (cv.O ++ [b])).1.map (pg cv)).length ≤ _
      rw [List.length_map]
      have e : [b].length = 1 := rfl
      omega
theorem pass_len {cv : CV} (o : COk cv) (now : Int) : (passV cv now).1.1.length ≤ 100000 := by
  have h1 := o.o
  have h2 := again_len o.s now
  unfold passV
  split
  · have := paysV_len now cv.O (passM cv now).s
    show (List.map _ _ ++ List.map _ _).length ≤ _
    rw [List.length_append, List.length_map, List.length_map]
    omega
  · exact Nat.zero_le _
theorem recv_len {cv : CV} (o : COk cv) (now : Int) (g : GV) : (recvV cv now g).1.2.length ≤ 100000 := by
  have h1 := o.o
  unfold recvV
  split
  · exact Nat.zero_le _
  · have := paysV_len now cv.O (recvM cv g).s
    show ((if g.kind = 1 then _ else _) ++ List.map _ _).length ≤ _
    rw [List.length_append, List.length_map]
    split
    · show 1 + _ ≤ _
      omega
    · show 0 + _ ≤ _
      omega
section
variable {h : H} {di : Nat} {v : DV}
theorem dFollow0 (s : DrB h di v) (el : v.live = false) (now : Int) : ACalls Try.prog 23 [.ptr (some (di, 0)), i64 now] h (fun r h' => r = .tup [.sl none 0, i64 4] ∧ h' = h) := by
  refine call_ Try.func23 rfl rfl (by kernel_rfl) ?_
  conv => whnf
  refine (dLive s).mono ?_
  rintro _ h1 ⟨eh, rfl⟩
  subst eh
  rw [el]
  conv => whnf
  exact ⟨rfl, rfl⟩
theorem dReport0 (s : DrB h di v) (el : v.live = false) (now p : Int) : ACalls Try.prog 19 [.ptr (some (di, 0)), i64 now, i64 p] h (fun r h' => r = .tup [.sl none 0, i64 4] ∧ h' = h) := by
  refine call_ Try.func19 rfl rfl (by kernel_rfl) ?_
  conv => whnf
  refine (dLive s).mono ?_
  rintro _ h1 ⟨eh, rfl⟩
  subst eh
  rw [el]
  conv => whnf
  exact ⟨rfl, rfl⟩
theorem dTick0 (s : DrB h di v) (el : v.live = false) (now : Int) : ACalls Try.prog 24 [.ptr (some (di, 0)), i64 now] h (fun r h' => r = .sl none 0 ∧ h' = h) := by
  refine call_ Try.func24 rfl rfl (by kernel_rfl) ?_
  conv => whnf
  refine (dLive s).mono ?_
  rintro _ h1 ⟨eh, rfl⟩
  subst eh
  rw [el]
  conv => whnf
  exact ⟨rfl, rfl⟩
theorem dStart0 (h : H) (now a n : Int) : ACalls Try.prog 10 [.ptr none, i64 now, i64 a, i64 n] h (fun r h' => r = .tup [.sl none 0, i64 4] ∧ h' = h) := by
  refine call_ Try.func10 rfl rfl (by kernel_rfl) ?_
  conv => whnf
  exact ⟨rfl, rfl⟩
theorem DrB.old {h' : H} (s : DrB h di v) (m : Ab.Mod none_ h h') : DrB h' di v := by
  obtain ⟨ch, pw, h1, h2⟩ := s
  exact ⟨ch, pw, m.get h1 (.inl (fun k => k)), h2.get m⟩
theorem dRecv0 (s : DrB h di v) (el : v.live = false) (now : Int) {p : Option (Nat × Nat)} {n : Nat} {b : List Int} (ob : SlIs h p n false 1 (ints .u8 b)) (bb : Bts b) (hn : n ≤ 800000) : ACalls Try.prog 17 [.ptr (some (di, 0)), i64 now, .sl p n] h (fun r h' => r = .tup [.sl none 0, .sl none 0] ∧ Ab.Mod none_ h h') := by
  refine call_ Try.func17 rfl rfl (by kernel_rfl) ?_
  conv => whnf
  refine (gdec51 ob bb hn).mono ?_
  rintro _ h1 ⟨m1, e, rfl, ok1, mg, gd, rob⟩
  conv => whnf
  refine ⟨_, rfl, ?_⟩
  conv => whnf
  refine ⟨_, rfl, ?_⟩
  conv => whnf
  obtain ⟨g0, gx, mx⟩ := lay_row (h := h1) (sz := 6) [i64 0, i64 0, i64 0, i64 0, i64 0, .sl none 0] m1.cells
  refine ⟨_, _, g0, Nat.le_of_ble_eq_true rfl, ?_⟩
  conv => whnf
  have sx := (s.old mg).old mx
  have mo := mod_none mg mx
  refine ⟨[0, 1, 2, 3, 4, 5, 6, 7, 8, 9, 10, 11, 12, 13, 14, 15], [0, 1, 3, 7, 15, 31, 63, 127, 255, 511, 255, 1279, 3327, 7423, 16383, 32767], by kernel_rfl, ?_⟩
  rcases gd.of with ⟨rfl, eo, enc⟩ | ⟨he, eo⟩
  rotate_left
  · rcases he with rfl | rfl
    · conv => whnf
      exact ⟨rfl, mo⟩
    · conv => whnf
      exact ⟨rfl, mo⟩
  conv => whnf
  refine (dLive sx).mono ?_
  rintro _ h2 ⟨eh, rfl⟩
  have eh : h2 = _ := eh
  rw [← eh] at mo
  clear eh
  rw [el]
  conv => whnf
  exact ⟨rfl, mo⟩
end
end Go.Proofs.Ytmififfaljihgaa
/-! The Driver laws: what the document fixes. -/
namespace Go.Proofs.Ytmififfaljihgaa
open Go Go.Ab
theorem rst_ok : gEncOk ⟨1, 3, 0, 0, 1, none, []⟩ = true := by decide +kernel
theorem rst_of : gOf (encG ⟨1, 3, 0, 0, 1, none, []⟩) = some ⟨1, 3, 0, 0, 1, []⟩ := by
  rw [gOf_encG rst_ok]
  rfl
/-- a new channel, and its first message under way -/
def CV.one (c : Cfg) (k now : Int) (b : List Int) : CV := ⟨⟨c.win, 1, false, [(0, b)], c.base, c.cap, c.retry, [(0, now + waitV c.base c.cap 0, 0)]⟩, 0, [], k, []⟩
theorem push_new {c : Cfg} (hw : 1 ≤ c.win) (k now : Int) (b : List Int) : pushV (CV.new c k) now b = (([⟨k, 1, 0, 0, 0, b⟩], 0), CV.one c k now b) := by
  have hr : 0 < roomOf (CV.new c k).s := by
    show 0 < (if false = true then 0 else c.win - ((0 : Nat) : Int))
    rw [if_neg (by decide)]
    omega
  have hp : paysV now (CV.new c k).s [b] = ([(0, b)], ⟨c.win, 1, false, [(0, b)], c.base, c.cap, c.retry, [(0, now + waitV c.base c.cap 0, 0)]⟩, []) := by
    have hs : sendV (CV.new c k).s now b = ((0, 0), ⟨c.win, 1, false, [(0, b)], c.base, c.cap, c.retry, [(0, now + waitV c.base c.cap 0, 0)]⟩) := by
      rw [sendV, if_neg (show ¬ (CV.new c k).s.ov = true from fun h => by cases h), if_neg (show ¬ ((CV.new c k).s.C.length : Int) = (CV.new c k).s.W by show ¬ ((0 : Nat) : Int) = c.win; omega)]
      rfl
    rw [paysV, if_pos hr, hs]
    rfl
  rw [pushV, if_neg (show ¬ (CV.new c k).s.ov = true from fun h => by cases h), if_neg (show ¬ 64 ≤ (CV.new c k).O.length from fun h => absurd h (show ¬ 64 ≤ 0 by decide))]
  have e : (CV.new c k).O ++ [b] = [b] := rfl
  rw [e, hp]
  rfl
theorem okCfg_win {c : Cfg} (ok : okCfg c = true) : 1 ≤ c.win := by
  simp only [okCfg, Bool.and_eq_true] at ok
  have := inR_iff.1 ok.1.1.1.1.2
  omega
theorem one_cg {c : Cfg} {k : Int} (ok : okCh c k = true) (now : Int) {b : List Int} (hb : Oct b) (hl : b.length ≤ 100000) : CG (CV.one c k now b) := by
  have hw : 1 ≤ c.win := by
    simp only [okCh, Bool.and_eq_true] at ok
    exact okCfg_win ok.1
  have := push_cg (cv := CV.new c k) ⟨new_cok ok, new_ov _ _, fun x hx => (by cases hx)⟩ (show ((0 : Int) + ((0 : Nat) : Int)) ≤ 1000000 by decide) now hb hl
  rw [push_new hw] at this
  exact this
theorem startR_one {v : DV} (ok : okCfg v.c = true) (now a n : Int) : startR v now a n = (([⟨v.conn + 1, 1, 0, 0, 0, encB (openM a n)⟩], 0), CV.one v.c (v.conn + 1) now (encB (openM a n))) := push_new (okCfg_win ok) _ _ _
set_option maxHeartbeats 1000000 in
theorem awake6 (h : H) : ACalls Try.prog 6 [] h (fun r h' => r = .bool true) := by
  have ok : okCfg ⟨1, 4, 0, 3, 3, 5⟩ = true := rfl
  refine call_ Try.func6 rfl rfl (by kernel_rfl) ?_
  conv => whnf
  obtain ⟨g0, gx, mx⟩ := lay_row (h := h) (sz := 6) [i64 0, i64 0, i64 0, i64 0, i64 0, i64 0] (Cfg.cells ⟨1, 4, 0, 3, 3, 5⟩)
  refine ⟨_, _, g0, Nat.le_of_ble_eq_true rfl, ?_⟩
  conv => whnf
  refine ⟨Cfg.cells ⟨1, 4, 0, 3, 3, 5⟩, Cells.mk gx (Nat.le_of_ble_eq_true rfl) rfl, ?_⟩
  conv => whnf
  refine (dNew _ ⟨1, 4, 0, 3, 3, 5⟩).mono ?_
  rintro _ h1 (⟨q, _⟩ | ⟨_, di, rfl, s1, _, m1⟩)
  · rw [ok] at q
    cases q
  conv => whnf
  refine ⟨_, rfl, ?_⟩
  conv => whnf
  refine ⟨_, rfl, ?_⟩
  conv => whnf
  refine (dNew _ ⟨0, 0, 0, 0, 0, 0⟩).mono ?_
  rintro _ h2 (⟨_, rfl, m2⟩ | ⟨q, _⟩)
  rotate_left
  · exact absurd q (by decide)
  have s2 := s1.get m2 (fun k => k)
  conv => whnf
  refine ⟨_, rfl, ?_⟩
  conv => whnf
  refine ⟨_, rfl, ?_⟩
  conv => whnf
  refine (dFollow0 s2.b rfl 0).mono ?_
  rintro _ h3 ⟨rfl, eh⟩
  subst eh
  conv => whnf
  refine ⟨_, rfl, ?_⟩
  conv => whnf
  refine ⟨_, rfl, ?_⟩
  conv => whnf
  have eS := startR_one (v := DV.new ⟨1, 4, 0, 3, 3, 5⟩) ok 0 1 2
  have cg4 := one_cg (c := ⟨1, 4, 0, 3, 3, 5⟩) (k := 1) (by decide) 0 (encB_oct (openM 1 2)) (by decide +kernel)
  have eS : startR (DV.new ⟨1, 4, 0, 3, 3, 5⟩) 0 1 2 = (([⟨1, 1, 0, 0, 0, encB (openM 1 2)⟩], 0), CV.one ⟨1, 4, 0, 3, 3, 5⟩ 1 0 (encB (openM 1 2))) := eS
  refine (dStart s2.b ok ⟨by decide, by decide⟩ (now := 0) (by decide) (by decide) 1 2 (fun b => push_len (new_cok (by decide)) _ _) (by decide +kernel)).mono ?_
  rintro _ h4 (⟨q, _⟩ | ⟨_, _, d, q4, po, rfl, rw4, s4, hn4, m4⟩)
  · exact absurd q (by decide)
  rw [eS] at rw4 s4 ⊢
  conv => whnf
  refine ⟨_, rfl, ?_⟩
  conv => whnf
  refine ⟨_, rfl, ?_⟩
  conv => whnf
  have s4 : DrS h4 di d po (startD (DV.new ⟨1, 4, 0, 3, 3, 5⟩) 1) (CV.one ⟨1, 4, 0, 3, 3, 5⟩ 1 0 (encB (openM 1 2))) := s4
  refine (dStart s4.b ok ⟨by decide, by decide⟩ (now := 0) (by decide) (by decide) (-1) 2 (fun b => push_len (new_cok (by decide)) _ _) (by decide +kernel)).mono ?_
  rintro _ h5 (⟨_, rfl, eh⟩ | ⟨q, _⟩)
  rotate_left
  · exact absurd q (by decide)
  subst eh
  conv => whnf
  refine ⟨_, rfl, ?_⟩
  conv => whnf
  refine ⟨_, rfl, ?_⟩
  conv => whnf
  refine (gref50 ⟨1, 3, 0, 0, 1, none, []⟩ ⟨SlIs.nil _ _ _, (fun _ k => by cases k), Nat.zero_le _⟩).mono ?_
  rintro _ h6 ⟨q6, rfl, o6, m6⟩
  have s6 := s4.old m6
  conv => whnf
  refine ⟨_, rfl, ?_⟩
  conv => whnf
  refine ⟨_, rfl, ?_⟩
  conv => whnf
  refine (dLive s6.b).mono ?_
  rintro _ h7 ⟨eh, rfl⟩
  subst eh
  conv => whnf
  refine (dRecv s6 cg4 (by decide) (by decide) (now := 1) (by decide) (by decide) o6.is (encG_bts (fun _ k => by cases k)) (Nat.le_trans (encG_len _) (by decide)) (fun g => recv_len cg4.ok _ _)).mono ?_
  rw [rst_of]
  rintro _ h8 ⟨q8, q9, po8, rfl, rw8, ms8, s8, _, m8⟩
  conv => whnf
  refine ⟨_, rfl, ?_⟩
  conv => whnf
  refine ⟨_, rfl, ?_⟩
  conv => whnf
  refine (dStart0 h8 0 0 0).mono ?_
  rintro _ h9 ⟨rfl, eh⟩
  subst eh
  conv => whnf
  refine ⟨_, rfl, ?_⟩
  conv => whnf
  refine ⟨_, rfl, ?_⟩
  have eD : rcvD (startD (DV.new ⟨1, 4, 0, 3, 3, 5⟩) 1) (CV.one ⟨1, 4, 0, 3, 3, 5⟩ 1 0 (encB (openM 1 2))) 1 (some ⟨1, 3, 0, 0, 1, []⟩) = { startD (DV.new ⟨1, 4, 0, 3, 3, 5⟩) 1 with live := false, why := 1 } := rfl
  rw [eD] at s8
  conv => whnf
  refine (dLive s8.b).mono ?_
  rintro _ h10 ⟨eh, rfl⟩
  subst eh
  conv => whnf
  refine (dWhy s8.b).mono ?_
  rintro _ h11 ⟨eh, rfl⟩
  subst eh
  conv => whnf
  refine (dConn s8.b).mono ?_
  rintro _ h12 ⟨eh, rfl⟩
  subst eh
  conv => whnf
  refine (dAt s8.b).mono ?_
  rintro _ h13 ⟨eh, rfl⟩
  subst eh
  conv => whnf
  refine (dAt0 _).mono ?_
  rintro _ h14 ⟨eh, rfl⟩
  subst eh
  conv => whnf
  refine (dLive0 _).mono ?_
  rintro _ h15 ⟨eh, rfl⟩
  subst eh
  conv => whnf
  rfl
end Go.Proofs.Ytmififfaljihgaa
/-! DriverTries: in plain lists. -/
namespace Go.Proofs.Ytmififfaljihgaa
open Go Go.Ab
def dtV (B R : Int) (body : List Int) (n : Int) : CV := ⟨⟨4, 1, false, [(0, body)], B, B, R, [(0, B * n, n - 1)]⟩, 0, [], 1, []⟩
def dtO (B R : Int) (body : List Int) (n : Int) : CV := ⟨⟨4, 1, true, [(0, body)], B, B, R, []⟩, 0, [], 1, []⟩
theorem waitBB (B n : Int) : waitV B B n = B := by
  unfold waitV
  rw [waitW_stop (by omega)]
  split <;> rfl
theorem dt_one (B R : Int) (body : List Int) : CV.one ⟨1, 4, R, B, B, 5⟩ 1 0 body = dtV B R body 1 := by
  rw [CV.one, dtV]
  show (⟨⟨4, 1, false, [(0, body)], B, B, R, [(0, 0 + waitV B B 0, 0)]⟩, 0, [], 1, []⟩ : CV) = _
  rw [waitBB, show (0 : Int) + B = B * 1 by omega]
  rfl
theorem dt_wait {B R : Int} (body : List Int) {n now : Int} (hn : now < B * n) : passV (dtV B R body n) now = (([], 0), dtV B R body n) := by
  have hg : B * n > now := hn
  have ha : againV (dtV B R body n).s now = (([], 0), (dtV B R body n).s) := by
    have ea : agB R now (0, B * n, n - 1) = false := by rw [agB, decide_eq_true hg]; rfl
    have eo : ovB R now (0, B * n, n - 1) = false := by rw [ovB, decide_eq_true hg]; rfl
    have ed : dueF B B R now (0, B * n, n - 1) = some (0, B * n, n - 1) := by
      rw [dueF, if_pos hg]
    have e1 : ovS R now [(0, B * n, n - 1)] = [] := by
      rw [ovS, List.filter_cons_of_neg (by rw [eo]; simp)]
      rfl
    have e2 : agS R now [(0, B * n, n - 1)] = [] := by
      rw [agS, List.filter_cons_of_neg (by rw [ea]; simp)]
      rfl
    have e3 : rsS B B R now [(0, B * n, n - 1)] = [(0, B * n, n - 1)] := by
      rw [rsS, List.filterMap_cons, ed]
      rfl
    unfold againV
    rw [if_neg (show ¬ (dtV B R body n).s.ov = true from fun h => by cases h), if_pos (show ovS (dtV B R body n).s.R now (dtV B R body n).s.TS = [] from e1)]
    show (((agS R now [(0, B * n, n - 1)]), (0 : Int)), ({ (dtV B R body n).s with TS := rsS B B R now [(0, B * n, n - 1)] } : SV)) = _
    rw [e2, e3]
    rfl
  have hp : passM (dtV B R body n) now = dtV B R body n := by
    rw [passM, ha]
  rw [passV, hp, ha, if_pos rfl]
  rfl
theorem dt_pass {B R : Int} (body : List Int) {n : Int} (hn : n ≤ R) : passV (dtV B R body n) (B * n) = (([⟨1, 1, 0, 0, 0, body⟩], 0), dtV B R body (n + 1)) := by
  have hg : ¬ B * n > B * n := by omega
  have hl : n - 1 < R := by omega
  have ha : againV (dtV B R body n).s (B * n) = (([0], 0), (dtV B R body (n + 1)).s) := by
    have ea : agB R (B * n) (0, B * n, n - 1) = true := by rw [agB, decide_eq_false hg, decide_eq_true hl]; rfl
    have eo : ovB R (B * n) (0, B * n, n - 1) = false := by rw [ovB, decide_eq_true hl]; simp
    have ed : dueF B B R (B * n) (0, B * n, n - 1) = some (0, B * (n + 1), n + 1 - 1) := by
      rw [dueF, if_neg hg, if_pos hl, waitBB, Int.mul_add, Int.mul_one, show n - 1 + 1 = n + 1 - 1 by omega]
    have e1 : ovS R (B * n) [(0, B * n, n - 1)] = [] := by
      rw [ovS, List.filter_cons_of_neg (by rw [eo]; simp)]
      rfl
    have e2 : agS R (B * n) [(0, B * n, n - 1)] = [0] := by
      rw [agS, List.filter_cons_of_pos ea]
      rfl
    have e3 : rsS B B R (B * n) [(0, B * n, n - 1)] = [(0, B * (n + 1), n + 1 - 1)] := by
      rw [rsS, List.filterMap_cons, ed]
      rfl
    unfold againV
    rw [if_neg (show ¬ (dtV B R body n).s.ov = true from fun h => by cases h), if_pos (show ovS (dtV B R body n).s.R (B * n) (dtV B R body n).s.TS = [] from e1)]
    show (((agS R (B * n) [(0, B * n, n - 1)]), (0 : Int)), ({ (dtV B R body n).s with TS := rsS B B R (B * n) [(0, B * n, n - 1)] } : SV)) = _
    rw [e2, e3]
    rfl
  have hp : passM (dtV B R body n) (B * n) = dtV B R body (n + 1) := by
    rw [passM, ha]
    rfl
  rw [passV, hp, ha, if_pos rfl]
  rfl
theorem dt_over {B R : Int} (body : List Int) {n : Int} (hn : n = R + 1) : passV (dtV B R body n) (B * n) = (([], 6), dtO B R body n) := by
  have hg : ¬ B * n > B * n := by omega
  have hl : ¬ n - 1 < R := by omega
  have ha : againV (dtV B R body n).s (B * n) = (([], 6), (dtO B R body n).s) := by
    have eo : ovB R (B * n) (0, B * n, n - 1) = true := by rw [ovB, decide_eq_false hg, decide_eq_false hl]; rfl
    have ed : dueF B B R (B * n) (0, B * n, n - 1) = none := by rw [dueF, if_neg hg, if_neg hl]
    have e1 : ovS R (B * n) [(0, B * n, n - 1)] = [0] := by
      rw [ovS, List.filter_cons_of_pos eo]
      rfl
    have e3 : rsS B B R (B * n) [(0, B * n, n - 1)] = [] := by
      rw [rsS, List.filterMap_cons, ed]
      rfl
    unfold againV
    rw [if_neg (show ¬ (dtV B R body n).s.ov = true from fun h => by cases h), if_neg (by
      show ¬ ovS R (B * n) [(0, B * n, n - 1)] = []
      rw [e1]
      simp)]
    show (([], (6 : Int)), ({ (dtV B R body n).s with ov := true, TS := rsS B B R (B * n) [(0, B * n, n - 1)] } : SV)) = _
    rw [e3]
    rfl
  have hp : passM (dtV B R body n) (B * n) = dtO B R body n := by
    rw [passM, ha]
    rfl
  rw [passV, hp, ha, if_neg (show ¬ ((6 : Int) = 0) by decide)]
theorem mulT {B n : Int} (hB : 1 ≤ B) (hB2 : B ≤ 20) (hn0 : 0 ≤ n) (hn : n ≤ 11) : 0 ≤ B * n ∧ B * n ≤ 220 := by
  constructor
  · exact Int.mul_nonneg (by omega) hn0
  · have h1 : B * n ≤ 20 * n := Int.mul_le_mul_of_nonneg_right hB2 hn0
    omega
theorem dt_rem {B n now : Int} (hB : 1 ≤ B) (h0 : 1 ≤ n) (h1 : B * (n - 1) < now) (h2 : now < B * n) : now.tmod B ≠ 0 := by
  have hz : 0 ≤ B * (n - 1) := Int.mul_nonneg (by omega) (by omega)
  have e : B * n = B * (n - 1) + B := by rw [Int.mul_sub, Int.mul_one]; omega
  rw [Int.tmod_eq_emod_of_nonneg (by omega), show now = (now - B * (n - 1)) + B * (n - 1) by omega, Int.add_mul_emod_self_left, Int.emod_eq_of_lt (by omega) (by omega)]
  omega
theorem openM_len (a n : Int) : (encB (openM a n)).length ≤ 100000 := by
  rw [encB]
  split
  · have e : bytesP (parts (openM a n)) = be 1 1 ++ (be a 2 ++ (be n 2 ++ [])) := rfl
    rw [e]
    simp [be_length]
  · exact Nat.zero_le _
end Go.Proofs.Ytmififfaljihgaa
/-! DriverTries: its walk. -/
namespace Go.Proofs.Ytmififfaljihgaa
open Go Go.Ab
set_option maxHeartbeats 4000000 in
theorem tries5 (h : H) (B R K : Int) : ACalls Try.prog 5 [i64 B, i64 R, i64 K] h (fun r _ => r = .bool true) := by
  refine call_ Try.func5 rfl rfl (by kernel_rfl) ?_
  conv => whnf
  refine br_mk (fun ha => ?_) (fun ha => ?_)
  · conv => whnf
    refine (awake6 h).mono ?_
    rintro _ h1 rfl
    conv => whnf
  conv => whnf
  have ha : ¬ (B < 1) := by simpa using ha
  refine br_mk (fun hb => ?_) (fun hb => ?_)
  · conv => whnf
    refine (awake6 h).mono ?_
    rintro _ h1 rfl
    conv => whnf
  conv => whnf
  have hb : ¬ (B > 20) := by simpa using hb
  refine br_mk (fun hc => ?_) (fun hc => ?_)
  · conv => whnf
    refine (awake6 h).mono ?_
    rintro _ h1 rfl
    conv => whnf
  conv => whnf
  have hc : ¬ (R < 0) := by simpa using hc
  refine br_mk (fun hd => ?_) (fun hd => ?_)
  · conv => whnf
    refine (awake6 h).mono ?_
    rintro _ h1 rfl
    conv => whnf
  conv => whnf
  have hd : ¬ (R > 10) := by simpa using hd
  have ok : okCfg ⟨1, 4, R, B, B, 5⟩ = true := by
    unfold okCfg
    rw [show inR R 0 20 = true from inR_iff.2 ⟨by omega, by omega⟩, show inR B 1 1000 = true from inR_iff.2 ⟨by omega, by omega⟩, show inR B B 1000 = true from inR_iff.2 ⟨by omega, by omega⟩]
    rfl
  have okc : okCh ⟨1, 4, R, B, B, 5⟩ 1 = true := by rw [okCh, ok]; rfl
  refine (dNew h ⟨1, 4, R, B, B, 5⟩).mono ?_
  rintro _ h1 (⟨q, _⟩ | ⟨_, di, rfl, s1, _, m1⟩)
  · rw [ok] at q
    cases q
  conv => whnf
  refine ⟨_, rfl, ?_⟩
  conv => whnf
  refine ⟨_, rfl, ?_⟩
  conv => whnf
  refine (round19 (m := 65536) (by decide) (by decide) K h1).mono ?_
  rintro _ h2 ⟨eh, rfl⟩
  subst eh
  have a0 := Int.emod_nonneg K (show (65536 : Int) ≠ 0 by decide)
  have a1 := Int.emod_lt_of_pos K (show (0 : Int) < 65536 by decide)
  obtain ⟨a, ea⟩ : ∃ a, K % 65536 = a := ⟨_, rfl⟩
  rw [ea] at a0 a1 ⊢
  conv => whnf
  have cg1 := one_cg okc 0 (encB_oct (openM a 0)) (openM_len a 0)
  have eS := startR_one (v := DV.new ⟨1, 4, R, B, B, 5⟩) ok 0 a 0
  have eS : startR (DV.new ⟨1, 4, R, B, B, 5⟩) 0 a 0 = (([⟨1, 1, 0, 0, 0, encB (openM a 0)⟩], 0), CV.one ⟨1, 4, R, B, B, 5⟩ 1 0 (encB (openM a 0))) := eS
  refine (dStart s1.b ok ⟨Int.le_refl 0, (by decide : (0 : Int) ≤ 1000000)⟩ (now := 0) (by decide) (by decide) a 0 (fun b => push_len (new_cok okc) _ _) (openM_len a 0)).mono ?_
  rintro _ h3 (⟨q, _⟩ | ⟨_, _, d, q3, po, rfl, rw3, s3, hn3, m3⟩)
  · rcases q with q | q
    · rw [show inR a 0 65535 = true from inR_iff.2 ⟨by omega, by omega⟩] at q
      cases q
    · exact absurd q (by decide)
  rw [eS] at rw3 s3 ⊢
  obtain ⟨body, eb⟩ : ∃ body, encB (openM a 0) = body := ⟨_, rfl⟩
  rw [eb] at rw3 s3 cg1 ⊢
  rw [dt_one] at cg1 s3 ⊢
  obtain ⟨v1, ev⟩ : ∃ v1, startD (DV.new ⟨1, 4, R, B, B, 5⟩) a = v1 := ⟨_, rfl⟩
  have s3 : DrS h3 di d po (startD (DV.new ⟨1, 4, R, B, B, 5⟩) a) (dtV B R body 1) := s3
  rw [ev] at s3
  have vl : v1.live = true := by rw [← ev]; rfl
  have vw : v1.why = 0 := by rw [← ev]; rfl
  obtain ⟨e8, ee⟩ : ∃ e8, encV ⟨1, 1, 0, 0, 0, body⟩ = e8 := ⟨_, rfl⟩
  have rw3 : Rws h3 q3 [encV ⟨1, 1, 0, 0, 0, body⟩] := rw3
  rw [ee] at rw3
  have hb8 : ∀ x ∈ e8, 0 ≤ x ∧ x < 256 := by
    rw [← ee]
    exact encG_bts (m := toG ⟨1, 1, 0, 0, 0, body⟩ none) (by show Bts body; rw [← eb]; exact encB_bts _)
  conv => whnf
  refine ⟨_, rfl, ?_⟩
  conv => whnf
  refine ⟨_, rfl, ?_⟩
  conv => whnf
  refine ⟨fun env hk => ∃ (n c z : Int) (pc : Option (Nat × Nat)), 1 ≤ n ∧ n ≤ R + 1 ∧ c = n - 1 ∧ B * (n - 1) < z ∧ z ≤ B * n ∧ DrS hk di d pc v1 (dtV B R body n) ∧ CG (dtV B R body n) ∧ Rws hk q3 [e8] ∧ env = [(12, i64 z), (11, i64 c), (9, .sl q3 1), (7, .ptr (some (di, 0))), (0, i64 B), (1, i64 R), (2, i64 K)],
    fun env _ => match get env 12 with
      | .int _ z => (B * (R + 1) - z).toNat
      | _ => 0, ⟨_, Forget.cons rfl (Forget.cons rfl (Forget.cons rfl (Forget.cons rfl (Forget.cons rfl (Forget.cons rfl (Forget.cons rfl (Forget.nil _))))))), 1, 0, 1, _, by decide, by omega, rfl, by omega, by omega, s3, cg1, rw3, rfl⟩, ?_⟩
  clear s3 cg1 rw3 m3 eS m1 s1
  rintro _ hh ⟨n, c, now, pc, hn1, hn2, hc, hx1, hx2, s, cg, rw, rfl⟩
  obtain ⟨bn0, bn1⟩ := mulT (B := B) (n := n) (by omega) (by omega) (by omega) (by omega)
  obtain ⟨br0, br1⟩ := mulT (B := B) (n := R + 1) (by omega) (by omega) (by omega) (by omega)
  have hle : B * n ≤ B * (R + 1) := Int.mul_le_mul_of_nonneg_left hn2 (by omega)
  have hz : 0 ≤ B * (n - 1) := Int.mul_nonneg (by omega) (by omega)
  conv => whnf
  rw [wrap_i64 (x := R + 1) (by omega) (by omega), wrap_i64 (x := B * (R + 1)) (by omega) (by omega)]
  refine br_mk (fun hx => ?_) (fun hx => ?_)
  rotate_left
  · have hx : ¬ now ≤ B * (R + 1) := by simpa using hx
    omega
  clear hx
  conv => whnf
  refine (dTick s cg (show (1 : Int) + ((0 : Nat) : Int) ≤ 1000000 by decide) (now := now) (by omega) (by omega) (pass_len cg.ok _)).mono ?_
  rintro _ h4 (⟨q, _⟩ | ⟨_, q4, po4, rfl, rw4, s4, _, m4⟩)
  · rw [vl] at q
    cases q
  have rw := rw.get m4
  have cg4 := pass_cg cg (show (1 : Int) + ((0 : Nat) : Int) ≤ 1000000 by decide) now
  conv => whnf
  rw [wrap_i64 (x := R + 1) (by omega) (by omega), wrap_i64 (x := B * (R + 1)) (by omega) (by omega)]
  refine br_mk (fun hy => ?_) (fun hy => ?_)
  · have hy : now = B * (R + 1) := by simpa using hy
    have hnR : n = R + 1 := by
      by_cases k : n ≤ R
      · have k2 : B * n ≤ B * R := Int.mul_le_mul_of_nonneg_left k (by omega)
        have k3 : B * (R + 1) = B * R + B := by rw [Int.mul_add, Int.mul_one]
        omega
      · omega
    have hcR : c = R := by omega
    subst hy
    have hP := dt_over (B := B) body hnR
    rw [hnR] at hP
    rw [hnR] at s4 rw4 ⊢
    have eO : tickO (dtV B R body (R + 1)) (B * (R + 1)) = [] := by rw [tickO, hP, if_neg (show ¬ (6 : Int) = 0 by decide)]
    have eD : tickD v1 (dtV B R body (R + 1)) (B * (R + 1)) = { v1 with live := false, why := 0 } := by rw [tickD, hP, if_neg (show ¬ (6 : Int) = 0 by decide)]
    rw [eO] at rw4 ⊢
    rw [eD, hP] at s4
    subst hcR
    conv => whnf
    rw [show (c == c) = true by simp]
    conv => whnf
    refine (dLive s4.b).mono ?_
    rintro _ h5 ⟨eh, rfl⟩
    subst eh
    conv => whnf
    refine (dWhy s4.b).mono ?_
    rintro _ h6 ⟨eh, rfl⟩
    subst eh
    conv => whnf
    rw [wrap_i64 (x := B * (c + 1) + B) (by omega) (by omega)]
    refine (dTick0 s4.b rfl _).mono ?_
    rintro _ h7 ⟨rfl, eh⟩
    subst eh
    conv => whnf
    refine (awake6 _).mono ?_
    rintro _ h8 rfl
    conv => whnf
  have hy : ¬ now = B * (R + 1) := by simpa using hy
  conv => whnf
  refine ⟨[0, 1, 2, 3, 4, 5, 6, 7, 8, 9, 10, 11, 12, 13, 14, 15, 16, 17, 18, 19, 20, 21, 22, 23, 24, 25, 26, 27, 28, 29, 30], [0, 0, 3, 7, 15, 31, 63, 127, 255, 511, 1023, 1023, 4095, 8191, 16383, 32767, 65535, 131071, 262143, 524287, 1048575, 2097151, 4194303, 524287, 8912895, 25690111, 59244543, 134217727, 268435455, 536870911, 1073741823], by kernel_rfl, ?_⟩
  conv => whnf
  refine ⟨by omega, ?_⟩
  by_cases hw : now < B * n
  · have hP := dt_wait (B := B) (R := R) body hw
    have hr := dt_rem (by omega) hn1 hx1 hw
    have eO : tickO (dtV B R body n) now = [] := by rw [tickO, hP, if_pos rfl]; rfl
    have eD : tickD v1 (dtV B R body n) now = v1 := by rw [tickD, hP, if_pos rfl]
    rw [eO] at rw4 ⊢
    rw [eD, hP] at s4
    rw [hP] at cg4
    conv => whnf
    rw [show (now.tmod B != 0) = true from by simpa using hr]
    conv => whnf
    refine ⟨by omega, ?_⟩
    conv => whnf
    rw [show (now.tmod B == 0) = false from by simpa using hr]
    conv => whnf
    rw [wrap_i64 (x := now + 1) (by omega) (by omega)]
    refine ⟨_, Forget.cons rfl (Forget.cons rfl (Forget.cons rfl (Forget.cons rfl (Forget.cons rfl (Forget.cons rfl (Forget.cons rfl (Forget.nil _))))))), ⟨n, _, _, _, hn1, hn2, ?_, by omega, by omega, s4, cg4, rw, rfl⟩, ?_⟩
    · show IntKind.i64.wrap (c + 0) = n - 1
      rw [wrap_i64 (by omega) (by omega)]
      omega
    · show (B * (R + 1) - (now + 1)).toNat < (B * (R + 1) - now).toNat
      omega
  · have hw : now = B * n := by omega
    have hnR : n ≤ R := by
      by_cases k : n ≤ R
      · exact k
      · exact absurd (show now = B * (R + 1) by rw [hw, show n = R + 1 by omega]) hy
    subst hw
    have hP := dt_pass (B := B) body hnR
    have eO : tickO (dtV B R body n) (B * n) = [e8] := by rw [tickO, hP, if_pos rfl, ← ee]; rfl
    have eD : tickD v1 (dtV B R body n) (B * n) = v1 := by rw [tickD, hP, if_pos rfl]
    rw [eO] at rw4 ⊢
    rw [eD, hP] at s4
    rw [hP] at cg4
    have hr : (B * n).tmod B = 0 := Int.mul_tmod_right B n
    rw [hr]
    conv => whnf
    refine ⟨by omega, ?_⟩
    rw [hr]
    conv => whnf
    obtain ⟨i4, c4, p4, f1, f2, f3⟩ := rw4.cell (j := 0) Nat.zero_lt_one
    obtain ⟨i3, c3, p3, g1, g2, g3⟩ := rw.cell (j := 0) Nat.zero_lt_one
    refine ⟨i4, c4, 0, f1, rfl, Nat.zero_lt_one, ?_⟩
    conv => whnf
    refine ⟨_, f2, ?_⟩
    conv => whnf
    refine ⟨_, f3.is, hb8, ?_⟩
    conv => whnf
    refine ⟨i3, c3, 0, g1, rfl, Nat.zero_lt_one, ?_⟩
    conv => whnf
    refine ⟨_, g2, ?_⟩
    conv => whnf
    refine ⟨_, g3.is, hb8, ?_⟩
    conv => whnf
    refine br_mk (fun hI => ?_) (fun hI => ?_)
    · exact absurd hI (by simp)
    conv => whnf
    have e1 : B * (n + 1) = B * n + B := by rw [Int.mul_add, Int.mul_one]
    have e2 : B * (n + 1 - 1) = B * n := by rw [show n + 1 - 1 = n by omega]
    rw [wrap_i64 (x := B * n + 1) (by omega) (by omega)]
    refine ⟨_, Forget.cons rfl (Forget.cons rfl (Forget.cons rfl (Forget.cons rfl (Forget.cons rfl (Forget.cons rfl (Forget.cons rfl (Forget.nil _))))))), ⟨n + 1, _, _, _, by omega, by omega, ?_, by omega, by omega, s4, cg4, rw, rfl⟩, ?_⟩
    · show IntKind.i64.wrap (c + 1) = n + 1 - 1
      rw [wrap_i64 (by omega) (by omega)]
      omega
    · show (B * (R + 1) - (B * n + 1)).toNat < (B * (R + 1) - B * n).toNat
      have : ¬ B * n = B * (R + 1) := hy
      omega
end Go.Proofs.Ytmififfaljihgaa
