/- The driver: Recv. -/
import Derived.Test.YtmififfaljihgaaD14
import Derived.Test.YtmififfaljihgaaD15
set_option linter.unusedVariables false
namespace Go.Proofs.Ytmififfaljihgaa
open Go Go.Ab
/-- messages in a row, as they lie -/
def Msgs (h : H) (lo : Nat) (q : Option (Nat × Nat)) (L : List Msg) : Prop := ∃ G : List Msg, RoSl h q L.length 9 (G.flatMap Msg.cells) ∧ (∀ m ∈ G, m.ok h ∧ ∀ i o, m.ep = some (i, o) → lo ≤ i) ∧ G.map Msg.bare = L
noncomputable def gotV (l : List (List Int)) : List Msg := l.filterMap mOf
def recvX (v : DV) (g : GV) : Bool := v.live && decide (g.conn = v.conn)
noncomputable def rcvO (v : DV) (cv : CV) (now : Int) : Option GV → List (List Int) × List Msg
  | none => ([], [])
  | some g => if recvX v g = true ∧ g.kind ≠ 3 then ((recvV cv now g).1.2.map encV, gotV (recvV cv now g).1.1) else ([], [])
noncomputable def rcvD (v : DV) (cv : CV) (now : Int) : Option GV → DV
  | none => v
  | some g => if recvX v g = true then (if g.kind = 3 then { v with live := false, why := g.code } else (gotV (recvV cv now g).1.1).foldl hearD v) else v
def rcvC (v : DV) (cv : CV) (now : Int) : Option GV → CV
  | none => cv
  | some g => if recvX v g = true ∧ g.kind ≠ 3 then (recvV cv now g).2 else cv
def DRecvQ (h : H) (di : Nat) (d : CId) (po : Option (Nat × Nat)) (v : DV) (cv : CV) (now : Int) (og : Option GV) (r : V) (h' : H) : Prop :=
  ∃ q1 q2 po', r = .tup [.sl q1 (rcvO v cv now og).1.length, .sl q2 (rcvO v cv now og).2.length] ∧ Rws h' q1 (rcvO v cv now og).1 ∧ Msgs h' h.next q2 (rcvO v cv now og).2 ∧ DrS h' di d po' (rcvD v cv now og) (rcvC v cv now og) ∧ (∀ i, inSl po' i → inSl po i ∨ h.next ≤ i) ∧ Ab.Mod (drAll di d po) h h'
theorem ins_all {β : Type} {P : β → Prop} {C : List (Int × β)} (s : ∀ x ∈ C, P x.2) {b : β} (hb : P b) (k : Int) : ∀ x ∈ insS C k b, P x.2 := fun x hx => by
  rw [insS, List.mem_append, List.mem_cons] at hx
  rcases hx with hx | rfl | hx
  · exact s x (List.mem_filter.1 hx).1
  · exact hb
  · exact s x (List.mem_filter.1 hx).1
theorem recv_ln {cv : CV} (s : ∀ x ∈ cv.C, x.2.length ≤ 100000) (now : Int) {g : GV} (hb : g.body.length ≤ 100000) : (∀ x ∈ (recvV cv now g).2.C, x.2.length ≤ 100000) ∧ ∀ b ∈ (recvV cv now g).1.1, b.length ≤ 100000 := by
  have key : (∀ b ∈ (tkV (recvS cv g).W cv.N cv.C g.seq g.body).2.1, b.length ≤ 100000) ∧ ∀ x ∈ (tkV (recvS cv g).W cv.N cv.C g.seq g.body).2.2.2, x.2.length ≤ 100000 := by
    unfold tkV
    split
    · exact chn_got (P := fun b : List Int => b.length ≤ 100000) _ _ (ins_all (P := fun b : List Int => b.length ≤ 100000) s hb g.seq)
    · exact ⟨fun b k => (by cases k), s⟩
  unfold recvV
  split
  · exact ⟨s, fun b k => (by cases k)⟩
  · constructor
    · show ∀ x ∈ (recvM cv g).C, x.2.length ≤ 100000
      unfold recvM
      split
      · exact key.2
      · exact s
    · show ∀ b ∈ (if g.kind = 1 then (tkV (recvS cv g).W cv.N cv.C g.seq g.body).2.1 else []), b.length ≤ 100000
      split
      · exact key.1
      · exact fun b k => (by cases k)
theorem recv_cg {cv : CV} (g : CG cv) (hN : cv.cnt ≤ 1000000) (now : Int) {gg : GV} (hg : GO gg) : CG (recvV cv now gg).2 := ⟨recv_cok g.ok now gg, (recv_ov g.ok g.ov (by omega) now hg).1, (recv_ln g.ln now hg.len).1⟩
theorem push_cg {cv : CV} (g : CG cv) (hN : cv.cnt ≤ 1000000) (now : Int) {b : List Int} (hb : Oct b) (hl : b.length ≤ 100000) : CG (pushV cv now b).2 := ⟨push_cok g.ok now hl, (push_ov g.ok g.ov (by omega) now hb hl).1, by
  unfold pushV
  split
  · exact g.ln
  · split
    · exact g.ln
    · exact g.ln⟩
theorem pass_cg {cv : CV} (g : CG cv) (hN : cv.cnt ≤ 1000000) (now : Int) : CG (passV cv now).2 := ⟨pass_cok g.ok now, (pass_ov g.ok g.ov (by omega) now).1, by
  unfold passV
  split
  · exact g.ln
  · exact g.ln⟩
theorem gotV_snoc {l : List (List Int)} {j : Nat} (hj : j < l.length) : gotV (l.take (j + 1)) = gotV (l.take j) ++ (mOf l[j]).toList := by
  rw [List.take_succ_eq_append_getElem hj, gotV, List.filterMap_append]
  congr 1
theorem Msg.ok.by {S : Nat → Prop} {h h' : H} {m : Msg} (o : m.ok h) (k : Ab.Mod S h h') (hS : ∀ i o, m.ep = some (i, o) → m.es = [] ∨ ¬ S i) : m.ok h' := by
  obtain ⟨⟨h1, h2⟩, h3⟩ := o
  refine ⟨⟨h1, ?_⟩, h3⟩
  rcases h2 with h2 | ⟨i, o, o', r, e1, e2, e3⟩
  · exact .inl h2
  · rcases hS i o e1 with q | q
    · exact .inl ⟨by rw [q]; rfl, .inr rfl⟩
    · exact .inr ⟨i, o, o', r, e1, k.get e2 (.inl q), e3⟩
theorem Msg.ok.lt {h : H} {m : Msg} (o : m.ok h) : ∀ i c, m.ep = some (i, c) → m.es = [] ∨ i < h.next := fun i c e => by
  rcases o.1.2 with ⟨r, _⟩ | ⟨i', c', b, cs, e1, e2, _⟩
  · exact .inl (List.length_eq_zero_iff.1 r)
  · rw [e] at e1
    injection e1 with e1
    injection e1 with e1
    subst e1
    exact .inr (h.lt _ _ e2)
theorem Msg.ok.ro {h : H} {m : Msg} (o : m.ok h) (i : Nat) : m.ok (h.ro i) := ⟨SlIs.ro_weak o.1 i, o.2⟩
theorem DrS.ro {h : H} {di : Nat} {d : CId} {po : Option (Nat × Nat)} {v : DV} {cv : CV} (s : DrS h di d po v cv) {i : Nat} (hi : ¬ drAll di d po i) : DrS (h.ro i) di d po v cv := by
  obtain ⟨⟨pw, h1, h2⟩, h3, h4⟩ := s
  exact ⟨⟨pw, by rw [H.ro_ne _ (fun k => hi (.inl k.symm)), h1], h2.ro i⟩, h3.ro (fun k => hi (.inr k)), h4⟩
theorem hearD_bare (v : DV) (m : Msg) : hearD v m.bare = hearD v m := rfl
set_option maxHeartbeats 2000000 in
theorem dRecv {h : H} {di : Nat} {d : CId} {po : Option (Nat × Nat)} {v : DV} {cv : CV} (s : DrS h di d po v cv) (g : CG cv) (hN : cv.cnt ≤ 1000000) (hNt : cv.N ≤ 1000000) {now : Int} (hn0 : -1000000000 ≤ now) (hn1 : now ≤ 1000000000) {p : Option (Nat × Nat)} {n : Nat} {b : List Int} (ob : SlIs h p n false 1 (ints .u8 b)) (bb : Bts b) (hn : n ≤ 800000) (hf : ∀ gg : GV, (recvV cv now gg).1.2.length ≤ 100000) :
    ACalls Try.prog 17 [.ptr (some (di, 0)), i64 now, .sl p n] h (DRecvQ h di d po v cv now (gOf b)) := by
  refine ACalls.ro (Q := fun r h' => ∃ (q1 q2 po' : Option (Nat × Nat)) (G : List Msg) (h3 : H), r = .tup [.sl q1 (rcvO v cv now (gOf b)).1.length, .sl q2 G.length] ∧ Rws h' q1 (rcvO v cv now (gOf b)).1 ∧ NewSl h3 h' q2 G.length 9 (G.flatMap Msg.cells) ∧ (∀ m ∈ G, m.ok h' ∧ ∀ i o, m.ep = some (i, o) → h.next ≤ i) ∧ G.map Msg.bare = (rcvO v cv now (gOf b)).2 ∧ DrS h' di d po' (rcvD v cv now (gOf b)) (rcvC v cv now (gOf b)) ∧ (∀ i, inSl po' i → inSl po i ∨ h.next ≤ i) ∧ (∀ i, drAll di d po' i → i < h3.next) ∧ h.next ≤ h3.next ∧ Ab.Mod (one di) h3 h' ∧ Ab.Mod (drAll di d po) h h') ?_ (by
    rintro r h' ⟨q1, q2, po', G, h3, rfl, rw1, ng, ho, hG, sd, hp, hlt, hh3, hm3, m⟩
    obtain ⟨i, a1, a2, a3⟩ := NewSl.freeze ng hm3
    have hGL : G.length = (rcvO v cv now (gOf b)).2.length := by rw [← hG, List.length_map]
    refine ⟨i, q1, q2, po', by rw [hGL], rw1.ro i, ⟨G, by rw [← hGL]; exact a2, fun m hm => ⟨(ho m hm).1.ro i, (ho m hm).2⟩, hG⟩, sd.ro (fun k => ?_), hp, m.ro_new (Nat.le_trans hh3 a1)⟩
    have := hlt i k
    omega)
  refine call_ Try.func17 rfl rfl (by kernel_rfl) ?_
  conv => whnf
  refine (gdec51 ob bb hn).mono ?_
  rintro _ h1 ⟨m1, e, rfl, ok1, mg, gd, rob⟩
  have s1 := s.old mg
  conv => whnf
  refine ⟨_, rfl, ?_⟩
  conv => whnf
  refine ⟨_, rfl, ?_⟩
  conv => whnf
  obtain ⟨g0, gx, mx⟩ := lay_row (h := h1) (sz := 6) [i64 0, i64 0, i64 0, i64 0, i64 0, .sl none 0] m1.cells
  refine ⟨_, _, g0, Nat.le_of_ble_eq_true rfl, ?_⟩
  conv => whnf
  refine ⟨[0, 1, 2, 3, 4, 5, 6, 7, 8, 9, 10, 11, 12, 13, 14, 15], [0, 1, 3, 7, 15, 31, 63, 127, 255, 511, 255, 1279, 3327, 7423, 16383, 32767], by kernel_rfl, ?_⟩
  rcases gd.of with ⟨rfl, eo, enc⟩ | ⟨he, eo⟩
  rotate_left
  · have sx := s1.old mx
    have nay : ∀ hh, DrS hh di d po v cv → Ab.Mod none_ h hh → ∃ (q1 q2 po' : Option (Nat × Nat)) (G : List Msg) (h3 : H), V.tup [.sl none 0, .sl none 0] = .tup [.sl q1 (rcvO v cv now (gOf b)).1.length, .sl q2 G.length] ∧ Rws hh q1 (rcvO v cv now (gOf b)).1 ∧ NewSl h3 hh q2 G.length 9 (G.flatMap Msg.cells) ∧ (∀ m ∈ G, m.ok hh ∧ ∀ i o, m.ep = some (i, o) → h.next ≤ i) ∧ G.map Msg.bare = (rcvO v cv now (gOf b)).2 ∧ DrS hh di d po' (rcvD v cv now (gOf b)) (rcvC v cv now (gOf b)) ∧ (∀ i, inSl po' i → inSl po i ∨ h.next ≤ i) ∧ (∀ i, drAll di d po' i → i < h3.next) ∧ h.next ≤ h3.next ∧ Ab.Mod (one di) h3 hh ∧ Ab.Mod (drAll di d po) h hh := fun hh sc m => by
      rw [eo]
      exact ⟨none, none, po, [], hh, rfl, rws_nil _, NewSl.nil _ _ _, (fun x hx => by cases hx), rfl, sc, fun _ k => .inl k, fun i hi => sc.lt hi, m.next, mod_refl _ _, m.mono (fun _ _ k => k.elim)⟩
    rcases he with rfl | rfl
    · conv => whnf
      exact nay _ sx (mod_none mg mx)
    · conv => whnf
      exact nay _ sx (mod_none mg mx)
  have sx := s1.old mx
  have mo := mod_none mg mx
  have gok : GO (ofG m1) := ⟨ok1.2.1, enc.seq, ok1.2.2⟩
  have nay : recvX v (ofG m1) = false → ∀ hh, DrS hh di d po v cv → Ab.Mod none_ h hh → ∃ (q1 q2 po' : Option (Nat × Nat)) (G : List Msg) (h3 : H), V.tup [.sl none 0, .sl none 0] = .tup [.sl q1 (rcvO v cv now (gOf b)).1.length, .sl q2 G.length] ∧ Rws hh q1 (rcvO v cv now (gOf b)).1 ∧ NewSl h3 hh q2 G.length 9 (G.flatMap Msg.cells) ∧ (∀ m ∈ G, m.ok hh ∧ ∀ i o, m.ep = some (i, o) → h.next ≤ i) ∧ G.map Msg.bare = (rcvO v cv now (gOf b)).2 ∧ DrS hh di d po' (rcvD v cv now (gOf b)) (rcvC v cv now (gOf b)) ∧ (∀ i, inSl po' i → inSl po i ∨ h.next ≤ i) ∧ (∀ i, drAll di d po' i → i < h3.next) ∧ h.next ≤ h3.next ∧ Ab.Mod (one di) h3 hh ∧ Ab.Mod (drAll di d po) h hh := fun hx hh sc m => by
    rw [eo]
    have e1 : rcvO v cv now (some (ofG m1)) = ([], []) := by rw [rcvO, hx]; rfl
    have e2 : rcvD v cv now (some (ofG m1)) = v := by rw [rcvD, hx]; rfl
    have e3 : rcvC v cv now (some (ofG m1)) = cv := by rw [rcvC, hx]; rfl
    rw [e1, e2, e3]
    exact ⟨none, none, po, [], hh, rfl, rws_nil _, NewSl.nil _ _ _, (fun x hx => by cases hx), rfl, sc, fun _ k => .inl k, fun i hi => sc.lt hi, m.next, mod_refl _ _, m.mono (fun _ _ k => k.elim)⟩
  conv => whnf
  refine (dLive sx.b).mono ?_
  rintro _ h2 ⟨eh, rfl⟩
  have eh : h2 = _ := eh
  rw [← eh] at sx mx gx mo
  clear eh
  cases el : v.live with
  | false =>
    conv => whnf
    exact nay (by rw [recvX, el]; rfl) _ sx mo
  | true =>
  obtain ⟨pw, b1, b2⟩ := sx.box
  conv => whnf
  refine ⟨_, Cell.mk gx rfl, ?_⟩
  conv => whnf
  refine ⟨_, Cell.mk b1 rfl, ?_⟩
  conv => whnf
  refine br_mk (fun hc => ?_) (fun hc => ?_)
  · have hc : ¬ m1.cn = v.conn := by simpa using hc
    conv => whnf
    exact nay (by rw [recvX, el, decide_eq_false (show ¬ (ofG m1).conn = v.conn from hc)]; rfl) _ sx mo
  have hc : m1.cn = v.conn := by simpa using hc
  have hX : recvX v (ofG m1) = true := by rw [recvX, el, decide_eq_true (show (ofG m1).conn = v.conn from hc)]; rfl
  conv => whnf
  refine ⟨_, Cell.mk gx rfl, ?_⟩
  conv => whnf
  refine br_mk (fun h3 => ?_) (fun h3 => ?_)
  · have h3 : m1.k = 3 := by simpa using h3
    have hk : (ofG m1).kind = 3 := h3
    have e1 : rcvO v cv now (some (ofG m1)) = ([], []) := by rw [rcvO, if_neg (fun k => k.2 hk)]
    have e2 : rcvD v cv now (some (ofG m1)) = { v with live := false, why := m1.cd } := by rw [rcvD, if_pos hX, if_pos hk]; rfl
    have e3 : rcvC v cv now (some (ofG m1)) = cv := by rw [rcvC, if_neg (fun k => k.2 hk)]
    conv => whnf
    refine ⟨[0, 1, 2, 3, 4, 5, 6, 7, 8, 9], [0, 0, 0, 4, 1, 17, 49, 127, 255, 511], by kernel_rfl, ?_⟩
    conv => whnf
    refine ⟨_, Cell.mk gx rfl, ?_⟩
    conv => whnf
    refine ⟨_, _, b1, Nat.le_of_ble_eq_true rfl, ?_⟩
    conv => whnf
    obtain ⟨s4, m4, b4, w4⟩ := sx.set (cs := drow v (.ptr (some (d.c, 0))) pw) b1 (v' := { v with live := false }) (pw' := pw) b2
    have hne : h1.next ≠ di := fun k => by
      have := (h.lt _ _ (s.box.choose_spec).1)
      have := mg.next
      omega
    refine ⟨⟨_, Cell.mk (m4.get gx (.inl hne)) rfl, rfl⟩, ?_⟩
    conv => whnf
    refine ⟨_, _, b4, Nat.le_of_ble_eq_true rfl, ?_⟩
    conv => whnf
    obtain ⟨s5, m5, b5, w5⟩ := s4.set (cs := drow { v with live := false } (.ptr (some (d.c, 0))) pw) b4 (v' := { v with live := false, why := m1.cd }) (pw' := pw) w4
    have m45 := m4.trans' m5 (S2 := one di) (fun _ _ k => k) (fun _ _ k => k)
    have mF := mo.trans' m45 (S2 := drAll di d po) (fun _ _ k => k.elim) (fun _ _ k => .inl k)
    rw [eo, e1, e2, e3]
    exact ⟨none, none, po, [], _, rfl, rws_nil _, NewSl.nil _ _ _, (fun x hx => by cases hx), rfl, s5, fun _ k => .inl k, fun i hi => s5.lt hi, mF.next, mod_refl _ _, mF⟩
  have h3 : ¬ m1.k = 3 := by simpa using h3
  have hk : (ofG m1).kind ≠ 3 := h3
  have e1 : rcvO v cv now (some (ofG m1)) = ((recvV cv now (ofG m1)).1.2.map encV, gotV (recvV cv now (ofG m1)).1.1) := by rw [rcvO, if_pos ⟨hX, hk⟩]
  have e2 : rcvD v cv now (some (ofG m1)) = (gotV (recvV cv now (ofG m1)).1.1).foldl hearD v := by rw [rcvD, if_pos hX, if_neg hk]
  have e3 : rcvC v cv now (some (ofG m1)) = (recvV cv now (ofG m1)).2 := by rw [rcvC, if_pos ⟨hX, hk⟩]
  rw [eo, e1, e2, e3]
  clear nay e1 e2 e3
  conv => whnf
  refine ⟨[0, 1, 2, 3, 4, 5, 6, 7, 8, 9, 10, 11], [0, 1, 3, 7, 0, 0, 63, 127, 255, 255, 511, 2047], by kernel_rfl, ?_⟩
  conv => whnf
  refine ⟨_, Cell.mk b1 rfl, ?_⟩
  conv => whnf
  refine ⟨m1.cells, Cells.mk gx (Nat.le_of_ble_eq_true rfl) rfl, ?_⟩
  conv => whnf
  have hcnt : cv.s.N + cv.O.length ≤ 1000000 := hN
  refine (cRecv sx.ch g.ok (by omega) hNt hn0 hn1 (g := ofG m1) (p := m1.bp) (fun h' m' => RoSl.is ((rob.get mx).get m')) gok.seq gok.len).mono ?_
  rintro _ h3 ⟨q3, qg, po3, rfl, rw3, gr, c3, hp3, m3⟩
  have pov := recv_ov g.ok g.ov (by omega) now gok
  have s3 : DrS h3 di d po3 v (recvV cv now (ofG m1)).2 := ⟨⟨pw, m3.get b1 (.inl sx.sep), b2.get m3⟩, c3, fun k => by
    rcases k with k | k
    · exact sx.sep (.inl k)
    · rcases hp3 di k with k | k
      · exact sx.sep (.inr k)
      · have := sx.lt (i := di) (.inl rfl)
        omega⟩
  have mo3 : Ab.Mod (drAll di d po) h h3 := mo.trans' m3 (S2 := drAll di d po) (fun _ _ k => k.elim) (fun _ _ k => .inr k)
  conv => whnf
  refine ⟨_, rfl, ?_⟩
  conv => whnf
  refine ⟨_, rfl, ?_⟩
  conv => whnf
  have bl := (recv_ln g.ln now gok.len).2
  have bo := pov.2.1
  have bn := pov.2.2.2.2.2.2
  obtain ⟨⟨⟨B, GL⟩, cv2⟩, eR⟩ : ∃ x, recvV cv now (ofG m1) = x := ⟨_, rfl⟩
  have hfR := hf (ofG m1)
  rw [eR] at bl bo bn rw3 gr s3 pov hfR ⊢
  have bl : ∀ b ∈ B, b.length ≤ 100000 := bl
  have bo : ∀ b ∈ B, Oct b := bo
  have bn : B.length ≤ 16 := bn
  have rw3 : Rws h3 q3 B := rw3
  have gr : Grams h3 qg GL := gr
  have hfR : GL.length ≤ 100000 := hfR
  have s3 : DrS h3 di d po3 v cv2 := s3
  have pov : ∀ g' ∈ GL, GO g' := pov.2.2.1
  have hdi3 : ∀ i, drAll di d po3 i → i < h3.next := fun i hi => s3.lt hi
  refine ⟨fun env hh => ∃ (j : Nat) (z : Int) (pq : Option (Nat × Nat)) (G : List Msg), j ≤ B.length ∧ z = j ∧ G.length ≤ j ∧ NewSl h3 hh pq G.length 9 (G.flatMap Msg.cells) ∧ (∀ m ∈ G, m.ok hh ∧ ∀ i o, m.ep = some (i, o) → h3.next ≤ i ∧ (m.es = [] ∨ ¬ inSl pq i)) ∧ G.map Msg.bare = gotV (B.take j) ∧ DrS hh di d po3 ((gotV (B.take j)).foldl hearD v) cv2 ∧ Ab.Mod (one di) h3 hh ∧ env = [(60, i64 z), (59, i64 B.length), (58, .sl q3 B.length), (11, .sl qg GL.length), (7, .sl pq G.length), (0, .ptr (some (di, 0)))],
    fun env _ => match get env 60 with
      | .int _ z => ((B.length : Int) - z).toNat
      | _ => 0, ⟨_, Forget.cons rfl (Forget.cons rfl (Forget.cons rfl (Forget.cons rfl (Forget.cons rfl (Forget.cons rfl (Forget.nil _)))))), 0, _, none, [], Nat.zero_le _, rfl, Nat.le_refl _, NewSl.nil _ _ _, fun x hx => (by cases hx), rfl, s3, mod_refl _ _, rfl⟩, ?_⟩
  rintro _ hh ⟨j, z, pq, G, hj, rfl, hGj, no, ho, hG, sj, mj, rfl⟩
  conv => whnf
  refine br_mk (fun hd => ?_) (fun hd => ?_)
  rotate_left
  · conv => whnf
    have hd : ¬ j < B.length := by simpa using hd
    obtain rfl : j = B.length := by omega
    rw [List.take_length] at hG sj
    refine (dgrams41 (gr.get mj) (fun x hx => go_body (pov x hx)) hfR).mono ?_
    rintro _ h5 ⟨q5, rfl, rw5, m5⟩
    have hh3 : h.next ≤ h3.next := mo3.next
    exact ⟨q5, pq, po3, G, h3, by rw [List.length_map], rw5, NewSl.kept no m5, fun m hm => ⟨(ho m hm).1.old m5 (fun _ _ k => k), fun i o e => Nat.le_trans hh3 ((ho m hm).2 i o e).1⟩, hG, sj.old m5, fun i hi => (hp3 i hi).elim .inl (fun k => .inr (Nat.le_trans mo.next k)), hdi3, hh3, mj.trans' m5 (S2 := one di) (fun _ _ k => k) (fun _ _ k => k.elim), mo3.trans' (mj.trans' m5 (S2 := one di) (fun _ _ k => k) (fun _ _ k => k.elim)) (fun _ _ k => k) (fun _ _ k => .inl k)⟩
  have hd : j < B.length := by simpa using hd
  obtain ⟨i1, c1, p1, f1, f2, f3⟩ := (rw3.get mj).cell hd
  have bj := bl _ (List.getElem_mem hd)
  have oj := bo _ (List.getElem_mem hd)
  conv => whnf
  refine ⟨i1, c1, j, f1, rfl, hd, ?_⟩
  conv => whnf
  refine ⟨_, f2, ?_⟩
  conv => whnf
  refine (dec43 f3.is (oct_bts oj) bj).mono ?_
  rintro _ h6 ⟨m2, ok2, rfl, okm, m6, da, hep⟩
  conv => whnf
  refine ⟨_, rfl, ?_⟩
  conv => whnf
  refine ⟨_, rfl, ?_⟩
  conv => whnf
  obtain ⟨g0', gx', mx'⟩ := lay_row (h := h6) (sz := 9) [i64 0, i64 0, i64 0, .sl none 0, i64 0, i64 0, i64 0, i64 0, i64 0] m2.cells
  refine ⟨_, _, g0', Nat.le_of_ble_eq_true rfl, ?_⟩
  conv => whnf
  have mn := mod_none m6 mx'
  have no2 := NewSl.kept no mn
  have ho2 : ∀ m ∈ G, m.ok _ ∧ ∀ i o, m.ep = some (i, o) → h3.next ≤ i ∧ (m.es = [] ∨ ¬ inSl pq i) := fun m hm => ⟨(ho m hm).1.old mn (fun _ _ k => k), (ho m hm).2⟩
  have sj2 := sj.old mn
  have mj2 := mj.trans' mn (S2 := one di) (fun _ _ k => k) (fun _ _ k => k.elim)
  cases ok2 with
  | false =>
    have em : gotV (B.take (j + 1)) = gotV (B.take j) := by
      rw [gotV_snoc hd]
      rcases da with ⟨q, _⟩ | ⟨_, _, q⟩
      · cases q
      · rw [mOf_no q]
        simp
    rw [← em] at hG sj2
    conv => whnf
    rw [succ_i64 hd (by omega)]
    refine ⟨_, Forget.cons rfl (Forget.cons rfl (Forget.cons rfl (Forget.cons rfl (Forget.cons rfl (Forget.cons rfl (Forget.nil _)))))), ⟨j + 1, _, pq, G, hd, rfl, by omega, no2, ho2, hG, sj2, mj2, rfl⟩, ?_⟩
    show ((B.length : Int) - ((j + 1 : Nat) : Int)).toNat < ((B.length : Int) - (j : Int)).toNat
    omega
  | true =>
    have em : gotV (B.take (j + 1)) = gotV (B.take j) ++ [m2.bare] := by
      rw [gotV_snoc hd]
      rcases da with ⟨_, q, _⟩ | ⟨q, _, _⟩
      · rw [mOf_enc q]
        rfl
      · cases q
    have okx := okm.old mx' (fun _ _ k => k)
    conv => whnf
    refine ⟨m2.cells, Cells.mk gx' (Nat.le_of_ble_eq_true rfl) rfl, ?_⟩
    conv => whnf
    have hlt6 : di < h3.next := hdi3 di (.inl rfl)
    have hn6 : h3.next ≤ h6.next := Nat.le_trans mj.next m6.next
    refine (dHears sj2 m2 okx).mono ?_
    rintro _ h7 ⟨s7, m7⟩
    have gx7 := m7.get gx' (.inl (fun k => by have k : h6.next = di := k; omega))
    have no7 : NewSl h3 h7 pq G.length 9 (G.flatMap Msg.cells) := NewSl.keep no2 m7 (fun i k => by have k : i = di := k; omega)
    have okk : ∀ (m : Msg) (hx : H), m.ok hx → (∀ i o, m.ep = some (i, o) → h3.next ≤ i) → ∀ hy, Ab.Mod (one di) hx hy → m.ok hy := fun m hx o1 o2 hy mm => ⟨o1.1.get mm (fun i o e => .inl (fun k => by have k : i = di := k; have := o2 i o e; omega)), o1.2⟩
    have hep' : ∀ i o, m2.ep = some (i, o) → h3.next ≤ i := fun i o e => by
      have := hep i o e
      have := mj.next
      omega
    have ok7 := okk m2 _ okx hep' _ m7
    have ho7 : ∀ m ∈ G, m.ok h7 ∧ ∀ i o, m.ep = some (i, o) → h3.next ≤ i ∧ (m.es = [] ∨ ¬ inSl pq i) := fun m hm => ⟨okk m _ (ho2 m hm).1 (fun i o e => ((ho2 m hm).2 i o e).1) _ m7, (ho2 m hm).2⟩
    have mj7 := mj2.trans' m7 (S2 := one di) (fun _ _ k => k) (fun _ _ k => k)
    conv => whnf
    refine ⟨m2.cells, Cells.mk gx7 (Nat.le_of_ble_eq_true rfl) rfl, ?_⟩
    conv => whnf
    obtain ⟨y1, y2, y3⟩ := app1 no7 mj7 m2.cells rfl
    refine ⟨_, _, y1, y2, by rw [show (T.at_ 44).bytes = 88 from rfl]; omega, by omega, fun p' h' hs hm hf' => ?_⟩
    obtain ⟨ng, mg', my⟩ := y3 p' h' hs hm hf'
    have e6 : G.flatMap Msg.cells ++ m2.cells = (G ++ [m2]).flatMap Msg.cells := by simp
    rw [e6] at ng
    have elen : (G ++ [m2]).length = G.length + 1 := by simp
    rw [← elen] at ng ⊢
    conv => whnf
    rw [succ_i64 hd (by omega)]
    have hq7 : ∀ i, inSl pq i → i < hh.next := fun i k => SlIs.own_lt no.1 k
    have dis : ∀ m ∈ G ++ [m2], m.ok h' ∧ ∀ i o, m.ep = some (i, o) → h3.next ≤ i ∧ (m.es = [] ∨ ¬ inSl p' i) := fun m hm => by
      have both : m.ok h7 ∧ ∀ i o, m.ep = some (i, o) → h3.next ≤ i ∧ (m.es = [] ∨ ¬ inSl pq i) := by
        rcases List.mem_append.1 hm with hm | hm
        · exact ho7 m hm
        · rw [List.mem_singleton.1 hm]
          exact ⟨ok7, fun i o e => ⟨hep' i o e, .inr (fun k => by
            have := hep i o e
            have := hq7 i k
            omega)⟩⟩
      refine ⟨both.1.by my (fun i o e => (both.2 i o e).2), fun i o e => ⟨(both.2 i o e).1, ?_⟩⟩
      rcases (both.2 i o e).2 with q | q
      · exact .inl q
      · rcases both.1.lt i o e with q2 | q2
        · exact .inl q2
        · refine .inr (fun k => ?_)
          obtain ⟨o', k⟩ := k
          rcases hf' i o' k with k2 | k2
          · exact q ⟨o', k2 ▸ k⟩
          · have k2 : h7.next + 1 ≤ i := k2
            omega
    have sF : DrS h' di d po3 ((gotV (B.take (j + 1))).foldl hearD v) cv2 := by
      rw [em, List.foldl_append]
      exact s7.get my (fun i hi k => by
        have := hdi3 i hi
        have := no.2 i _ k.choose_spec
        omega)
    refine ⟨_, Forget.cons rfl (Forget.cons rfl (Forget.cons rfl (Forget.cons rfl (Forget.cons rfl (Forget.cons rfl (Forget.nil _)))))), ⟨j + 1, _, p', G ++ [m2], hd, rfl, by omega, ng, dis, by rw [em, List.map_append, hG]; rfl, sF, mg', rfl⟩, ?_⟩
    show ((B.length : Int) - ((j + 1 : Nat) : Int)).toNat < ((B.length : Int) - (j : Int)).toNat
    omega
end Go.Proofs.Ytmififfaljihgaa
