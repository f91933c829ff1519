/- G7: texts of another seat, turned to this one. -/
import Derived.Test.YtmififfaljihgaaGreatG6
set_option linter.unusedVariables false
set_option linter.unusedSimpArgs false
namespace Go.Proofs.YtmififfaljihgaaGreat
open Go Go.Ab Go.Shelf
theorem be_inj {k : Nat} (h1 : 1 ≤ k) (h7 : k ≤ 7) {x y : Int} (hx : 0 ≤ x ∧ x < 2 ^ (8 * k)) (hy : 0 ≤ y ∧ y < 2 ^ (8 * k)) {r s : List Int} (e : be x k ++ r = be y k ++ s) : x = y ∧ r = s := by
  obtain ⟨_, a2, a3⟩ := read_num h1 h7 hx.1 hx.2 r
  obtain ⟨_, b2, b3⟩ := read_num h1 h7 hy.1 hy.2 s
  rw [e] at a2 a3
  exact ⟨a3.symm.trans b3, a2.symm.trans b2⟩
theorem bytesP_inj : ∀ (ps qs : List (Nat × Int)) (r s : List Int), (∀ p ∈ ps, 1 ≤ p.1 ∧ p.1 ≤ 7) → ps.map Prod.fst = qs.map Prod.fst → fitP ps = true → fitP qs = true → bytesP ps ++ r = bytesP qs ++ s → ps = qs ∧ r = s
  | [], [], r, s, _, _, _, _, e => ⟨rfl, e⟩
  | [], q :: qs, r, s, _, e, _, _, _ => by cases e
  | p :: ps, [], r, s, _, e, _, _, _ => by cases e
  | p :: ps, q :: qs, r, s, hk, e, f1, f2, eb => by
    simp only [fitP, List.all_cons, Bool.and_eq_true, decide_eq_true_eq] at f1 f2
    rw [List.map_cons, List.map_cons] at e
    injection e with e1 e2
    have hp := hk p (by simp)
    obtain ⟨pk, pv⟩ := p
    obtain ⟨qk, qv⟩ := q
    have e1 : pk = qk := e1
    subst e1
    have eb : be pv pk ++ (bytesP ps ++ r) = be qv pk ++ (bytesP qs ++ s) := by
      rw [← List.append_assoc, ← List.append_assoc]
      exact eb
    obtain ⟨g1, g2⟩ := be_inj hp.1 hp.2 f1.1 f2.1 eb
    have g1 : pv = qv := g1
    obtain ⟨g3, g4⟩ := bytesP_inj ps qs r s (fun x hx => hk x (by simp [hx])) e2 f1.2 f2.2 g2
    exact ⟨by rw [g1, g3], g4⟩
theorem enc_uniq {b : List Int} {m n : Msg} (a : Enc b m) (c : Enc b n) : eqM m n := by
  have am := a.ok
  have cm := c.ok
  rw [encOk, Bool.and_eq_true] at am cm
  have hk : m.k = n.k ∧ bytesP (tailP m) = bytesP (tailP n) := by
    have f1 := am.2
    have f2 := cm.2
    simp only [fitP, parts, List.all_cons, Bool.and_eq_true, decide_eq_true_eq] at f1 f2
    exact be_inj (k := 1) (by decide) (by decide) f1.1 f2.1 (a.is.trans c.is.symm)
  have t1 : fitP (tailP m) = true := by
    have f1 := am.2
    simp only [fitP, parts, List.all_cons, Bool.and_eq_true, decide_eq_true_eq] at f1
    exact f1.2
  have t2 : fitP (tailP n) = true := by
    have f1 := cm.2
    simp only [fitP, parts, List.all_cons, Bool.and_eq_true, decide_eq_true_eq] at f1
    exact f1.2
  obtain ⟨hk, hb⟩ := hk
  have ca := a.can
  have cb := c.can
  have key : (tailP m).map Prod.fst = (tailP n).map Prod.fst → (∀ p ∈ tailP m, 1 ≤ p.1 ∧ p.1 ≤ 7) → tailP m = tailP n := fun e e2 => (bytesP_inj _ _ [] [] e2 e t1 t2 (by rw [hb])).1
  by_cases h1 : m.k = 1
  · have h1' : n.k = 1 := hk ▸ h1
    rw [tailP_1 h1, tailP_1 h1'] at key
    have e := key rfl (by simp)
    simp only [List.cons.injEq, Prod.mk.injEq, true_and, and_true] at e
    exact eqM.mk hk.symm e.1.symm e.2.symm (by rw [(ca.r (by omega)).1, (cb.r (by omega)).1]) (by rw [(ca.r (by omega)).2, (cb.r (by omega)).2]) (by rw [(ca.n (by omega)).1, (cb.n (by omega)).1]) (by rw [(ca.n (by omega)).2.1, (cb.n (by omega)).2.1]) (by rw [(ca.n (by omega)).2.2.1, (cb.n (by omega)).2.2.1]) (by rw [(ca.n (by omega)).2.2.2, (cb.n (by omega)).2.2.2])
  have h1' : ¬ n.k = 1 := hk ▸ h1
  have ed : n.d = m.d := by rw [ca.d h1, cb.d h1']
  by_cases h7 : m.k = 7
  · have h7' : n.k = 7 := hk ▸ h7
    rw [tailP_7 h7] at t1
    rw [tailP_7 h7'] at t2
    rw [tailP_7 h7, tailP_7 h7'] at key
    have e := key rfl (by simp)
    simp only [List.cons.injEq, Prod.mk.injEq, true_and, and_true] at e
    obtain ⟨e1, e2, e3, e4⟩ := e
    simp only [fitP, List.all_cons, Bool.and_eq_true, decide_eq_true_eq] at t1 t2
    have lim : ∀ z : Int, -9223372036854775808 ≤ z → z ≤ 9223372036854775807 → 0 ≤ IntKind.i64.wrap (z + 1) → IntKind.i64.wrap (z + 1) = z + 1 := fun z z1 z2 z3 => by
      by_cases hx : z = 9223372036854775807
      · rw [hx] at z3
        have : IntKind.i64.wrap (9223372036854775807 + 1) = -9223372036854775808 := rfl
        omega
      · exact wrap_i64 (by omega) (by omega)
    have e2 : n.e = m.e := by
      have w1 := lim m.e a.e1 a.e2 t1.2.1.1
      have w2 := lim n.e c.e1 c.e2 t2.2.1.1
      omega
    exact eqM.mk hk.symm (by rw [ca.p h1 (by omega) (by omega), cb.p h1' (by omega) (by omega)]) ed (by rw [(ca.r (by omega)).1, (cb.r (by omega)).1]) (by rw [(ca.r (by omega)).2, (cb.r (by omega)).2]) e1.symm e2 e3.symm e4.symm
  have h7' : ¬ n.k = 7 := hk ▸ h7
  obtain ⟨n1, n2, n3, n4⟩ := ca.n h7
  obtain ⟨m1, m2, m3, m4⟩ := cb.n h7'
  by_cases h5 : m.k = 5
  · have h5' : n.k = 5 := hk ▸ h5
    rw [tailP_5 h5] at t1 hb
    rw [tailP_5 h5'] at t2 hb
    have t1' := t1
    have t2' := t2
    simp only [fitP, List.all_cons, Bool.and_eq_true, decide_eq_true_eq] at t1' t2'
    have hb : be m.w 5 ++ (be (m.es.length : Int) 2 ++ bytesP (m.es.map fun v => (2, v))) = be n.w 5 ++ (be (n.es.length : Int) 2 ++ bytesP (n.es.map fun v => (2, v))) := hb
    obtain ⟨g1, g2⟩ := be_inj (k := 5) (by decide) (by decide) t1'.1 t2'.1 hb
    obtain ⟨g3, g4⟩ := be_inj (k := 2) (by decide) (by decide) t1'.2.1 t2'.2.1 g2
    have g3 : m.es.length = n.es.length := by omega
    have ee := (bytesP_inj (m.es.map fun v => (2, v)) (n.es.map fun v => (2, v)) [] [] (fun p hp => by
      obtain ⟨v, _, rfl⟩ := List.mem_map.1 hp
      exact ⟨(by decide : (1 : Nat) ≤ 2), (by decide : (2 : Nat) ≤ 7)⟩) (by
      rw [List.map_map, List.map_map]
      show m.es.map (fun _ => 2) = n.es.map (fun _ => 2)
      rw [List.map_const', List.map_const', g3]) t1'.2.2 t2'.2.2 (by rw [g4])).1
    have es : m.es = n.es := by
      have := congrArg (List.map Prod.snd) ee
      rw [List.map_map, List.map_map] at this
      simpa [Function.comp_def] using this
    exact eqM.mk hk.symm (by rw [ca.p h1 (by omega) (by omega), cb.p h1' (by omega) (by omega)]) ed es.symm g1.symm (by rw [n1, m1]) (by rw [n2, m2]) (by rw [n3, m3]) (by rw [n4, m4])
  have h5' : ¬ n.k = 5 := hk ▸ h5
  obtain ⟨r1, r2⟩ := ca.r h5
  obtain ⟨s1, s2⟩ := cb.r h5'
  refine eqM.mk hk.symm ?_ ed (by rw [r1, s1]) (by rw [r2, s2]) (by rw [n1, m1]) (by rw [n2, m2]) (by rw [n3, m3]) (by rw [n4, m4])
  by_cases h2 : m.k = 2 ∨ m.k = 9
  · have h2' : n.k = 2 ∨ n.k = 9 := hk ▸ h2
    rw [tailP_2 h2, tailP_2 h2'] at key
    have e := key rfl (by simp)
    simp only [List.cons.injEq, Prod.mk.injEq, true_and, and_true] at e
    exact e.symm
  · rw [ca.p h1 (by omega) (by omega), cb.p h1' (by omega) (by omega)]
theorem encG_uniq {body : List Int} {kd : Int} {m n : Grm} (a : EncG body kd m) (c : EncG body kd n) : eqG m n := by
  have hk : m.k = n.k := a.k.trans c.k.symm
  have hK : 1 ≤ m.k ∧ m.k ≤ 3 := by simpa [gknd] using a.kn
  have f1 := a.fit
  have f2 := c.fit
  have hb : bytesP (gparts m) ++ gbody m = bytesP (gparts n) ++ gbody n := a.is.trans c.is.symm
  have key : (gparts m).map Prod.fst = (gparts n).map Prod.fst → (∀ p ∈ gparts m, 1 ≤ p.1 ∧ p.1 ≤ 7) → gparts m = gparts n ∧ gbody m = gbody n := fun e e2 => bytesP_inj _ _ _ _ e2 e f1 f2 hb
  have a3 := a.c3
  have c3 := c.c3
  have a1 := a.c1
  have c1 := c.c1
  have a2 := a.c2
  have c2 := c.c2
  by_cases h1 : m.k = 1
  · have h1' : n.k = 1 := hk ▸ h1
    rw [gparts, gparts, gtail_1 h1, gtail_1 h1', gbody_1 h1, gbody_1 h1'] at key
    obtain ⟨e, eb⟩ := key rfl (by simp)
    simp only [List.cons.injEq, Prod.mk.injEq, true_and, and_true] at e
    exact eqG.mk e.1.symm hk.symm e.2.1.symm e.2.2.symm (by rw [a3 (by omega), c3 (by omega)]) eb.symm
  have h1' : ¬ n.k = 1 := hk ▸ h1
  obtain ⟨a1, a1'⟩ := a1 h1
  obtain ⟨c1, c1'⟩ := c1 h1'
  by_cases h2 : m.k = 2
  · have h2' : n.k = 2 := hk ▸ h2
    rw [gparts, gparts, gtail_2 h2, gtail_2 h2'] at key
    obtain ⟨e, eb⟩ := key rfl (by simp)
    simp only [List.cons.injEq, Prod.mk.injEq, true_and, and_true] at e
    exact eqG.mk e.1.symm hk.symm (by rw [a1, c1]) e.2.symm (by rw [a3 (by omega), c3 (by omega)]) (by rw [a1', c1'])
  have h3 : m.k = 3 := by omega
  have h3' : n.k = 3 := hk ▸ h3
  rw [gparts, gparts, gtail_3 h3, gtail_3 h3'] at key
  obtain ⟨e, eb⟩ := key rfl (by simp)
  simp only [List.cons.injEq, Prod.mk.injEq, true_and, and_true] at e
  exact eqG.mk e.1.symm hk.symm (by rw [a1, c1]) (by rw [a2 h3, c2 h3']) e.2.symm (by rw [a1', c1'])
def Msg.bare (m : Msg) : Msg := { m with ep := none }
theorem eqM.bare {m n : Msg} (e : eqM m n) : n.bare = m.bare := by
  rw [e]
  rfl
open Classical in
/-- the message that bytes are -/
noncomputable def mOf (b : List Int) : Option Msg := if h : ∃ m, Enc b m then some (Classical.choose h).bare else none
theorem mOf_enc {b : List Int} {m : Msg} (e : Enc b m) : mOf b = some m.bare := by
  have ex : ∃ m, Enc b m := ⟨m, e⟩
  rw [mOf, dif_pos ex, (enc_uniq e (Classical.choose_spec ex)).bare]
theorem mOf_no {b : List Int} (d : ∀ m, ¬ Enc b m) : mOf b = none := by
  rw [mOf, dif_neg]
  rintro ⟨m, hm⟩
  exact d m hm
theorem mOf_some {b : List Int} {n : Msg} (e : mOf b = some n) : ∃ m, Enc b m ∧ n = m.bare := by
  by_cases ex : ∃ m, Enc b m
  · obtain ⟨m, hm⟩ := ex
    rw [mOf_enc hm] at e
    injection e with e
    exact ⟨m, hm, e.symm⟩
  · rw [mOf_no (fun m hm => ex ⟨m, hm⟩)] at e
    cases e
def ofG (m : Grm) : GV := ⟨m.cn, m.k, m.sq, m.ak, m.cd, m.bd⟩
theorem eqG.ofG {m n : Grm} (e : eqG m n) : ofG n = ofG m := by
  rw [e]
  rfl
open Classical in
/-- the datagram that bytes are -/
noncomputable def gOf (b : List Int) : Option GV := if h : (unV b).2.2 = 0 ∧ ∃ m, EncG (unV b).2.1 (unV b).1 m then some (ofG (Classical.choose h.2)) else none
theorem gOf_enc {b : List Int} {m : Grm} (u : (unV b).2.2 = 0) (e : EncG (unV b).2.1 (unV b).1 m) : gOf b = some (ofG m) := by
  have ex : (unV b).2.2 = 0 ∧ ∃ m, EncG (unV b).2.1 (unV b).1 m := ⟨u, m, e⟩
  rw [gOf, dif_pos ex, (encG_uniq e (Classical.choose_spec ex.2)).ofG]
theorem unV_e (b : List Int) : (unV b).2.2 = 0 ∨ (unV b).2.2 = 2 ∨ (unV b).2.2 = 3 := by
  unfold unV
  split
  · exact .inr (.inl rfl)
  · split
    · exact .inr (.inr rfl)
    · split
      · exact .inr (.inl rfl)
      · exact .inl rfl
/-- what a reading tells -/
theorem GDec.of {b : List Int} {m1 : Grm} {e : Int} (d : GDec b m1 e) : (e = 0 ∧ gOf b = some (ofG m1) ∧ EncG (unV b).2.1 (unV b).1 m1) ∨ ((e = 2 ∨ e = 3) ∧ gOf b = none) := by
  rcases d with ⟨d0, rfl, _⟩ | ⟨d0, ⟨rfl, d1, _⟩ | ⟨rfl, _, d1⟩⟩
  · refine .inr ⟨(unV_e b).resolve_left d0, ?_⟩
    rw [gOf, dif_neg]
    exact fun k => d0 k.1
  · exact .inl ⟨rfl, gOf_enc d0 d1, d1⟩
  · refine .inr ⟨.inl rfl, ?_⟩
    rw [gOf, dif_neg]
    rintro ⟨_, m, hm⟩
    exact d1 m hm
theorem EncG.seq {body : List Int} {kd : Int} {m : Grm} (e : EncG body kd m) : inI m.sq := by
  by_cases h1 : m.k = 1
  · have f := e.fit
    rw [gparts, gtail_1 h1] at f
    simp only [fitP, List.all_cons, Bool.and_eq_true, decide_eq_true_eq] at f
    have f1 := f.2.1
    have : ((2 : Int) ^ (8 * 4)) = 4294967296 := rfl
    exact ⟨by show (-9223372036854775808 : Int) ≤ _; omega, by show _ ≤ (9223372036854775807 : Int); omega⟩
  · rw [(e.c1 h1).1]
    exact i64_in (by omega) (by omega)
/-- what is written is what it is -/
theorem gOf_encG {g : Grm} (o : gEncOk g = true) : gOf (encG g) = some (ofG (canonG g)) := by
  have u := un_encG o
  have e : EncG (unV (encG g)).2.1 (unV (encG g)).1 (canonG g) := by
    rw [u]
    exact canonG_enc o
  exact gOf_enc (by rw [u]) e
/-- messages in a row, as they lie -/
def Msgs (h : H) (lo : Nat) (q : Option (Nat × Nat)) (L : List Msg) : Prop := ∃ G : List Msg, RoSl h q L.length 9 (G.flatMap Msg.cells) ∧ (∀ m ∈ G, m.ok h ∧ ∀ i o, m.ep = some (i, o) → lo ≤ i) ∧ G.map Msg.bare = L
noncomputable def gotV (l : List (List Int)) : List Msg := l.filterMap mOf
def recvX (v : DV) (g : GV) : Bool := v.live && decide (g.conn = v.conn)
noncomputable def rcvO (v : DV) (cv : CV) (now : Int) : Option GV → List (List Int) × List Msg
  | none => ([], [])
  | some g => if recvX v g = true ∧ g.kind ≠ 3 then ((recvV cv now g).1.2.map encV, gotV (recvV cv now g).1.1) else ([], [])
noncomputable def rcvD (v : DV) (cv : CV) (now : Int) : Option GV → DV
  | none => v
  | some g => if recvX v g = true then (if g.kind = 3 then { v with live := false, why := g.code } else (gotV (recvV cv now g).1.1).foldl hearD v) else v
def rcvC (v : DV) (cv : CV) (now : Int) : Option GV → CV
  | none => cv
  | some g => if recvX v g = true ∧ g.kind ≠ 3 then (recvV cv now g).2 else cv
def DRecvQ (h : H) (di : Nat) (d : CId) (po : Option (Nat × Nat)) (v : DV) (cv : CV) (now : Int) (og : Option GV) (r : V) (h' : H) : Prop :=
  ∃ q1 q2 po', r = .tup [.sl q1 (rcvO v cv now og).1.length, .sl q2 (rcvO v cv now og).2.length] ∧ Rws h' q1 (rcvO v cv now og).1 ∧ Msgs h' h.next q2 (rcvO v cv now og).2 ∧ DrS h' di d po' (rcvD v cv now og) (rcvC v cv now og) ∧ (∀ i, inSl po' i → inSl po i ∨ h.next ≤ i) ∧ Ab.Mod (drAll di d po) h h'
theorem ins_all {β : Type} {P : β → Prop} {C : List (Int × β)} (s : ∀ x ∈ C, P x.2) {b : β} (hb : P b) (k : Int) : ∀ x ∈ insS C k b, P x.2 := fun x hx => by
  rw [insS, List.mem_append, List.mem_cons] at hx
  rcases hx with hx | rfl | hx
  · exact s x (List.mem_filter.1 hx).1
  · exact hb
  · exact s x (List.mem_filter.1 hx).1
theorem recv_ln {cv : CV} (s : ∀ x ∈ cv.C, x.2.length ≤ 100000) (now : Int) {g : GV} (hb : g.body.length ≤ 100000) : (∀ x ∈ (recvV cv now g).2.C, x.2.length ≤ 100000) ∧ ∀ b ∈ (recvV cv now g).1.1, b.length ≤ 100000 := by
  have key : (∀ b ∈ (tkV (recvS cv g).W cv.N cv.C g.seq g.body).2.1, b.length ≤ 100000) ∧ ∀ x ∈ (tkV (recvS cv g).W cv.N cv.C g.seq g.body).2.2.2, x.2.length ≤ 100000 := by
    unfold tkV
    split
    · exact chn_got (P := fun b : List Int => b.length ≤ 100000) _ _ (ins_all (P := fun b : List Int => b.length ≤ 100000) s hb g.seq)
    · exact ⟨fun b k => (by cases k), s⟩
  unfold recvV
  split
  · exact ⟨s, fun b k => (by cases k)⟩
  · constructor
    · show ∀ x ∈ (recvM cv g).C, x.2.length ≤ 100000
      unfold recvM
      split
      · exact key.2
      · exact s
    · show ∀ b ∈ (if g.kind = 1 then (tkV (recvS cv g).W cv.N cv.C g.seq g.body).2.1 else []), b.length ≤ 100000
      split
      · exact key.1
      · exact fun b k => (by cases k)
theorem recv_cg {cv : CV} (g : CG cv) (hN : cv.cnt ≤ 1000000) (now : Int) {gg : GV} (hg : GO gg) : CG (recvV cv now gg).2 := ⟨recv_cok g.ok now gg, (recv_ov g.ok g.ov (by omega) now hg).1, (recv_ln g.ln now hg.len).1⟩
theorem push_cg {cv : CV} (g : CG cv) (hN : cv.cnt ≤ 1000000) (now : Int) {b : List Int} (hb : Oct b) (hl : b.length ≤ 100000) : CG (pushV cv now b).2 := ⟨push_cok g.ok now hl, (push_ov g.ok g.ov (by omega) now hb hl).1, by
  unfold pushV
  split
  · exact g.ln
  · split
    · exact g.ln
    · exact g.ln⟩
theorem pass_cg {cv : CV} (g : CG cv) (hN : cv.cnt ≤ 1000000) (now : Int) : CG (passV cv now).2 := ⟨pass_cok g.ok now, (pass_ov g.ok g.ov (by omega) now).1, by
  unfold passV
  split
  · exact g.ln
  · exact g.ln⟩
theorem gotV_snoc {l : List (List Int)} {j : Nat} (hj : j < l.length) : gotV (l.take (j + 1)) = gotV (l.take j) ++ (mOf l[j]).toList := by
  rw [List.take_succ_eq_append_getElem hj, gotV, List.filterMap_append]
  congr 1
theorem Msg.ok.by {S : Nat → Prop} {h h' : H} {m : Msg} (o : m.ok h) (k : Ab.Mod S h h') (hS : ∀ i o, m.ep = some (i, o) → m.es = [] ∨ ¬ S i) : m.ok h' := by
  obtain ⟨⟨h1, h2⟩, h3⟩ := o
  refine ⟨⟨h1, ?_⟩, h3⟩
  rcases h2 with h2 | ⟨i, o, o', r, e1, e2, e3⟩
  · exact .inl h2
  · rcases hS i o e1 with q | q
    · exact .inl ⟨by rw [q]; rfl, .inr rfl⟩
    · exact .inr ⟨i, o, o', r, e1, k.get e2 (.inl q), e3⟩
theorem Msg.ok.lt {h : H} {m : Msg} (o : m.ok h) : ∀ i c, m.ep = some (i, c) → m.es = [] ∨ i < h.next := fun i c e => by
  rcases o.1.2 with ⟨r, _⟩ | ⟨i', c', b, cs, e1, e2, _⟩
  · exact .inl (List.length_eq_zero_iff.1 r)
  · rw [e] at e1
    injection e1 with e1
    injection e1 with e1
    subst e1
    exact .inr (h.lt _ _ e2)
theorem Msg.ok.ro {h : H} {m : Msg} (o : m.ok h) (i : Nat) : m.ok (h.ro i) := ⟨SlIs.ro_weak o.1 i, o.2⟩
theorem DrS.ro {h : H} {di : Nat} {d : CId} {po : Option (Nat × Nat)} {v : DV} {cv : CV} (s : DrS h di d po v cv) {i : Nat} (hi : ¬ drAll di d po i) : DrS (h.ro i) di d po v cv := by
  obtain ⟨⟨pw, h1, h2⟩, h3, h4⟩ := s
  exact ⟨⟨pw, by rw [H.ro_ne _ (fun k => hi (.inl k.symm)), h1], h2.ro i⟩, h3.ro (fun k => hi (.inr k)), h4⟩
set_option maxHeartbeats 2000000 in
theorem dRecv {h : H} {di : Nat} {d : CId} {po : Option (Nat × Nat)} {v : DV} {cv : CV} (s : DrS h di d po v cv) (g : CG cv) (hN : cv.cnt ≤ 1000000) (hNt : cv.N ≤ 1000000) {now : Int} (hn0 : -1000000000 ≤ now) (hn1 : now ≤ 1000000000) {p : Option (Nat × Nat)} {n : Nat} {b : List Int} (ob : SlIs h p n false 1 (ints .u8 b)) (bb : Bts b) (hn : n ≤ 800000) (hf : ∀ gg : GV, (recvV cv now gg).1.2.length ≤ 100000) :
    ACalls Tryz.prog 21 [.ptr (some (di, 0)), i64 now, .sl p n] h (DRecvQ h di d po v cv now (gOf b)) := by
  refine ACalls.ro (Q := fun r h' => ∃ (q1 q2 po' : Option (Nat × Nat)) (G : List Msg) (h3 : H), r = .tup [.sl q1 (rcvO v cv now (gOf b)).1.length, .sl q2 G.length] ∧ Rws h' q1 (rcvO v cv now (gOf b)).1 ∧ NewSl h3 h' q2 G.length 9 (G.flatMap Msg.cells) ∧ (∀ m ∈ G, m.ok h' ∧ ∀ i o, m.ep = some (i, o) → h.next ≤ i) ∧ G.map Msg.bare = (rcvO v cv now (gOf b)).2 ∧ DrS h' di d po' (rcvD v cv now (gOf b)) (rcvC v cv now (gOf b)) ∧ (∀ i, inSl po' i → inSl po i ∨ h.next ≤ i) ∧ (∀ i, drAll di d po' i → i < h3.next) ∧ h.next ≤ h3.next ∧ Ab.Mod (one di) h3 h' ∧ Ab.Mod (drAll di d po) h h') ?_ (by
    rintro r h' ⟨q1, q2, po', G, h3, rfl, rw1, ng, ho, hG, sd, hp, hlt, hh3, hm3, m⟩
    obtain ⟨i, a1, a2, a3⟩ := NewSl.freeze ng hm3
    have hGL : G.length = (rcvO v cv now (gOf b)).2.length := by rw [← hG, List.length_map]
    refine ⟨i, q1, q2, po', by rw [hGL], rw1.ro i, ⟨G, by rw [← hGL]; exact a2, fun m hm => ⟨(ho m hm).1.ro i, (ho m hm).2⟩, hG⟩, sd.ro (fun k => ?_), hp, m.ro_new (Nat.le_trans hh3 a1)⟩
    have := hlt i k
    omega)
  refine call_ Tryz.func21 rfl rfl (by kernel_rfl) ?_
  conv => whnf
  refine (gdec51 ob bb hn).mono ?_
  rintro _ h1 ⟨m1, e, rfl, ok1, mg, gd, rob⟩
  have s1 := s.old mg
  conv => whnf
  refine ⟨_, rfl, ?_⟩
  conv => whnf
  refine ⟨_, rfl, ?_⟩
  conv => whnf
  obtain ⟨g0, gx, mx⟩ := lay_row (h := h1) (sz := 6) [i64 0, i64 0, i64 0, i64 0, i64 0, .sl none 0] m1.cells
  refine ⟨_, _, g0, Nat.le_of_ble_eq_true rfl, ?_⟩
  conv => whnf
  refine ⟨[0, 1, 2, 3, 4, 5, 6, 7, 8, 9, 10, 11, 12, 13, 14, 15], [0, 1, 3, 7, 15, 31, 63, 127, 255, 511, 255, 1279, 3327, 7423, 16383, 32767], by kernel_rfl, ?_⟩
  rcases gd.of with ⟨rfl, eo, enc⟩ | ⟨he, eo⟩
  rotate_left
  · have sx := s1.old mx
    have nay : ∀ hh, DrS hh di d po v cv → Ab.Mod none_ h hh → ∃ (q1 q2 po' : Option (Nat × Nat)) (G : List Msg) (h3 : H), V.tup [.sl none 0, .sl none 0] = .tup [.sl q1 (rcvO v cv now (gOf b)).1.length, .sl q2 G.length] ∧ Rws hh q1 (rcvO v cv now (gOf b)).1 ∧ NewSl h3 hh q2 G.length 9 (G.flatMap Msg.cells) ∧ (∀ m ∈ G, m.ok hh ∧ ∀ i o, m.ep = some (i, o) → h.next ≤ i) ∧ G.map Msg.bare = (rcvO v cv now (gOf b)).2 ∧ DrS hh di d po' (rcvD v cv now (gOf b)) (rcvC v cv now (gOf b)) ∧ (∀ i, inSl po' i → inSl po i ∨ h.next ≤ i) ∧ (∀ i, drAll di d po' i → i < h3.next) ∧ h.next ≤ h3.next ∧ Ab.Mod (one di) h3 hh ∧ Ab.Mod (drAll di d po) h hh := fun hh sc m => by
      rw [eo]
      exact ⟨none, none, po, [], hh, rfl, rws_nil _, NewSl.nil _ _ _, (fun x hx => by cases hx), rfl, sc, fun _ k => .inl k, fun i hi => sc.lt hi, m.next, mod_refl _ _, m.mono (fun _ _ k => k.elim)⟩
    rcases he with rfl | rfl
    · conv => whnf
      exact nay _ sx (mod_none mg mx)
    · conv => whnf
      exact nay _ sx (mod_none mg mx)
  have sx := s1.old mx
  have mo := mod_none mg mx
  have gok : GO (ofG m1) := ⟨ok1.2.1, enc.seq, ok1.2.2⟩
  have nay : recvX v (ofG m1) = false → ∀ hh, DrS hh di d po v cv → Ab.Mod none_ h hh → ∃ (q1 q2 po' : Option (Nat × Nat)) (G : List Msg) (h3 : H), V.tup [.sl none 0, .sl none 0] = .tup [.sl q1 (rcvO v cv now (gOf b)).1.length, .sl q2 G.length] ∧ Rws hh q1 (rcvO v cv now (gOf b)).1 ∧ NewSl h3 hh q2 G.length 9 (G.flatMap Msg.cells) ∧ (∀ m ∈ G, m.ok hh ∧ ∀ i o, m.ep = some (i, o) → h.next ≤ i) ∧ G.map Msg.bare = (rcvO v cv now (gOf b)).2 ∧ DrS hh di d po' (rcvD v cv now (gOf b)) (rcvC v cv now (gOf b)) ∧ (∀ i, inSl po' i → inSl po i ∨ h.next ≤ i) ∧ (∀ i, drAll di d po' i → i < h3.next) ∧ h.next ≤ h3.next ∧ Ab.Mod (one di) h3 hh ∧ Ab.Mod (drAll di d po) h hh := fun hx hh sc m => by
    rw [eo]
    have e1 : rcvO v cv now (some (ofG m1)) = ([], []) := by rw [rcvO, hx]; rfl
    have e2 : rcvD v cv now (some (ofG m1)) = v := by rw [rcvD, hx]; rfl
    have e3 : rcvC v cv now (some (ofG m1)) = cv := by rw [rcvC, hx]; rfl
    rw [e1, e2, e3]
    exact ⟨none, none, po, [], hh, rfl, rws_nil _, NewSl.nil _ _ _, (fun x hx => by cases hx), rfl, sc, fun _ k => .inl k, fun i hi => sc.lt hi, m.next, mod_refl _ _, m.mono (fun _ _ k => k.elim)⟩
  conv => whnf
  refine (dLive sx.b).mono ?_
  rintro _ h2 ⟨eh, rfl⟩
  have eh : h2 = _ := eh
  rw [← eh] at sx mx gx mo
  clear eh
  cases el : v.live with
  | false =>
    conv => whnf
    exact nay (by rw [recvX, el]; rfl) _ sx mo
  | true =>
  obtain ⟨pw, b1, b2⟩ := sx.box
  conv => whnf
  refine ⟨_, Cell.mk gx rfl, ?_⟩
  conv => whnf
  refine ⟨_, Cell.mk b1 rfl, ?_⟩
  conv => whnf
  refine br_mk (fun hc => ?_) (fun hc => ?_)
  · have hc : ¬ m1.cn = v.conn := by simpa using hc
    conv => whnf
    exact nay (by rw [recvX, el, decide_eq_false (show ¬ (ofG m1).conn = v.conn from hc)]; rfl) _ sx mo
  have hc : m1.cn = v.conn := by simpa using hc
  have hX : recvX v (ofG m1) = true := by rw [recvX, el, decide_eq_true (show (ofG m1).conn = v.conn from hc)]; rfl
  conv => whnf
  refine ⟨_, Cell.mk gx rfl, ?_⟩
  conv => whnf
  refine br_mk (fun h3 => ?_) (fun h3 => ?_)
  · have h3 : m1.k = 3 := by simpa using h3
    have hk : (ofG m1).kind = 3 := h3
    have e1 : rcvO v cv now (some (ofG m1)) = ([], []) := by rw [rcvO, if_neg (fun k => k.2 hk)]
    have e2 : rcvD v cv now (some (ofG m1)) = { v with live := false, why := m1.cd } := by rw [rcvD, if_pos hX, if_pos hk]; rfl
    have e3 : rcvC v cv now (some (ofG m1)) = cv := by rw [rcvC, if_neg (fun k => k.2 hk)]
    conv => whnf
    refine ⟨[0, 1, 2, 3, 4, 5, 6, 7, 8, 9], [0, 0, 0, 4, 1, 17, 49, 127, 255, 511], by kernel_rfl, ?_⟩
    conv => whnf
    refine ⟨_, Cell.mk gx rfl, ?_⟩
    conv => whnf
    refine ⟨_, _, b1, Nat.le_of_ble_eq_true rfl, ?_⟩
    conv => whnf
    obtain ⟨s4, m4, b4, w4⟩ := sx.set (cs := drow v (.ptr (some (d.c, 0))) pw) b1 (v' := { v with live := false }) (pw' := pw) b2
    have hne : h1.next ≠ di := fun k => by
      have := (h.lt _ _ (s.box.choose_spec).1)
      have := mg.next
      omega
    refine ⟨⟨_, Cell.mk (m4.get gx (.inl hne)) rfl, rfl⟩, ?_⟩
    conv => whnf
    refine ⟨_, _, b4, Nat.le_of_ble_eq_true rfl, ?_⟩
    conv => whnf
    obtain ⟨s5, m5, b5, w5⟩ := s4.set (cs := drow { v with live := false } (.ptr (some (d.c, 0))) pw) b4 (v' := { v with live := false, why := m1.cd }) (pw' := pw) w4
    have m45 := m4.trans' m5 (S2 := one di) (fun _ _ k => k) (fun _ _ k => k)
    have mF := mo.trans' m45 (S2 := drAll di d po) (fun _ _ k => k.elim) (fun _ _ k => .inl k)
    rw [eo, e1, e2, e3]
    exact ⟨none, none, po, [], _, rfl, rws_nil _, NewSl.nil _ _ _, (fun x hx => by cases hx), rfl, s5, fun _ k => .inl k, fun i hi => s5.lt hi, mF.next, mod_refl _ _, mF⟩
  have h3 : ¬ m1.k = 3 := by simpa using h3
  have hk : (ofG m1).kind ≠ 3 := h3
  have e1 : rcvO v cv now (some (ofG m1)) = ((recvV cv now (ofG m1)).1.2.map encV, gotV (recvV cv now (ofG m1)).1.1) := by rw [rcvO, if_pos ⟨hX, hk⟩]
  have e2 : rcvD v cv now (some (ofG m1)) = (gotV (recvV cv now (ofG m1)).1.1).foldl hearD v := by rw [rcvD, if_pos hX, if_neg hk]
  have e3 : rcvC v cv now (some (ofG m1)) = (recvV cv now (ofG m1)).2 := by rw [rcvC, if_pos ⟨hX, hk⟩]
  rw [eo, e1, e2, e3]
  clear nay e1 e2 e3
  conv => whnf
  refine ⟨[0, 1, 2, 3, 4, 5, 6, 7, 8, 9, 10, 11], [0, 1, 3, 7, 0, 0, 63, 127, 255, 255, 511, 2047], by kernel_rfl, ?_⟩
  conv => whnf
  refine ⟨_, Cell.mk b1 rfl, ?_⟩
  conv => whnf
  refine ⟨m1.cells, Cells.mk gx (Nat.le_of_ble_eq_true rfl) rfl, ?_⟩
  conv => whnf
  have hcnt : cv.s.N + cv.O.length ≤ 1000000 := hN
  refine (cRecv sx.ch g.ok (by omega) hNt hn0 hn1 (g := ofG m1) (p := m1.bp) (fun h' m' => RoSl.is ((rob.get mx).get m')) gok.seq gok.len).mono ?_
  rintro _ h3 ⟨q3, qg, po3, rfl, rw3, gr, c3, hp3, m3⟩
  have pov := recv_ov g.ok g.ov (by omega) now gok
  have s3 : DrS h3 di d po3 v (recvV cv now (ofG m1)).2 := ⟨⟨pw, m3.get b1 (.inl sx.sep), b2.get m3⟩, c3, fun k => by
    rcases k with k | k
    · exact sx.sep (.inl k)
    · rcases hp3 di k with k | k
      · exact sx.sep (.inr k)
      · have := sx.lt (i := di) (.inl rfl)
        omega⟩
  have mo3 : Ab.Mod (drAll di d po) h h3 := mo.trans' m3 (S2 := drAll di d po) (fun _ _ k => k.elim) (fun _ _ k => .inr k)
  conv => whnf
  refine ⟨_, rfl, ?_⟩
  conv => whnf
  refine ⟨_, rfl, ?_⟩
  conv => whnf
  have bl := (recv_ln g.ln now gok.len).2
  have bo := pov.2.1
  have bn := pov.2.2.2.2.2.2
  obtain ⟨⟨⟨B, GL⟩, cv2⟩, eR⟩ : ∃ x, recvV cv now (ofG m1) = x := ⟨_, rfl⟩
  have hfR := hf (ofG m1)
  rw [eR] at bl bo bn rw3 gr s3 pov hfR ⊢
  have bl : ∀ b ∈ B, b.length ≤ 100000 := bl
  have bo : ∀ b ∈ B, Oct b := bo
  have bn : B.length ≤ 16 := bn
  have rw3 : Rws h3 q3 B := rw3
  have gr : Grams h3 qg GL := gr
  have hfR : GL.length ≤ 100000 := hfR
  have s3 : DrS h3 di d po3 v cv2 := s3
  have pov : ∀ g' ∈ GL, GO g' := pov.2.2.1
  have hdi3 : ∀ i, drAll di d po3 i → i < h3.next := fun i hi => s3.lt hi
  refine ⟨fun env hh => ∃ (j : Nat) (z : Int) (pq : Option (Nat × Nat)) (G : List Msg), j ≤ B.length ∧ z = j ∧ G.length ≤ j ∧ NewSl h3 hh pq G.length 9 (G.flatMap Msg.cells) ∧ (∀ m ∈ G, m.ok hh ∧ ∀ i o, m.ep = some (i, o) → h3.next ≤ i ∧ (m.es = [] ∨ ¬ inSl pq i)) ∧ G.map Msg.bare = gotV (B.take j) ∧ DrS hh di d po3 ((gotV (B.take j)).foldl hearD v) cv2 ∧ Ab.Mod (one di) h3 hh ∧ env = [(60, i64 z), (59, i64 B.length), (58, .sl q3 B.length), (11, .sl qg GL.length), (7, .sl pq G.length), (0, .ptr (some (di, 0)))],
    fun env _ => match get env 60 with
      | .int _ z => ((B.length : Int) - z).toNat
      | _ => 0, ⟨_, Forget.cons rfl (Forget.cons rfl (Forget.cons rfl (Forget.cons rfl (Forget.cons rfl (Forget.cons rfl (Forget.nil _)))))), 0, _, none, [], Nat.zero_le _, rfl, Nat.le_refl _, NewSl.nil _ _ _, fun x hx => (by cases hx), rfl, s3, mod_refl _ _, rfl⟩, ?_⟩
  rintro _ hh ⟨j, z, pq, G, hj, rfl, hGj, no, ho, hG, sj, mj, rfl⟩
  conv => whnf
  refine br_mk (fun hd => ?_) (fun hd => ?_)
  rotate_left
  · conv => whnf
    have hd : ¬ j < B.length := by simpa using hd
    obtain rfl : j = B.length := by omega
    rw [List.take_length] at hG sj
    refine (dgrams41 (gr.get mj) (fun x hx => go_body (pov x hx)) hfR).mono ?_
    rintro _ h5 ⟨q5, rfl, rw5, m5⟩
    have hh3 : h.next ≤ h3.next := mo3.next
    exact ⟨q5, pq, po3, G, h3, by rw [List.length_map], rw5, NewSl.kept no m5, fun m hm => ⟨(ho m hm).1.old m5 (fun _ _ k => k), fun i o e => Nat.le_trans hh3 ((ho m hm).2 i o e).1⟩, hG, sj.old m5, fun i hi => (hp3 i hi).elim .inl (fun k => .inr (Nat.le_trans mo.next k)), hdi3, hh3, mj.trans' m5 (S2 := one di) (fun _ _ k => k) (fun _ _ k => k.elim), mo3.trans' (mj.trans' m5 (S2 := one di) (fun _ _ k => k) (fun _ _ k => k.elim)) (fun _ _ k => k) (fun _ _ k => .inl k)⟩
  have hd : j < B.length := by simpa using hd
  obtain ⟨i1, c1, p1, f1, f2, f3⟩ := (rw3.get mj).cell hd
  have bj := bl _ (List.getElem_mem hd)
  have oj := bo _ (List.getElem_mem hd)
  conv => whnf
  refine ⟨i1, c1, j, f1, rfl, hd, ?_⟩
  conv => whnf
  refine ⟨_, f2, ?_⟩
  conv => whnf
  refine (dec43 f3.is (oct_bts oj) bj).mono ?_
  rintro _ h6 ⟨m2, ok2, rfl, okm, m6, da, hep⟩
  conv => whnf
  refine ⟨_, rfl, ?_⟩
  conv => whnf
  refine ⟨_, rfl, ?_⟩
  conv => whnf
  obtain ⟨g0', gx', mx'⟩ := lay_row (h := h6) (sz := 9) [i64 0, i64 0, i64 0, .sl none 0, i64 0, i64 0, i64 0, i64 0, i64 0] m2.cells
  refine ⟨_, _, g0', Nat.le_of_ble_eq_true rfl, ?_⟩
  conv => whnf
  have mn := mod_none m6 mx'
  have no2 := NewSl.kept no mn
  have ho2 : ∀ m ∈ G, m.ok _ ∧ ∀ i o, m.ep = some (i, o) → h3.next ≤ i ∧ (m.es = [] ∨ ¬ inSl pq i) := fun m hm => ⟨(ho m hm).1.old mn (fun _ _ k => k), (ho m hm).2⟩
  have sj2 := sj.old mn
  have mj2 := mj.trans' mn (S2 := one di) (fun _ _ k => k) (fun _ _ k => k.elim)
  cases ok2 with
  | false =>
    have em : gotV (B.take (j + 1)) = gotV (B.take j) := by
      rw [gotV_snoc hd]
      rcases da with ⟨q, _⟩ | ⟨_, _, q⟩
      · cases q
      · rw [mOf_no q]
        simp
    rw [← em] at hG sj2
    conv => whnf
    rw [succ_i64 hd (by omega)]
    refine ⟨_, Forget.cons rfl (Forget.cons rfl (Forget.cons rfl (Forget.cons rfl (Forget.cons rfl (Forget.cons rfl (Forget.nil _)))))), ⟨j + 1, _, pq, G, hd, rfl, by omega, no2, ho2, hG, sj2, mj2, rfl⟩, ?_⟩
    show ((B.length : Int) - ((j + 1 : Nat) : Int)).toNat < ((B.length : Int) - (j : Int)).toNat
    omega
  | true =>
    have em : gotV (B.take (j + 1)) = gotV (B.take j) ++ [m2.bare] := by
      rw [gotV_snoc hd]
      rcases da with ⟨_, q, _⟩ | ⟨q, _, _⟩
      · rw [mOf_enc q]
        rfl
      · cases q
    have okx := okm.old mx' (fun _ _ k => k)
    conv => whnf
    refine ⟨m2.cells, Cells.mk gx' (Nat.le_of_ble_eq_true rfl) rfl, ?_⟩
    conv => whnf
    have hlt6 : di < h3.next := hdi3 di (.inl rfl)
    have hn6 : h3.next ≤ h6.next := Nat.le_trans mj.next m6.next
    refine (dHears sj2 m2 okx).mono ?_
    rintro _ h7 ⟨s7, m7⟩
    have gx7 := m7.get gx' (.inl (fun k => by have k : h6.next = di := k; omega))
    have no7 : NewSl h3 h7 pq G.length 9 (G.flatMap Msg.cells) := NewSl.keep no2 m7 (fun i k => by have k : i = di := k; omega)
    have okk : ∀ (m : Msg) (hx : H), m.ok hx → (∀ i o, m.ep = some (i, o) → h3.next ≤ i) → ∀ hy, Ab.Mod (one di) hx hy → m.ok hy := fun m hx o1 o2 hy mm => ⟨o1.1.get mm (fun i o e => .inl (fun k => by have k : i = di := k; have := o2 i o e; omega)), o1.2⟩
    have hep' : ∀ i o, m2.ep = some (i, o) → h3.next ≤ i := fun i o e => by
      have := hep i o e
      have := mj.next
      omega
    have ok7 := okk m2 _ okx hep' _ m7
    have ho7 : ∀ m ∈ G, m.ok h7 ∧ ∀ i o, m.ep = some (i, o) → h3.next ≤ i ∧ (m.es = [] ∨ ¬ inSl pq i) := fun m hm => ⟨okk m _ (ho2 m hm).1 (fun i o e => ((ho2 m hm).2 i o e).1) _ m7, (ho2 m hm).2⟩
    have mj7 := mj2.trans' m7 (S2 := one di) (fun _ _ k => k) (fun _ _ k => k)
    conv => whnf
    refine ⟨m2.cells, Cells.mk gx7 (Nat.le_of_ble_eq_true rfl) rfl, ?_⟩
    conv => whnf
    obtain ⟨y1, y2, y3⟩ := app1 no7 mj7 m2.cells rfl
    refine ⟨_, _, y1, y2, by rw [show (T.at_ 37).bytes = 88 from rfl]; omega, by omega, fun p' h' hs hm hf' => ?_⟩
    obtain ⟨ng, mg', my⟩ := y3 p' h' hs hm hf'
    have e6 : G.flatMap Msg.cells ++ m2.cells = (G ++ [m2]).flatMap Msg.cells := by simp
    rw [e6] at ng
    have elen : (G ++ [m2]).length = G.length + 1 := by simp
    rw [← elen] at ng ⊢
    conv => whnf
    rw [succ_i64 hd (by omega)]
    have hq7 : ∀ i, inSl pq i → i < hh.next := fun i k => SlIs.own_lt no.1 k
    have dis : ∀ m ∈ G ++ [m2], m.ok h' ∧ ∀ i o, m.ep = some (i, o) → h3.next ≤ i ∧ (m.es = [] ∨ ¬ inSl p' i) := fun m hm => by
      have both : m.ok h7 ∧ ∀ i o, m.ep = some (i, o) → h3.next ≤ i ∧ (m.es = [] ∨ ¬ inSl pq i) := by
        rcases List.mem_append.1 hm with hm | hm
        · exact ho7 m hm
        · rw [List.mem_singleton.1 hm]
          exact ⟨ok7, fun i o e => ⟨hep' i o e, .inr (fun k => by
            have := hep i o e
            have := hq7 i k
            omega)⟩⟩
      refine ⟨both.1.by my (fun i o e => (both.2 i o e).2), fun i o e => ⟨(both.2 i o e).1, ?_⟩⟩
      rcases (both.2 i o e).2 with q | q
      · exact .inl q
      · rcases both.1.lt i o e with q2 | q2
        · exact .inl q2
        · refine .inr (fun k => ?_)
          obtain ⟨o', k⟩ := k
          rcases hf' i o' k with k2 | k2
          · exact q ⟨o', k2 ▸ k⟩
          · have k2 : h7.next + 1 ≤ i := k2
            omega
    have sF : DrS h' di d po3 ((gotV (B.take (j + 1))).foldl hearD v) cv2 := by
      rw [em, List.foldl_append]
      exact s7.get my (fun i hi k => by
        have := hdi3 i hi
        have := no.2 i _ k.choose_spec
        omega)
    refine ⟨_, Forget.cons rfl (Forget.cons rfl (Forget.cons rfl (Forget.cons rfl (Forget.cons rfl (Forget.cons rfl (Forget.nil _)))))), ⟨j + 1, _, p', G ++ [m2], hd, rfl, by omega, ng, dis, by rw [em, List.map_append, hG]; rfl, sF, mg', rfl⟩, ?_⟩
    show ((B.length : Int) - ((j + 1 : Nat) : Int)).toNat < ((B.length : Int) - (j : Int)).toNat
    omega
theorem paysV_len (now : Int) : ∀ (O : List (List Int)) (s : SV), (paysV now s O).1.length ≤ O.length
  | [], s => Nat.le_refl _
  | b :: O, s => by
    rw [paysV]
    split
    · have := paysV_len now O (sendV s now b).2
      simpa using this
    · exact Nat.zero_le _
theorem push_len {cv : CV} (o : COk cv) (now : Int) (b : List Int) : (pushV cv now b).1.1.length ≤ 100000 := by
  have h1 := o.o
  unfold pushV
  split
  · exact Nat.zero_le _
  · split
    · exact Nat.zero_le _
    · have := paysV_len now (cv.O ++ [b]) cv.s
      rw [List.length_append] at this
      show ((paysV now cv.s (cv.O ++ [b])).1.map (pg cv)).length ≤ _
      rw [List.length_map]
      have e : [b].length = 1 := rfl
      omega
theorem pass_len {cv : CV} (o : COk cv) (now : Int) : (passV cv now).1.1.length ≤ 100000 := by
  have h1 := o.o
  have h2 := again_len o.s now
  unfold passV
  split
  · have := paysV_len now cv.O (passM cv now).s
    show (List.map _ _ ++ List.map _ _).length ≤ _
    rw [List.length_append, List.length_map, List.length_map]
    omega
  · exact Nat.zero_le _
theorem recv_len {cv : CV} (o : COk cv) (now : Int) (g : GV) : (recvV cv now g).1.2.length ≤ 100000 := by
  have h1 := o.o
  unfold recvV
  split
  · exact Nat.zero_le _
  · have := paysV_len now cv.O (recvM cv g).s
    show ((if g.kind = 1 then _ else _) ++ List.map _ _).length ≤ _
    rw [List.length_append, List.length_map]
    split
    · show 1 + _ ≤ _
      omega
    · show 0 + _ ≤ _
      omega
section
variable {h : H} {di : Nat} {v : DV}
theorem dFollow0 (s : DrB h di v) (el : v.live = false) (now : Int) : ACalls Tryz.prog 12 [.ptr (some (di, 0)), i64 now] h (fun r h' => r = .tup [.sl none 0, i64 4] ∧ h' = h) := by
  refine call_ Tryz.func12 rfl rfl (by kernel_rfl) ?_
  conv => whnf
  refine (dLive s).mono ?_
  rintro _ h1 ⟨eh, rfl⟩
  subst eh
  rw [el]
  conv => whnf
  exact ⟨rfl, rfl⟩
theorem dReport0 (s : DrB h di v) (el : v.live = false) (now p : Int) : ACalls Tryz.prog 10 [.ptr (some (di, 0)), i64 now, i64 p] h (fun r h' => r = .tup [.sl none 0, i64 4] ∧ h' = h) := by
  refine call_ Tryz.func10 rfl rfl (by kernel_rfl) ?_
  conv => whnf
  refine (dLive s).mono ?_
  rintro _ h1 ⟨eh, rfl⟩
  subst eh
  rw [el]
  conv => whnf
  exact ⟨rfl, rfl⟩
theorem dTick0 (s : DrB h di v) (el : v.live = false) (now : Int) : ACalls Tryz.prog 16 [.ptr (some (di, 0)), i64 now] h (fun r h' => r = .sl none 0 ∧ h' = h) := by
  refine call_ Tryz.func16 rfl rfl (by kernel_rfl) ?_
  conv => whnf
  refine (dLive s).mono ?_
  rintro _ h1 ⟨eh, rfl⟩
  subst eh
  rw [el]
  conv => whnf
  exact ⟨rfl, rfl⟩
theorem dStart0 (h : H) (now a n : Int) : ACalls Tryz.prog 8 [.ptr none, i64 now, i64 a, i64 n] h (fun r h' => r = .tup [.sl none 0, i64 4] ∧ h' = h) := by
  refine call_ Tryz.func8 rfl rfl (by kernel_rfl) ?_
  conv => whnf
  exact ⟨rfl, rfl⟩
theorem DrB.old {h' : H} (s : DrB h di v) (m : Ab.Mod none_ h h') : DrB h' di v := by
  obtain ⟨ch, pw, h1, h2⟩ := s
  exact ⟨ch, pw, m.get h1 (.inl (fun k => k)), h2.get m⟩
theorem dRecv0 (s : DrB h di v) (el : v.live = false) (now : Int) {p : Option (Nat × Nat)} {n : Nat} {b : List Int} (ob : SlIs h p n false 1 (ints .u8 b)) (bb : Bts b) (hn : n ≤ 800000) : ACalls Tryz.prog 21 [.ptr (some (di, 0)), i64 now, .sl p n] h (fun r h' => r = .tup [.sl none 0, .sl none 0] ∧ Ab.Mod none_ h h') := by
  refine call_ Tryz.func21 rfl rfl (by kernel_rfl) ?_
  conv => whnf
  refine (gdec51 ob bb hn).mono ?_
  rintro _ h1 ⟨m1, e, rfl, ok1, mg, gd, rob⟩
  conv => whnf
  refine ⟨_, rfl, ?_⟩
  conv => whnf
  refine ⟨_, rfl, ?_⟩
  conv => whnf
  obtain ⟨g0, gx, mx⟩ := lay_row (h := h1) (sz := 6) [i64 0, i64 0, i64 0, i64 0, i64 0, .sl none 0] m1.cells
  refine ⟨_, _, g0, Nat.le_of_ble_eq_true rfl, ?_⟩
  conv => whnf
  have sx := (s.old mg).old mx
  have mo := mod_none mg mx
  refine ⟨[0, 1, 2, 3, 4, 5, 6, 7, 8, 9, 10, 11, 12, 13, 14, 15], [0, 1, 3, 7, 15, 31, 63, 127, 255, 511, 255, 1279, 3327, 7423, 16383, 32767], by kernel_rfl, ?_⟩
  rcases gd.of with ⟨rfl, eo, enc⟩ | ⟨he, eo⟩
  rotate_left
  · rcases he with rfl | rfl
    · conv => whnf
      exact ⟨rfl, mo⟩
    · conv => whnf
      exact ⟨rfl, mo⟩
  conv => whnf
  refine (dLive sx).mono ?_
  rintro _ h2 ⟨eh, rfl⟩
  have eh : h2 = _ := eh
  rw [← eh] at mo
  clear eh
  rw [el]
  conv => whnf
  exact ⟨rfl, mo⟩
end
theorem rst_ok : gEncOk ⟨1, 3, 0, 0, 1, none, []⟩ = true := by decide +kernel
theorem rst_of : gOf (encG ⟨1, 3, 0, 0, 1, none, []⟩) = some ⟨1, 3, 0, 0, 1, []⟩ := by
  rw [gOf_encG rst_ok]
  rfl
/-- a new channel, and its first message under way -/
def CV.one (c : Cfg) (k now : Int) (b : List Int) : CV := ⟨⟨c.win, 1, false, [(0, b)], c.base, c.cap, c.retry, [(0, now + waitV c.base c.cap 0, 0)]⟩, 0, [], k, []⟩
theorem push_new {c : Cfg} (hw : 1 ≤ c.win) (k now : Int) (b : List Int) : pushV (CV.new c k) now b = (([⟨k, 1, 0, 0, 0, b⟩], 0), CV.one c k now b) := by
  have hr : 0 < roomOf (CV.new c k).s := by
    show 0 < (if false = true then 0 else c.win - ((0 : Nat) : Int))
    rw [if_neg (by decide)]
    omega
  have hp : paysV now (CV.new c k).s [b] = ([(0, b)], ⟨c.win, 1, false, [(0, b)], c.base, c.cap, c.retry, [(0, now + waitV c.base c.cap 0, 0)]⟩, []) := by
    have hs : sendV (CV.new c k).s now b = ((0, 0), ⟨c.win, 1, false, [(0, b)], c.base, c.cap, c.retry, [(0, now + waitV c.base c.cap 0, 0)]⟩) := by
      rw [sendV, if_neg (show ¬ (CV.new c k).s.ov = true from fun h => by cases h), if_neg (show ¬ ((CV.new c k).s.C.length : Int) = (CV.new c k).s.W by show ¬ ((0 : Nat) : Int) = c.win; omega)]
      rfl
    rw [paysV, if_pos hr, hs]
    rfl
  rw [pushV, if_neg (show ¬ (CV.new c k).s.ov = true from fun h => by cases h), if_neg (show ¬ 64 ≤ (CV.new c k).O.length from fun h => absurd h (show ¬ 64 ≤ 0 by decide))]
  have e : (CV.new c k).O ++ [b] = [b] := rfl
  rw [e, hp]
  rfl
theorem okCfg_win {c : Cfg} (ok : okCfg c = true) : 1 ≤ c.win := by
  simp only [okCfg, Bool.and_eq_true] at ok
  have := inR_iff.1 ok.1.1.1.1.2
  omega
theorem one_cg {c : Cfg} {k : Int} (ok : okCh c k = true) (now : Int) {b : List Int} (hb : Oct b) (hl : b.length ≤ 100000) : CG (CV.one c k now b) := by
  have hw : 1 ≤ c.win := by
    simp only [okCh, Bool.and_eq_true] at ok
    exact okCfg_win ok.1
  have := push_cg (cv := CV.new c k) ⟨new_cok ok, new_ov _ _, fun x hx => (by cases hx)⟩ (show ((0 : Int) + ((0 : Nat) : Int)) ≤ 1000000 by decide) now hb hl
  rw [push_new hw] at this
  exact this
theorem startR_one {v : DV} (ok : okCfg v.c = true) (now a n : Int) : startR v now a n = (([⟨v.conn + 1, 1, 0, 0, 0, encB (openM a n)⟩], 0), CV.one v.c (v.conn + 1) now (encB (openM a n))) := push_new (okCfg_win ok) _ _ _
theorem openM_len (a n : Int) : (encB (openM a n)).length ≤ 100000 := by
  rw [encB]
  split
  · have e : bytesP (parts (openM a n)) = be 1 1 ++ (be a 2 ++ (be n 2 ++ [])) := rfl
    rw [e]
    simp [be_length]
  · exact Nat.zero_le _
set_option maxHeartbeats 1000000 in
theorem awake6 (h : H) : ACalls Tryz.prog 4 [] h (fun r h' => r = .bool true) := by
  have ok : okCfg ⟨1, 4, 0, 3, 3, 5⟩ = true := rfl
  refine call_ Tryz.func4 rfl rfl (by kernel_rfl) ?_
  conv => whnf
  obtain ⟨g0, gx, mx⟩ := lay_row (h := h) (sz := 6) [i64 0, i64 0, i64 0, i64 0, i64 0, i64 0] (Cfg.cells ⟨1, 4, 0, 3, 3, 5⟩)
  refine ⟨_, _, g0, Nat.le_of_ble_eq_true rfl, ?_⟩
  conv => whnf
  refine ⟨Cfg.cells ⟨1, 4, 0, 3, 3, 5⟩, Cells.mk gx (Nat.le_of_ble_eq_true rfl) rfl, ?_⟩
  conv => whnf
  refine (dNew _ ⟨1, 4, 0, 3, 3, 5⟩).mono ?_
  rintro _ h1 (⟨q, _⟩ | ⟨_, di, rfl, s1, _, m1⟩)
  · rw [ok] at q
    cases q
  conv => whnf
  refine ⟨_, rfl, ?_⟩
  conv => whnf
  refine ⟨_, rfl, ?_⟩
  conv => whnf
  refine (dNew _ ⟨0, 0, 0, 0, 0, 0⟩).mono ?_
  rintro _ h2 (⟨_, rfl, m2⟩ | ⟨q, _⟩)
  rotate_left
  · exact absurd q (by decide)
  have s2 := s1.get m2 (fun k => k)
  conv => whnf
  refine ⟨_, rfl, ?_⟩
  conv => whnf
  refine ⟨_, rfl, ?_⟩
  conv => whnf
  refine (dFollow0 s2.b rfl 0).mono ?_
  rintro _ h3 ⟨rfl, eh⟩
  subst eh
  conv => whnf
  refine ⟨_, rfl, ?_⟩
  conv => whnf
  refine ⟨_, rfl, ?_⟩
  conv => whnf
  have eS := startR_one (v := DV.new ⟨1, 4, 0, 3, 3, 5⟩) ok 0 1 2
  have cg4 := one_cg (c := ⟨1, 4, 0, 3, 3, 5⟩) (k := 1) (by decide) 0 (encB_oct (openM 1 2)) (by decide +kernel)
  have eS : startR (DV.new ⟨1, 4, 0, 3, 3, 5⟩) 0 1 2 = (([⟨1, 1, 0, 0, 0, encB (openM 1 2)⟩], 0), CV.one ⟨1, 4, 0, 3, 3, 5⟩ 1 0 (encB (openM 1 2))) := eS
  refine (dStart s2.b ok ⟨by decide, by decide⟩ (now := 0) (by decide) (by decide) 1 2 (fun b => push_len (new_cok (by decide)) _ _) (by decide +kernel)).mono ?_
  rintro _ h4 (⟨q, _⟩ | ⟨_, _, d, q4, po, rfl, rw4, s4, hn4, m4⟩)
  · exact absurd q (by decide)
  rw [eS] at rw4 s4 ⊢
  conv => whnf
  refine ⟨_, rfl, ?_⟩
  conv => whnf
  refine ⟨_, rfl, ?_⟩
  conv => whnf
  have s4 : DrS h4 di d po (startD (DV.new ⟨1, 4, 0, 3, 3, 5⟩) 1) (CV.one ⟨1, 4, 0, 3, 3, 5⟩ 1 0 (encB (openM 1 2))) := s4
  refine (dStart s4.b ok ⟨by decide, by decide⟩ (now := 0) (by decide) (by decide) (-1) 2 (fun b => push_len (new_cok (by decide)) _ _) (by decide +kernel)).mono ?_
  rintro _ h5 (⟨_, rfl, eh⟩ | ⟨q, _⟩)
  rotate_left
  · exact absurd q (by decide)
  subst eh
  conv => whnf
  refine ⟨_, rfl, ?_⟩
  conv => whnf
  refine ⟨_, rfl, ?_⟩
  conv => whnf
  refine (gref50 ⟨1, 3, 0, 0, 1, none, []⟩ ⟨SlIs.nil _ _ _, (fun _ k => by cases k), Nat.zero_le _⟩).mono ?_
  rintro _ h6 ⟨q6, rfl, o6, m6⟩
  have s6 := s4.old m6
  conv => whnf
  refine ⟨_, rfl, ?_⟩
  conv => whnf
  refine ⟨_, rfl, ?_⟩
  conv => whnf
  refine (dLive s6.b).mono ?_
  rintro _ h7 ⟨eh, rfl⟩
  subst eh
  conv => whnf
  refine (dRecv s6 cg4 (by decide) (by decide) (now := 1) (by decide) (by decide) o6.is (encG_bts (fun _ k => by cases k)) (Nat.le_trans (encG_len _) (by decide)) (fun g => recv_len cg4.ok _ _)).mono ?_
  rw [rst_of]
  rintro _ h8 ⟨q8, q9, po8, rfl, rw8, ms8, s8, _, m8⟩
  conv => whnf
  refine ⟨_, rfl, ?_⟩
  conv => whnf
  refine ⟨_, rfl, ?_⟩
  conv => whnf
  refine (dStart0 h8 0 0 0).mono ?_
  rintro _ h9 ⟨rfl, eh⟩
  subst eh
  conv => whnf
  refine ⟨_, rfl, ?_⟩
  conv => whnf
  refine ⟨_, rfl, ?_⟩
  have eD : rcvD (startD (DV.new ⟨1, 4, 0, 3, 3, 5⟩) 1) (CV.one ⟨1, 4, 0, 3, 3, 5⟩ 1 0 (encB (openM 1 2))) 1 (some ⟨1, 3, 0, 0, 1, []⟩) = { startD (DV.new ⟨1, 4, 0, 3, 3, 5⟩) 1 with live := false, why := 1 } := rfl
  rw [eD] at s8
  conv => whnf
  refine (dLive s8.b).mono ?_
  rintro _ h10 ⟨eh, rfl⟩
  subst eh
  conv => whnf
  refine (dWhy s8.b).mono ?_
  rintro _ h11 ⟨eh, rfl⟩
  subst eh
  conv => whnf
  refine (dConn s8.b).mono ?_
  rintro _ h12 ⟨eh, rfl⟩
  subst eh
  conv => whnf
  refine (dAt s8.b).mono ?_
  rintro _ h13 ⟨eh, rfl⟩
  subst eh
  conv => whnf
  refine (dAt0 _).mono ?_
  rintro _ h14 ⟨eh, rfl⟩
  subst eh
  conv => whnf
  refine (dLive0 _).mono ?_
  rintro _ h15 ⟨eh, rfl⟩
  subst eh
  conv => whnf
  rfl
theorem round45 {m : Int} (hm : 0 < m) (hm2 : m ≤ 72057594037927936) (x : Int) (h : H) : ACalls Tryz.prog 54 [i64 x, i64 m] h (fun r h' => h' = h ∧ r = i64 (x % m)) := by
  have hr := tmod_round (x := x) hm
  refine call_ Tryz.func54 rfl rfl (by kernel_rfl) ?_
  conv => whnf
  refine ⟨by omega, ?_⟩
  conv => whnf
  refine br_mk (fun ha => ?_) (fun ha => ?_)
  · conv => whnf
    have ha : x.tmod m < 0 := by simpa using ha
    rw [if_pos ha] at hr
    have h1 := Int.emod_nonneg x (show m ≠ 0 by omega)
    have h2 := Int.emod_lt_of_pos x hm
    exact ⟨rfl, by rw [wrap_i64 (by omega) (by omega), hr]⟩
  · conv => whnf
    have ha : ¬ x.tmod m < 0 := by simpa using ha
    rw [if_neg ha] at hr
    exact ⟨rfl, by rw [hr]⟩
theorem at26 {h : H} {p : Option (Nat × Nat)} {n : Nat} {l : List Int} (s : SlIs h p n false 1 (ints .i64 l)) (hn : n ≤ 100) {i m : Int} (h0 : 0 ≤ i) (h1 : i ≤ 1000) (hm : 0 < m) (hm2 : m ≤ 100000) : ACalls Tryz.prog 31 [.sl p n, i64 i, i64 m] h (fun r h' => h' = h ∧ ∃ x, r = i64 x ∧ 0 ≤ x ∧ x < m) := by
  have hl := slo_len s
  refine call_ Tryz.func31 rfl rfl (by kernel_rfl) ?_
  conv => whnf
  refine br_mk (fun ha => ?_) (fun ha => ?_)
  · conv => whnf
    exact ⟨rfl, 0, rfl, Int.le_refl _, hm⟩
  have ha : ¬ n = 0 := by simpa using ha
  conv => whnf
  refine ⟨[0, 1, 2, 3, 4, 5, 6, 7, 8, 9, 10, 11, 12, 13, 14, 15], [0, 0, 0, 4, 14, 31, 63, 127, 0, 0, 512, 1792, 4095, 0, 16383, 32767], by kernel_rfl, ?_⟩
  conv => whnf
  refine ⟨by omega, ?_⟩
  have e1 : i.tmod (n : Int) = i % (n : Int) := Int.tmod_eq_emod_of_nonneg h0
  have r0 := Int.emod_nonneg i (show (n : Int) ≠ 0 by omega)
  have r1 := Int.emod_lt_of_pos i (show (0 : Int) < n by omega)
  rw [e1]
  obtain ⟨j, hj⟩ := Int.eq_ofNat_of_zero_le r0
  rw [hj] at r1 ⊢
  have r1 : j < n := by omega
  obtain ⟨i1, c1, f1, f2⟩ := slo_get s r1
  conv => whnf
  refine ⟨i1, c1, j, f1, rfl, r1, ?_⟩
  conv => whnf
  refine ⟨_, f2, ?_⟩
  conv => whnf
  refine ⟨by decide, ?_⟩
  conv => whnf
  refine ⟨by omega, ?_⟩
  conv => whnf
  refine (round45 hm (by omega) _ h).mono ?_
  rintro _ h2 ⟨eh, rfl⟩
  subst eh
  conv => whnf
  exact ⟨rfl, _, rfl, Int.emod_nonneg _ (by omega), Int.emod_lt_of_pos _ hm⟩
set_option maxHeartbeats 1000000 in
theorem small8 {h : H} {p : Option (Nat × Nat)} {n : Nat} {l : List Int} (s : SlIs h p n false 1 (ints .i64 l)) (hn : n ≤ 100) : ACalls Tryz.prog 5 [.sl p n] h (fun r h' => ∃ c : Cfg, r = .agg c.cells ∧ okCfg c = true ∧ Ab.Mod none_ h h') := by
  refine call_ Tryz.func5 rfl rfl (by kernel_rfl) ?_
  conv => whnf
  have mP := Mod.push none_ h (.row true 6 [i64 0, i64 0, i64 0, i64 0, i64 0, i64 0])
  have gP : (h.push (.row true 6 [i64 0, i64 0, i64 0, i64 0, i64 0, i64 0])).obj h.next = some (.row true 6 [i64 0, i64 0, i64 0, i64 0, i64 0, i64 0]) := H.obj_push_new _ _
  have s1 := SlIs.old s mP (fun _ _ k => k)
  refine (at26 s1 hn (i := 0) (m := 3) (by decide) (by decide) (by decide) (by decide)).mono ?_
  rintro _ h1 ⟨eh, a, rfl, a0, a1⟩
  have eh1 : h1 = _ := eh
  rw [← eh1] at s1
  conv => whnf
  refine (at26 s1 hn (i := 1) (m := 4) (by decide) (by decide) (by decide) (by decide)).mono ?_
  rintro _ h2 ⟨eh2, b, rfl, b0, b1⟩
  rw [← eh2] at s1
  conv => whnf
  refine (at26 s1 hn (i := 2) (m := 5) (by decide) (by decide) (by decide) (by decide)).mono ?_
  rintro _ h3 ⟨eh3, c, rfl, c0, c1⟩
  rw [← eh3] at s1
  conv => whnf
  refine (at26 s1 hn (i := 3) (m := 6) (by decide) (by decide) (by decide) (by decide)).mono ?_
  rintro _ h4 ⟨eh4, d, rfl, d0, d1⟩
  rw [← eh4] at s1
  have E : h4 = h.push (.row true 6 [i64 0, i64 0, i64 0, i64 0, i64 0, i64 0]) := by rw [eh4, eh3, eh2, eh1]
  rw [← E] at mP gP
  clear E eh4 eh3 eh2 eh1 eh
  conv => whnf
  rw [wrap_i64 (x := 1 + a) (by omega) (by omega), wrap_i64 (x := 1 + b) (by omega) (by omega), wrap_i64 (x := 1 + d) (by omega) (by omega)]
  obtain ⟨g0, gx, mx⟩ := lay_row (h := h4) (sz := 6) [i64 0, i64 0, i64 0, i64 0, i64 0, i64 0] [i64 (1 + a), i64 (1 + b), i64 c, i64 (1 + d), i64 0, i64 0]
  refine ⟨_, _, g0, Nat.le_of_ble_eq_true rfl, ?_⟩
  have s5 := SlIs.old s1 mx (fun _ _ k => k)
  conv => whnf
  refine ⟨[0, 1, 2, 3, 4, 5, 6], [0, 1, 0, 4, 15, 31, 63], by kernel_rfl, ?_⟩
  conv => whnf
  refine ⟨_, Cell.mk gx rfl, ?_⟩
  conv => whnf
  refine (at26 s5 hn (i := 4) (m := 10) (by decide) (by decide) (by decide) (by decide)).mono ?_
  rintro _ h5 ⟨eh5, e, rfl, e0, e1⟩
  rw [← eh5] at s5 gx mx
  conv => whnf
  refine ⟨⟨_, Cell.mk gx rfl, rfl⟩, ?_⟩
  conv => whnf
  rw [wrap_i64 (x := 1 + d + e) (by omega) (by omega)]
  refine ⟨_, _, gx, Nat.le_of_ble_eq_true rfl, ?_⟩
  have hn4 : h.next < h4.next := h4.lt _ _ gP
  have hbo : ∀ i, i < h4.next → one h4.next i → none_ i := fun i hi k => absurd hi (by unfold one at k; omega)
  have mS := Mod.set (S := one h4.next) (ob := .row true 6 [i64 (1 + a), i64 (1 + b), i64 c, i64 (1 + d), i64 (1 + d + e), i64 0]) rfl gx rfl
  have gS := H.obj_set_same (ob' := .row true 6 [i64 (1 + a), i64 (1 + b), i64 c, i64 (1 + d), i64 (1 + d + e), i64 0]) gx
  have mx2 := mx.trans' mS (S2 := none_) (fun _ _ k => k) hbo
  have s6 := SlIs.old s1 mx2 (fun _ _ k => k)
  conv => whnf
  refine (at26 s6 hn (i := 5) (m := 120) (by decide) (by decide) (by decide) (by decide)).mono ?_
  rintro _ h6 ⟨eh6, f, rfl, f0, f1⟩
  rw [← eh6] at gS mx2
  conv => whnf
  rw [wrap_i64 (x := 5 + f) (by omega) (by omega)]
  refine ⟨_, _, gS, Nat.le_of_ble_eq_true rfl, ?_⟩
  have mT := Mod.set (S := one h4.next) (ob := .row true 6 [i64 (1 + a), i64 (1 + b), i64 c, i64 (1 + d), i64 (1 + d + e), i64 (5 + f)]) rfl gS rfl
  have gT := H.obj_set_same (ob' := .row true 6 [i64 (1 + a), i64 (1 + b), i64 c, i64 (1 + d), i64 (1 + d + e), i64 (5 + f)]) gS
  have mx3 := mx2.trans' mT (S2 := none_) (fun _ _ k => k) hbo
  have gP3 := mx3.get gP (.inl (fun k => k))
  conv => whnf
  refine ⟨_, Cells.mk gT (Nat.le_of_ble_eq_true rfl) rfl, ?_⟩
  conv => whnf
  refine ⟨_, _, gP3, Nat.le_of_ble_eq_true rfl, ?_⟩
  have mU := Mod.set (S := one h.next) (ob := .row true 6 (Cfg.cells ⟨1 + a, 1 + b, c, 1 + d, 1 + d + e, 5 + f⟩)) rfl gP3 rfl
  have gU := H.obj_set_same (ob' := .row true 6 (Cfg.cells ⟨1 + a, 1 + b, c, 1 + d, 1 + d + e, 5 + f⟩)) gP3
  have mF := (mod_none mP mx3).trans' mU (S2 := none_) (fun _ _ k => k) (fun i hi k => absurd hi (by unfold one at k; omega))
  conv => whnf
  refine ⟨_, Cells.mk gU (Nat.le_of_ble_eq_true rfl) rfl, ?_⟩
  conv => whnf
  refine ⟨⟨1 + a, 1 + b, c, 1 + d, 1 + d + e, 5 + f⟩, rfl, ?_, mF⟩
  simp only [okCfg, Bool.and_eq_true]
  exact ⟨⟨⟨⟨⟨inR_iff.2 ⟨by show 1 ≤ 1 + a; omega, by show 1 + a ≤ 16; omega⟩, inR_iff.2 ⟨by show 1 ≤ 1 + b; omega, by show 1 + b ≤ 16; omega⟩⟩, inR_iff.2 ⟨c0, by show c ≤ 20; omega⟩⟩, inR_iff.2 ⟨by show 1 ≤ 1 + d; omega, by show 1 + d ≤ 1000; omega⟩⟩, inR_iff.2 ⟨by show 1 + d ≤ 1 + d + e; omega, by show 1 + d + e ≤ 1000; omega⟩⟩, inR_iff.2 ⟨by show 1 ≤ 5 + f; omega, by show 5 + f ≤ 1000; omega⟩⟩
end Go.Proofs.YtmififfaljihgaaGreat
