/- A message, and a datagram, that bytes are: at most one. -/
import Derived.Test.YtmififfaljihgaaD6
set_option linter.unusedVariables false
namespace Go.Proofs.Ytmififfaljihgaa
open Go Go.Ab
theorem be_inj {k : Nat} (h1 : 1 ≤ k) (h7 : k ≤ 7) {x y : Int} (hx : 0 ≤ x ∧ x < 2 ^ (8 * k)) (hy : 0 ≤ y ∧ y < 2 ^ (8 * k)) {r s : List Int} (e : be x k ++ r = be y k ++ s) : x = y ∧ r = s := by
  obtain ⟨_, a2, a3⟩ := read_num h1 h7 hx.1 hx.2 r
  obtain ⟨_, b2, b3⟩ := read_num h1 h7 hy.1 hy.2 s
  rw [e] at a2 a3
  exact ⟨a3.symm.trans b3, a2.symm.trans b2⟩
theorem bytesP_inj : ∀ (ps qs : List (Nat × Int)) (r s : List Int), (∀ p ∈ ps, 1 ≤ p.1 ∧ p.1 ≤ 7) → ps.map Prod.fst = qs.map Prod.fst → fitP ps = true → fitP qs = true → bytesP ps ++ r = bytesP qs ++ s → ps = qs ∧ r = s
  | [], [], r, s, _, _, _, _, e => ⟨rfl, e⟩
  | [], q :: qs, r, s, _, e, _, _, _ => by cases e
  | p :: ps, [], r, s, _, e, _, _, _ => by cases e
  | p :: ps, q :: qs, r, s, hk, e, f1, f2, eb => by
    simp only [fitP, List.all_cons, Bool.and_eq_true, decide_eq_true_eq] at f1 f2
    rw [List.map_cons, List.map_cons] at e
    injection e with e1 e2
    have hp := hk p (by simp)
    obtain ⟨pk, pv⟩ := p
    obtain ⟨qk, qv⟩ := q
    have e1 : pk = qk := e1
    subst e1
    have eb : be pv pk ++ (bytesP ps ++ r) = be qv pk ++ (bytesP qs ++ s) := by
      rw [← List.append_assoc, ← List.append_assoc]
      exact eb
    obtain ⟨g1, g2⟩ := be_inj hp.1 hp.2 f1.1 f2.1 eb
    have g1 : pv = qv := g1
    obtain ⟨g3, g4⟩ := bytesP_inj ps qs r s (fun x hx => hk x (by simp [hx])) e2 f1.2 f2.2 g2
    exact ⟨by rw [g1, g3], g4⟩
theorem enc_uniq {b : List Int} {m n : Msg} (a : Enc b m) (c : Enc b n) : eqM m n := by
  have am := a.ok
  have cm := c.ok
  rw [encOk, Bool.and_eq_true] at am cm
  have hk : m.k = n.k ∧ bytesP (tailP m) = bytesP (tailP n) := by
    have f1 := am.2
    have f2 := cm.2
    simp only [fitP, parts, List.all_cons, Bool.and_eq_true, decide_eq_true_eq] at f1 f2
    exact be_inj (k := 1) (by decide) (by decide) f1.1 f2.1 (a.is.trans c.is.symm)
  have t1 : fitP (tailP m) = true := by
    have f1 := am.2
    simp only [fitP, parts, List.all_cons, Bool.and_eq_true, decide_eq_true_eq] at f1
    exact f1.2
  have t2 : fitP (tailP n) = true := by
    have f1 := cm.2
    simp only [fitP, parts, List.all_cons, Bool.and_eq_true, decide_eq_true_eq] at f1
    exact f1.2
  obtain ⟨hk, hb⟩ := hk
  have ca := a.can
  have cb := c.can
  have key : (tailP m).map Prod.fst = (tailP n).map Prod.fst → (∀ p ∈ tailP m, 1 ≤ p.1 ∧ p.1 ≤ 7) → tailP m = tailP n := fun e e2 => (bytesP_inj _ _ [] [] e2 e t1 t2 (by rw [hb])).1
  by_cases h1 : m.k = 1
  · have h1' : n.k = 1 := hk ▸ h1
    rw [tailP_1 h1, tailP_1 h1'] at key
    have e := key rfl (by simp)
    simp only [List.cons.injEq, Prod.mk.injEq, true_and, and_true] at e
    exact eqM.mk hk.symm e.1.symm e.2.symm (by rw [(ca.r (by omega)).1, (cb.r (by omega)).1]) (by rw [(ca.r (by omega)).2, (cb.r (by omega)).2]) (by rw [(ca.n (by omega)).1, (cb.n (by omega)).1]) (by rw [(ca.n (by omega)).2.1, (cb.n (by omega)).2.1]) (by rw [(ca.n (by omega)).2.2.1, (cb.n (by omega)).2.2.1]) (by rw [(ca.n (by omega)).2.2.2, (cb.n (by omega)).2.2.2])
  have h1' : ¬ n.k = 1 := hk ▸ h1
  have ed : n.d = m.d := by rw [ca.d h1, cb.d h1']
  by_cases h7 : m.k = 7
  · have h7' : n.k = 7 := hk ▸ h7
    rw [tailP_7 h7] at t1
    rw [tailP_7 h7'] at t2
    rw [tailP_7 h7, tailP_7 h7'] at key
    have e := key rfl (by simp)
    simp only [List.cons.injEq, Prod.mk.injEq, true_and, and_true] at e
    obtain ⟨e1, e2, e3, e4⟩ := e
    simp only [fitP, List.all_cons, Bool.and_eq_true, decide_eq_true_eq] at t1 t2
    have lim : ∀ z : Int, -9223372036854775808 ≤ z → z ≤ 9223372036854775807 → 0 ≤ IntKind.i64.wrap (z + 1) → IntKind.i64.wrap (z + 1) = z + 1 := fun z z1 z2 z3 => by
      by_cases hx : z = 9223372036854775807
      · rw [hx] at z3
        have : IntKind.i64.wrap (9223372036854775807 + 1) = -9223372036854775808 := rfl
        omega
      · exact wrap_i64 (by omega) (by omega)
    have e2 : n.e = m.e := by
      have w1 := lim m.e a.e1 a.e2 t1.2.1.1
      have w2 := lim n.e c.e1 c.e2 t2.2.1.1
      omega
    exact eqM.mk hk.symm (by rw [ca.p h1 (by omega) (by omega), cb.p h1' (by omega) (by omega)]) ed (by rw [(ca.r (by omega)).1, (cb.r (by omega)).1]) (by rw [(ca.r (by omega)).2, (cb.r (by omega)).2]) e1.symm e2 e3.symm e4.symm
  have h7' : ¬ n.k = 7 := hk ▸ h7
  obtain ⟨n1, n2, n3, n4⟩ := ca.n h7
  obtain ⟨m1, m2, m3, m4⟩ := cb.n h7'
  by_cases h5 : m.k = 5
  · have h5' : n.k = 5 := hk ▸ h5
    rw [tailP_5 h5] at t1 hb
    rw [tailP_5 h5'] at t2 hb
    have t1' := t1
    have t2' := t2
    simp only [fitP, List.all_cons, Bool.and_eq_true, decide_eq_true_eq] at t1' t2'
    have hb : be m.w 5 ++ (be (m.es.length : Int) 2 ++ bytesP (m.es.map fun v => (2, v))) = be n.w 5 ++ (be (n.es.length : Int) 2 ++ bytesP (n.es.map fun v => (2, v))) := hb
    obtain ⟨g1, g2⟩ := be_inj (k := 5) (by decide) (by decide) t1'.1 t2'.1 hb
    obtain ⟨g3, g4⟩ := be_inj (k := 2) (by decide) (by decide) t1'.2.1 t2'.2.1 g2
    have g3 : m.es.length = n.es.length := by omega
    have ee := (bytesP_inj (m.es.map fun v => (2, v)) (n.es.map fun v => (2, v)) [] [] (fun p hp => by
      obtain ⟨v, _, rfl⟩ := List.mem_map.1 hp
      exact ⟨(by decide : (1 : Nat) ≤ 2), (by decide : (2 : Nat) ≤ 7)⟩) (by
      rw [List.map_map, List.map_map]
      show m.es.map (fun _ => 2) = n.es.map (fun _ => 2)
      rw [List.map_const', List.map_const', g3]) t1'.2.2 t2'.2.2 (by rw [g4])).1
    have es : m.es = n.es := by
      have := congrArg (List.map Prod.snd) ee
      rw [List.map_map, List.map_map] at this
      simpa [Function.comp_def] using this
    exact eqM.mk hk.symm (by rw [ca.p h1 (by omega) (by omega), cb.p h1' (by omega) (by omega)]) ed es.symm g1.symm (by rw [n1, m1]) (by rw [n2, m2]) (by rw [n3, m3]) (by rw [n4, m4])
  have h5' : ¬ n.k = 5 := hk ▸ h5
  obtain ⟨r1, r2⟩ := ca.r h5
  obtain ⟨s1, s2⟩ := cb.r h5'
  refine eqM.mk hk.symm ?_ ed (by rw [r1, s1]) (by rw [r2, s2]) (by rw [n1, m1]) (by rw [n2, m2]) (by rw [n3, m3]) (by rw [n4, m4])
  by_cases h2 : m.k = 2 ∨ m.k = 9
  · have h2' : n.k = 2 ∨ n.k = 9 := hk ▸ h2
    rw [tailP_2 h2, tailP_2 h2'] at key
    have e := key rfl (by simp)
    simp only [List.cons.injEq, Prod.mk.injEq, true_and, and_true] at e
    exact e.symm
  · rw [ca.p h1 (by omega) (by omega), cb.p h1' (by omega) (by omega)]
theorem encG_uniq {body : List Int} {kd : Int} {m n : Grm} (a : EncG body kd m) (c : EncG body kd n) : eqG m n := by
  have hk : m.k = n.k := a.k.trans c.k.symm
  have hK : 1 ≤ m.k ∧ m.k ≤ 3 := by simpa [gknd] using a.kn
  have f1 := a.fit
  have f2 := c.fit
  have hb : bytesP (gparts m) ++ gbody m = bytesP (gparts n) ++ gbody n := a.is.trans c.is.symm
  have key : (gparts m).map Prod.fst = (gparts n).map Prod.fst → (∀ p ∈ gparts m, 1 ≤ p.1 ∧ p.1 ≤ 7) → gparts m = gparts n ∧ gbody m = gbody n := fun e e2 => bytesP_inj _ _ _ _ e2 e f1 f2 hb
  have a3 := a.c3
  have c3 := c.c3
  have a1 := a.c1
  have c1 := c.c1
  have a2 := a.c2
  have c2 := c.c2
  by_cases h1 : m.k = 1
  · have h1' : n.k = 1 := hk ▸ h1
    rw [gparts, gparts, gtail_1 h1, gtail_1 h1', gbody_1 h1, gbody_1 h1'] at key
    obtain ⟨e, eb⟩ := key rfl (by simp)
    simp only [List.cons.injEq, Prod.mk.injEq, true_and, and_true] at e
    exact eqG.mk e.1.symm hk.symm e.2.1.symm e.2.2.symm (by rw [a3 (by omega), c3 (by omega)]) eb.symm
  have h1' : ¬ n.k = 1 := hk ▸ h1
  obtain ⟨a1, a1'⟩ := a1 h1
  obtain ⟨c1, c1'⟩ := c1 h1'
  by_cases h2 : m.k = 2
  · have h2' : n.k = 2 := hk ▸ h2
    rw [gparts, gparts, gtail_2 h2, gtail_2 h2'] at key
    obtain ⟨e, eb⟩ := key rfl (by simp)
    simp only [List.cons.injEq, Prod.mk.injEq, true_and, and_true] at e
    exact eqG.mk e.1.symm hk.symm (by rw [a1, c1]) e.2.symm (by rw [a3 (by omega), c3 (by omega)]) (by rw [a1', c1'])
  have h3 : m.k = 3 := by omega
  have h3' : n.k = 3 := hk ▸ h3
  rw [gparts, gparts, gtail_3 h3, gtail_3 h3'] at key
  obtain ⟨e, eb⟩ := key rfl (by simp)
  simp only [List.cons.injEq, Prod.mk.injEq, true_and, and_true] at e
  exact eqG.mk e.1.symm hk.symm (by rw [a1, c1]) (by rw [a2 h3, c2 h3']) e.2.symm (by rw [a1', c1'])
def Msg.bare (m : Msg) : Msg := { m with ep := none }
theorem eqM.bare {m n : Msg} (e : eqM m n) : n.bare = m.bare := by
  rw [e]
  rfl
open Classical in
/-- the message that bytes are -/
noncomputable def mOf (b : List Int) : Option Msg := if h : ∃ m, Enc b m then some (Classical.choose h).bare else none
theorem mOf_enc {b : List Int} {m : Msg} (e : Enc b m) : mOf b = some m.bare := by
  have ex : ∃ m, Enc b m := ⟨m, e⟩
  rw [mOf, dif_pos ex, (enc_uniq e (Classical.choose_spec ex)).bare]
theorem mOf_no {b : List Int} (d : ∀ m, ¬ Enc b m) : mOf b = none := by
  rw [mOf, dif_neg]
  rintro ⟨m, hm⟩
  exact d m hm
theorem mOf_some {b : List Int} {n : Msg} (e : mOf b = some n) : ∃ m, Enc b m ∧ n = m.bare := by
  by_cases ex : ∃ m, Enc b m
  · obtain ⟨m, hm⟩ := ex
    rw [mOf_enc hm] at e
    injection e with e
    exact ⟨m, hm, e.symm⟩
  · rw [mOf_no (fun m hm => ex ⟨m, hm⟩)] at e
    cases e
def ofG (m : Grm) : GV := ⟨m.cn, m.k, m.sq, m.ak, m.cd, m.bd⟩
theorem eqG.ofG {m n : Grm} (e : eqG m n) : ofG n = ofG m := by
  rw [e]
  rfl
open Classical in
/-- the datagram that bytes are -/
noncomputable def gOf (b : List Int) : Option GV := if h : (unV b).2.2 = 0 ∧ ∃ m, EncG (unV b).2.1 (unV b).1 m then some (ofG (Classical.choose h.2)) else none
theorem gOf_enc {b : List Int} {m : Grm} (u : (unV b).2.2 = 0) (e : EncG (unV b).2.1 (unV b).1 m) : gOf b = some (ofG m) := by
  have ex : (unV b).2.2 = 0 ∧ ∃ m, EncG (unV b).2.1 (unV b).1 m := ⟨u, m, e⟩
  rw [gOf, dif_pos ex, (encG_uniq e (Classical.choose_spec ex.2)).ofG]
theorem unV_e (b : List Int) : (unV b).2.2 = 0 ∨ (unV b).2.2 = 2 ∨ (unV b).2.2 = 3 := by
  unfold unV
  split
  · exact .inr (.inl rfl)
  · split
    · exact .inr (.inr rfl)
    · split
      · exact .inr (.inl rfl)
      · exact .inl rfl
/-- what a reading tells -/
theorem GDec.of {b : List Int} {m1 : Grm} {e : Int} (d : GDec b m1 e) : (e = 0 ∧ gOf b = some (ofG m1) ∧ EncG (unV b).2.1 (unV b).1 m1) ∨ ((e = 2 ∨ e = 3) ∧ gOf b = none) := by
  rcases d with ⟨d0, rfl, _⟩ | ⟨d0, ⟨rfl, d1, _⟩ | ⟨rfl, _, d1⟩⟩
  · refine .inr ⟨(unV_e b).resolve_left d0, ?_⟩
    rw [gOf, dif_neg]
    exact fun k => d0 k.1
  · exact .inl ⟨rfl, gOf_enc d0 d1, d1⟩
  · refine .inr ⟨.inl rfl, ?_⟩
    rw [gOf, dif_neg]
    rintro ⟨_, m, hm⟩
    exact d1 m hm
theorem EncG.seq {body : List Int} {kd : Int} {m : Grm} (e : EncG body kd m) : inI m.sq := by
  by_cases h1 : m.k = 1
  · have f := e.fit
    rw [gparts, gtail_1 h1] at f
    simp only [fitP, List.all_cons, Bool.and_eq_true, decide_eq_true_eq] at f
    have f1 := f.2.1
    have : ((2 : Int) ^ (8 * 4)) = 4294967296 := rfl
    exact ⟨by show (-9223372036854775808 : Int) ≤ _; omega, by show _ ≤ (9223372036854775807 : Int); omega⟩
  · rw [(e.c1 h1).1]
    exact i64_in (by omega) (by omega)
/-- what is written is what it is -/
theorem gOf_encG {g : Grm} (o : gEncOk g = true) : gOf (encG g) = some (ofG (canonG g)) := by
  have u := un_encG o
  have e : EncG (unV (encG g)).2.1 (unV (encG g)).1 (canonG g) := by
    rw [u]
    exact canonG_enc o
  exact gOf_enc (by rw [u]) e
end Go.Proofs.Ytmififfaljihgaa
