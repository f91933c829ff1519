/- G5: texts of another seat, turned to this one. -/
import Derived.Test.YtmififfaljihgaaGreatG4
set_option linter.unusedVariables false
set_option linter.unusedSimpArgs false
namespace Go.Proofs.YtmififfaljihgaaGreat
open Go Go.Ab Go.Shelf
structure CId where
  s : SId
  c : Nat
  t : Nat
  tm : Nat
def CId.all (d : CId) : Nat → Prop := fun i => d.s.all i ∨ i = d.c ∨ i = d.t ∨ i = d.tm
structure CV where
  s : SV
  N : Int
  C : Hd
  conn : Int
  O : List (List Int)
/-- bodies that are owed: a row of one's own -/
def OwS (h : H) (po : Option (Nat × Nat)) (O : List (List Int)) : Prop := ∃ G : List Bd, SlIs h po O.length true 1 (G.flatMap slC) ∧ (∀ x ∈ G, bOk h x) ∧ G.map Prod.snd = O
theorem OwS.get {Z : Nat → Prop} {h h' : H} {po : Option (Nat × Nat)} {O : List (List Int)} (s : OwS h po O) (m : Ab.Mod Z h h') (hz : ∀ i, inSl po i → ¬ Z i) : OwS h' po O := by
  obtain ⟨G, h1, h2, h3⟩ := s
  exact ⟨G, h1.get m (fun i o e => .inl (hz i ⟨o, e⟩)), fun x hx => (h2 x hx).get m, h3⟩
theorem OwS.lt {h : H} {po : Option (Nat × Nat)} {O : List (List Int)} (s : OwS h po O) {i : Nat} (hi : inSl po i) : i < h.next := by
  obtain ⟨G, h1, _⟩ := s
  exact SlIs.own_lt h1 hi
structure ChS (h : H) (d : CId) (po : Option (Nat × Nat)) (v : CV) : Prop where
  box : h.obj d.c = some (.row true 4 [.ptr (some (d.s.g, 0)), i64 v.conn, .ptr (some (d.t, 0)), .sl po v.O.length])
  sd : SdC h d.s v.s
  tk : TkC h d.t d.tm v.s.W v.N v.C
  ow : OwS h po v.O
  sepo : ∀ i, inSl po i → ¬ d.all i
  sep : ¬ d.s.all d.c ∧ ¬ d.s.all d.t ∧ ¬ d.s.all d.tm ∧ d.c ≠ d.t ∧ d.c ≠ d.tm
def chAll (d : CId) (po : Option (Nat × Nat)) : Nat → Prop := fun i => d.all i ∨ inSl po i
theorem ChS.get {Z : Nat → Prop} {h h' : H} {d : CId} {po : Option (Nat × Nat)} {v : CV} (s : ChS h d po v) (m : Ab.Mod Z h h') (hz : ∀ i, chAll d po i → ¬ Z i) : ChS h' d po v :=
  ⟨m.get s.box (.inl (hz _ (.inl (.inr (.inl rfl))))), s.sd.get m (fun i hi => hz i (.inl (.inl hi))), s.tk.get m (hz _ (.inl (.inr (.inr (.inl rfl))))) (hz _ (.inl (.inr (.inr (.inr rfl))))), s.ow.get m (fun i hi => hz i (.inr hi)), s.sepo, s.sep⟩
theorem ChS.old {h h' : H} {d : CId} {po : Option (Nat × Nat)} {v : CV} (s : ChS h d po v) (m : Ab.Mod none_ h h') : ChS h' d po v := s.get m (fun _ _ k => k)
theorem ChS.lt {h : H} {d : CId} {po : Option (Nat × Nat)} {v : CV} (s : ChS h d po v) {i : Nat} (hi : chAll d po i) : i < h.next := by
  rcases hi with (hi | rfl | rfl | rfl) | hi
  · exact s.sd.lt hi
  · exact h.lt _ _ s.box
  · exact s.tk.lt.1
  · exact s.tk.lt.2
  · exact s.ow.lt hi
structure COk (v : CV) : Prop where
  s : SOk v.s
  k : OkH v.s.W v.N v.C
  n0 : 0 ≤ v.N
  o : v.O.length ≤ 1000
  ob : ∀ b ∈ v.O, b.length ≤ 100000
/-- a datagram -/
structure GV where
  conn : Int
  kind : Int
  seq : Int
  ack : Int
  code : Int
  body : List Int
abbrev GP := GV × Option (Nat × Nat)
def gC (x : GP) : List V := [i64 x.1.conn, i64 x.1.kind, i64 x.1.seq, i64 x.1.ack, i64 x.1.code, .sl x.2 x.1.body.length]
theorem gC_len (x : GP) : (gC x).length = 6 := rfl
def gOk (h : H) (x : GP) : Prop := RoSl h x.2 x.1.body.length 1 (ints .u8 x.1.body)
def Grams (h : H) (q : Option (Nat × Nat)) (L : List GV) : Prop := ∃ G : List GP, RoSl h q L.length 6 (G.flatMap gC) ∧ (∀ x ∈ G, gOk h x) ∧ G.map Prod.fst = L
theorem Grams.get {Z : Nat → Prop} {h h' : H} {q : Option (Nat × Nat)} {L : List GV} (s : Grams h q L) (m : Ab.Mod Z h h') : Grams h' q L := by
  obtain ⟨G, h1, h2, h3⟩ := s
  exact ⟨G, h1.get m, fun x hx => (h2 x hx).get m, h3⟩
theorem Grams.cell {h : H} {q : Option (Nat × Nat)} {L : List GV} (s : Grams h q L) {j : Nat} (hj : j < L.length) :
    ∃ i c p, q = some (i, c) ∧ Cells h i (c + j * 6) 6 (gC (L[j], p)) ∧ (∀ k v, (gC (L[j], p))[k]? = some v → Cell h i (c + j * 6 + k) v) ∧ RoSl h p (L[j]).body.length 1 (ints .u8 (L[j]).body) := by
  obtain ⟨G, h1, h2, rfl⟩ := s
  have hl : j < G.length := by simpa using hj
  have e1 : (G.map Prod.fst).length = G.length := by simp
  rw [e1] at h1
  obtain ⟨i, c, f1, f2, f3⟩ := sls_get gC_len h1.is rfl hl
  have e2 : (G.map Prod.fst)[j] = G[j].1 := by rw [List.getElem_map]
  refine ⟨i, c, G[j].2, f1, ?_, ?_, ?_⟩
  · rw [e2]; exact f2
  · rw [e2]; exact f3
  · rw [e2]; exact h2 _ (List.getElem_mem hl)
/-- a Data of one that is under way -/
def dataV (v : CV) (seq : Int) : GV := ⟨v.conn, 1, seq, v.N, 0, bodyV v.s.C seq⟩
theorem cData {h : H} {d : CId} {po : Option (Nat × Nat)} {v : CV} (s : ChS h d po v) (o : SOk v.s) (seq : Int) :
    ACalls Tryz.prog 68 [.ptr (some (d.c, 0)), i64 seq] h (fun r h' => ∃ p, r = .agg (gC (dataV v seq, p)) ∧ gOk h' (dataV v seq, p) ∧ Ab.Mod none_ h h') := by
  refine call_ Tryz.func68 rfl rfl (by kernel_rfl) ?_
  conv => whnf
  obtain ⟨gm, _, _⟩ := lay_row (h := h) (sz := 6) [i64 0, i64 0, i64 0, i64 0, i64 0, .sl none 0] []
  have mP := Mod.push none_ h (.row true 6 [i64 0, i64 0, i64 0, i64 0, i64 0, .sl none 0])
  have s1 := s.old mP
  refine ⟨_, Cell.mk s1.box rfl, ?_⟩
  conv => whnf
  refine (cBody s1.sd o seq).mono ?_
  rintro _ h2 ⟨q, rfl, b2, m2⟩
  have s2 := s1.old m2
  have g2 := m2.get gm (.inl (fun k => k))
  conv => whnf
  refine ⟨_, rfl, ?_⟩
  conv => whnf
  refine ⟨_, rfl, ?_⟩
  conv => whnf
  refine ⟨[0, 1, 2, 3, 4, 5, 6, 7, 8, 10, 9, 11, 12], [0, 1, 3, 7, 0, 0, 32, 96, 224, 480, 0, 2047, 4095], by kernel_rfl, ?_⟩
  conv => whnf
  refine ⟨_, Cell.mk s2.box rfl, ?_⟩
  conv => whnf
  refine ⟨_, Cell.mk s2.box rfl, ?_⟩
  conv => whnf
  refine (next32c s2.tk).mono ?_
  rintro _ h3 ⟨eh, rfl⟩
  subst eh
  conv => whnf
  refine ⟨⟨_, Cell.mk s2.box rfl, rfl⟩, ?_⟩
  conv => whnf
  refine ⟨_, _, g2, Nat.le_of_ble_eq_true rfl, ?_⟩
  conv => whnf
  have gS : (h3.set h.next (.row true 6 (gC (dataV v seq, q)))).obj h.next = some (.row true 6 (gC (dataV v seq, q))) := H.obj_set_same g2
  have mS : Ab.Mod (one h.next) h3 (h3.set h.next (.row true 6 (gC (dataV v seq, q)))) := Mod.set rfl g2 rfl
  refine ⟨gC (dataV v seq, q), Cells.mk gS (Nat.le_of_ble_eq_true rfl) rfl, ?_⟩
  conv => whnf
  exact ⟨q, rfl, b2.get mS, (mod_none mP m2).trans' mS (S2 := none_) (fun _ _ k => k) (fun i hi k => by
    have : i = h.next := k
    omega)⟩
theorem SlIs.tail {h : H} {p : Option (Nat × Nat)} {n sz : Nat} {own : Bool} {cs : List V} (s : SlIs h p n own sz cs) {l : Nat} (hl : l ≤ n) : SlIs h (slp p (l * sz)) (n - l) own sz (cs.drop (l * sz)) := by
  obtain ⟨h1, h2⟩ := s
  have hm : l * sz + (n - l) * sz = n * sz := by
    rw [← Nat.add_mul]
    congr 1
    omega
  refine ⟨by rw [List.length_drop, h1]; omega, ?_⟩
  rcases h2 with ⟨rfl, h2⟩ | ⟨i, o, o', r, rfl, e2, e3, e4, e5⟩
  · refine .inl ⟨by omega, ?_⟩
    rcases h2 with rfl | h2
    · exact .inl rfl
    · exact .inr h2
  · refine .inr ⟨i, o + l * sz, o', r, rfl, e2, e3, by omega, ?_⟩
    rw [← e5, List.drop_take, List.drop_drop]
    congr 1
    omega
theorem inSl_slp {p : Option (Nat × Nat)} {k i : Nat} : inSl (slp p k) i ↔ inSl p i := by
  cases p with
  | none => exact Iff.rfl
  | some x => exact ⟨fun ⟨o, e⟩ => ⟨x.2, by injection e with e; injection e with e _; subst e; rfl⟩, fun ⟨o, e⟩ => ⟨x.2 + k, by injection e with e; subst e; rfl⟩⟩
theorem TkC.ro {h : H} {g mi : Nat} {W N : Int} {C : Hd} (s : TkC h g mi W N C) {i : Nat} (hg : g ≠ i) (hm : mi ≠ i) : TkC (h.ro i) g mi W N C := by
  obtain ⟨S, h1, h2⟩ := s
  exact ⟨S, h1.ro hg hm, h2⟩
theorem SdC.ro {h : H} {d : SId} {v : SV} (s : SdC h d v) {i : Nat} (hi : ¬ d.all i) : SdC (h.ro i) d v := by
  obtain ⟨S, h1, h2⟩ := s
  exact ⟨S, h1.ro (fun e => hi (.inl e.symm)) (fun e => hi (.inr (.inl e.symm))) (fun e => hi (.inr (.inr (.inl e.symm)))) (fun e => hi (.inr (.inr (.inr e.symm)))), h2⟩
theorem OwS.ro {h : H} {po : Option (Nat × Nat)} {O : List (List Int)} (s : OwS h po O) {i : Nat} (hi : ¬ inSl po i) : OwS (h.ro i) po O := by
  obtain ⟨G, h1, h2, h3⟩ := s
  exact ⟨G, SlIs.ro_ne h1 (fun j o e k => hi ⟨o, by rw [e, k]⟩), fun x hx => (h2 x hx).ro i, h3⟩
theorem ChS.ro {h : H} {d : CId} {po : Option (Nat × Nat)} {v : CV} (s : ChS h d po v) {i : Nat} (hi : ¬ chAll d po i) : ChS (h.ro i) d po v :=
  ⟨by rw [H.ro_ne _ (fun e => hi (.inl (.inr (.inl e.symm)))), s.box], s.sd.ro (fun k => hi (.inl (.inl k))), s.tk.ro (fun e => hi (.inl (.inr (.inr (.inl e.symm))))) (fun e => hi (.inl (.inr (.inr (.inr e.symm))))), s.ow.ro (fun k => hi (.inr k)), s.sepo, s.sep⟩
def roomOf (s : SV) : Int := roomV s.W s.ov s.C.length
def paysV (now : Int) : SV → List (List Int) → List (Int × List Int) × SV × List (List Int)
  | s, [] => ([], s, [])
  | s, b :: O => if 0 < roomOf s then ((s.N, b) :: (paysV now (sendV s now b).2 O).1, (paysV now (sendV s now b).2 O).2) else ([], s, b :: O)
theorem send_room {s : SV} (o : SOk s) (hr : 0 < roomOf s) (now : Int) (b : List Int) : (sendV s now b).1 = (s.N, 0) ∧ bodyV (sendV s now b).2.C s.N = b ∧ (sendV s now b).2.N = s.N + 1 ∧ (sendV s now b).2.W = s.W := by
  unfold roomOf roomV at hr
  by_cases hov : s.ov = true
  · rw [if_pos hov] at hr
    omega
  rw [if_neg hov] at hr
  have hv : sendV s now b = ((s.N, 0), { s with N := s.N + 1, C := insS s.C s.N b, TS := insS s.TS s.N (now + waitV s.B s.M 0, 0) }) := by rw [sendV, if_neg hov, if_neg (by omega)]
  rw [hv]
  refine ⟨rfl, ?_, rfl, rfl⟩
  show bodyV (insS s.C s.N b) s.N = b
  rw [bodyV, insS_get o.asc, if_pos rfl]
  rfl
def pg (v : CV) (x : Int × List Int) : GV := ⟨v.conn, 1, x.1, v.N, 0, x.2⟩
/-- v, its sender and what is owed being so -/
def CV.to (v : CV) (s : SV) (O : List (List Int)) : CV := { v with s := s, O := O }
def PaysQ (h : H) (d : CId) (po : Option (Nat × Nat)) (v : CV) (now : Int) (r : V) (h' : H) : Prop :=
  ∃ q po', r = .sl q (paysV now v.s v.O).1.length ∧ Grams h' q ((paysV now v.s v.O).1.map (pg v)) ∧ ChS h' d po' (v.to (paysV now v.s v.O).2.1 (paysV now v.s v.O).2.2) ∧ (∀ i, inSl po' i → inSl po i) ∧ Ab.Mod (chAll d po) h h'
set_option maxHeartbeats 1000000 in
theorem cPays {h : H} {d : CId} {po : Option (Nat × Nat)} {v : CV} (s : ChS h d po v) (o : COk v) (hN : v.s.N + v.O.length ≤ 100000000) {now : Int} (hn0 : -1000000000 ≤ now) (hn1 : now ≤ 1000000000) :
    ACalls Tryz.prog 69 [.ptr (some (d.c, 0)), i64 now] h (PaysQ h d po v now) := by
  have hol := o.o
  have hlt : ∀ i, chAll d po i → i < h.next := fun i hi => s.lt hi
  refine ACalls.ro (Q := fun r h' => ∃ (q po' : Option (Nat × Nat)) (sv : SV) (O' : List (List Int)) (L : List (Int × List Int)) (G : List GP), paysV now v.s v.O = (L, sv, O') ∧ r = .sl q G.length ∧ NewSl h h' q G.length 6 (G.flatMap gC) ∧ (∀ x ∈ G, gOk h' x) ∧ G.map Prod.fst = L.map (pg v) ∧ ChS h' d po' (v.to sv O') ∧ (∀ i, inSl po' i → inSl po i) ∧ Ab.Mod (chAll d po) h h') ?_ (by
    rintro r h' ⟨q, po', sv, O', L, G, e, rfl, ng, gk, hg, sc, hs, m⟩
    obtain ⟨i, a1, a2, a3⟩ := ng.freeze m
    have hGL : G.length = L.length := by
      have := congrArg List.length hg
      simpa using this
    refine ⟨i, ?_⟩
    unfold PaysQ
    rw [e]
    refine ⟨q, po', by show V.sl q G.length = V.sl q L.length; rw [hGL], ⟨G, ?_, fun x hx => (gk x hx).ro i, hg⟩, sc.ro (fun k => ?_), hs, a3⟩
    · show RoSl _ q (L.map (pg v)).length 6 _
      rw [List.length_map, ← hGL]
      exact a2
    · have : i < h.next := hlt i (k.elim .inl (fun k => .inr (hs i k)))
      omega)
  refine call_ Tryz.func69 rfl rfl (by kernel_rfl) ?_
  conv => whnf
  refine ⟨fun env hh => ∃ (L : List (Int × List Int)) (G : List GP) (qg : Option (Nat × Nat)) (sv : SV) (O' : List (List Int)) (po' : Option (Nat × Nat)), paysV now v.s v.O = (L ++ (paysV now sv O').1, (paysV now sv O').2) ∧ G.map Prod.fst = L.map (pg v) ∧ NewSl h hh qg G.length 6 (G.flatMap gC) ∧ (∀ x ∈ G, gOk hh x) ∧ ChS hh d po' (v.to sv O') ∧ SOk sv ∧ sv.W = v.s.W ∧ sv.N + O'.length = v.s.N + v.O.length ∧ (∀ b ∈ O', b.length ≤ 100000) ∧ (∀ i, inSl po' i → inSl po i) ∧ Ab.Mod (chAll d po) h hh ∧ G.length + O'.length = v.O.length ∧ env = [(4, .sl qg G.length), (0, .ptr (some (d.c, 0))), (1, i64 now)],
    fun env _ => match get env 4 with
      | .sl _ n => v.O.length - n
      | _ => 0, ⟨_, Forget.cons rfl (Forget.cons rfl (Forget.cons rfl (Forget.nil _))), [], [], none, v.s, v.O, po, rfl, rfl, NewSl.nil _ _ _, (fun x hx => by cases hx), s, o.s, rfl, rfl, o.ob, fun _ k => k, mod_refl _ _, by simp, rfl⟩, ?_⟩
  clear s
  rintro _ hh ⟨L, G, qg, sv, O', po', hp, hG, ng, gk, s, os, hW, hn, hob, hsub, mo, hlen, rfl⟩
  have done : paysV now sv O' = ([], sv, O') → ∃ (q po' : Option (Nat × Nat)) (sv : SV) (O' : List (List Int)) (L : List (Int × List Int)) (G' : List GP), paysV now v.s v.O = (L, sv, O') ∧ V.sl qg G.length = .sl q G'.length ∧ NewSl h hh q G'.length 6 (G'.flatMap gC) ∧ (∀ x ∈ G', gOk hh x) ∧ G'.map Prod.fst = L.map (pg v) ∧ ChS hh d po' (v.to sv O') ∧ (∀ i, inSl po' i → inSl po i) ∧ Ab.Mod (chAll d po) h hh := fun e => by
    rw [e, List.append_nil] at hp
    exact ⟨qg, po', sv, O', L, G, hp, rfl, ng, gk, hG, s, hsub, mo⟩
  conv => whnf
  refine ⟨_, Cell.mk s.box rfl, ?_⟩
  conv => whnf
  cases O' with
  | nil =>
    conv => whnf
    exact done rfl
  | cons b O2 =>
  refine br_mk (fun ha => ?_) (fun ha => ?_)
  rotate_left
  · exact absurd ha (by
      have : (((b :: O2).length : Nat) : Int) > 0 := by rw [List.length_cons]; omega
      show ¬ decide ((((b :: O2).length : Nat) : Int) > 0) = false
      rw [decide_eq_true this]
      simp)
  conv => whnf
  refine ⟨_, Cell.mk s.box rfl, ?_⟩
  conv => whnf
  refine (cRoom s.sd os).mono ?_
  rintro _ h1 ⟨eh, rfl⟩
  subst eh
  conv => whnf
  refine br_mk (fun hb0 => ?_) (fun hb0 => ?_)
  rotate_left
  · conv => whnf
    have hb : ¬ roomV sv.W sv.ov sv.C.length > 0 := of_decide_eq_false hb0
    exact done (by rw [paysV, if_neg (by unfold roomOf; omega)])
  have hb : 0 < roomOf sv := of_decide_eq_true hb0
  conv => whnf
  refine ⟨[0, 1, 2, 3, 4, 5, 6, 7, 8, 9, 10, 11, 12, 13, 14, 15, 16], [0, 1, 3, 7, 0, 0, 32, 96, 224, 480, 992, 2047, 4095, 8191, 8191, 16383, 65535], by kernel_rfl, ?_⟩
  conv => whnf
  refine ⟨_, Cell.mk s.box rfl, ?_⟩
  conv => whnf
  refine ⟨_, Cell.mk s.box rfl, ?_⟩
  conv => whnf
  obtain ⟨GO, g1, g2, g3⟩ := s.ow
  cases GO with
  | nil => cases g3
  | cons x GO =>
  have g3 : x.2 :: GO.map Prod.snd = b :: O2 := g3
  injection g3 with g3 g4
  subst g3
  have hOl : (x.2 :: O2).length = (x :: GO).length := by rw [← g4]; simp
  have g1 : SlIs h1 po' (x.2 :: O2).length true 1 ((x :: GO).flatMap slC) := g1
  obtain ⟨i3, c3, w1, w2, w3⟩ := sls_get slC_len g1 hOl (j := 0) (by simp)
  have v0 := w3 0 (slV x) rfl
  refine ⟨i3, c3, 0, w1, rfl, (by show 0 < (x.2 :: O2).length; rw [List.length_cons]; omega), ?_⟩
  conv => whnf
  refine ⟨_, v0, ?_⟩
  conv => whnf
  have hxb : bOk h1 x := g2 x (by simp)
  have hxl := hob x.2 (by simp)
  obtain ⟨z1, z2, z3, z4⟩ := send_room os hb now x.2
  have hnx : sv.N + ((O2.length : Int) + 1) = v.s.N + v.O.length := by
    rw [List.length_cons] at hn
    omega
  have hlx : G.length + (O2.length + 1) = v.O.length := by
    rw [List.length_cons] at hlen
    omega
  refine (cSendR (v := sv) s.sd os (by omega) hn0 hn1 hxb hxl).mono ?_
  rintro _ h5 ⟨rfl, s5, m5⟩
  rw [z1]
  have o5 := os.send now (body := x.2) hxl
  have hpO : paysV now sv (x.2 :: O2) = ((sv.N, x.2) :: (paysV now (sendV sv now x.2).2 O2).1, (paysV now (sendV sv now x.2).2 O2).2) := by rw [paysV, if_pos hb]
  generalize (sendV sv now x.2).2 = sv2 at s5 z2 z3 z4 o5 hpO
  have nsep := s.sep
  have nsepo := s.sepo
  have box5 := m5.get s.box (.inl nsep.1)
  have tk5 := s.tk.get m5 nsep.2.1 nsep.2.2.1
  have ow5 : SlIs h5 po' (x.2 :: O2).length true 1 ((x :: GO).flatMap slC) := g1.get m5 (fun i o e => .inl (fun k => nsepo i ⟨o, e⟩ (.inl k)))
  have gO5 : ∀ y ∈ GO, bOk h5 y := fun y hy => (g2 y (List.mem_cons_of_mem _ hy)).get m5
  have gk5 : ∀ y ∈ G, gOk h5 y := fun y hy => (gk y hy).get m5
  have hsl := fun i (hi : chAll d po' i) => s.lt hi
  have ng5 := ng.1.get m5 (fun i o e => .inl (fun k => by
    have := ng.2 i o e
    have := hlt i (.inl (.inl k))
    omega))
  have mo5 := mo.trans' m5 (S2 := chAll d po) (fun _ _ k => k) (fun _ _ k => .inl (.inl k))
  conv => whnf
  refine ⟨_, rfl, ?_⟩
  conv => whnf
  refine ⟨_, rfl, ?_⟩
  conv => whnf
  refine ⟨_, Cell.mk box5 rfl, ?_⟩
  conv => whnf
  refine ⟨⟨_, ow5.weak⟩, 1, rfl, (by show 1 ≤ (x.2 :: O2).length; rw [List.length_cons]; omega), Nat.le_refl _, ?_⟩
  conv => whnf
  refine ⟨_, _, box5, Nat.le_of_ble_eq_true rfl, ?_⟩
  conv => whnf
  have box6 : (h5.set d.c (.row true 4 [.ptr (some (d.s.g, 0)), i64 v.conn, .ptr (some (d.t, 0)), .sl (slp po' (1 * 1)) O2.length])).obj d.c = some (.row true 4 [.ptr (some (d.s.g, 0)), i64 v.conn, .ptr (some (d.t, 0)), .sl (slp po' (1 * 1)) O2.length]) := H.obj_set_same box5
  have m6 : Ab.Mod (one d.c) h5 (h5.set d.c (.row true 4 [.ptr (some (d.s.g, 0)), i64 v.conn, .ptr (some (d.t, 0)), .sl (slp po' (1 * 1)) O2.length])) := Mod.set rfl box5 rfl
  have ow6 := SlIs.tail (ow5.get m6 (fun i o e => .inl (fun k => nsepo i ⟨o, e⟩ (.inr (.inl k))))) (l := 1) (by rw [List.length_cons]; omega)
  have es6 : ((x :: GO).flatMap slC).drop (1 * 1) = GO.flatMap slC := rfl
  have el6 : (x.2 :: O2).length - 1 = O2.length := rfl
  rw [es6, el6] at ow6
  have c6 : ChS (h5.set d.c (.row true 4 [.ptr (some (d.s.g, 0)), i64 v.conn, .ptr (some (d.t, 0)), .sl (slp po' (1 * 1)) O2.length])) d (slp po' (1 * 1)) (v.to sv2 O2) := by
    refine ⟨box6, s5.get m6 (fun i hi k => nsep.1 (by have : i = d.c := k; rw [← this]; exact hi)), ?_, ⟨GO, ow6, fun y hy => (gO5 y hy).get m6, g4⟩, fun i hi => nsepo i (inSl_slp.1 hi), nsep⟩
    show TkC _ d.t d.tm sv2.W v.N v.C
    rw [z4]
    exact tk5.get m6 (fun k => nsep.2.2.2.1 (Eq.symm k)) (fun k => nsep.2.2.2.2 (Eq.symm k))
  have ng6 := ng5.get m6 (fun i o e => .inl (fun k => by
    have : i = d.c := k
    have := ng.2 i o e
    have := hlt d.c (.inl (.inr (.inl rfl)))
    omega))
  have mo6 := mo5.trans' m6 (S2 := chAll d po) (fun _ _ k => k) (fun _ _ k => .inl (.inr (.inl k)))
  refine (cData c6 o5 sv.N).mono ?_
  rintro _ h7 ⟨pp, rfl, gp, m7⟩
  have c7 := c6.old m7
  have ng7 : NewSl h h7 qg G.length 6 (G.flatMap gC) := ⟨SlIs.old ng6 m7 (fun _ _ k => k), ng.2⟩
  have mo7 := mo6.trans' m7 (S2 := chAll d po) (fun _ _ k => k) (fun _ _ k => k.elim)
  have hpg : dataV (v.to sv2 O2) sv.N = pg v (sv.N, x.2) := by
    show (⟨v.conn, 1, sv.N, v.N, 0, bodyV sv2.C sv.N⟩ : GV) = _
    rw [z2]
    rfl
  rw [hpg] at gp ⊢
  conv => whnf
  obtain ⟨y1, y2, y3⟩ := app1 ng7 mo7 (gC (pg v (sv.N, x.2), pp)) rfl
  refine ⟨_, _, y1, y2, by rw [show (T.at_ 58).bytes = 64 from rfl]; omega, by omega, fun qg2 hY hs2 hm2 hf2 => ?_⟩
  obtain ⟨ng8, mo8, my⟩ := y3 qg2 hY hs2 hm2 hf2
  have e6 : G.flatMap gC ++ gC (pg v (sv.N, x.2), pp) = (G ++ [(pg v (sv.N, x.2), pp)]).flatMap gC := by rw [List.flatMap_append]; simp
  have e7 : G.length + 1 = (G ++ [(pg v (sv.N, x.2), pp)]).length := by simp
  rw [e6, e7] at ng8
  conv => whnf
  rw [e7]
  have hq8 : ∀ i, inSl qg i → h.next ≤ i := fun i ⟨o, e⟩ => ng.2 i o e
  refine ⟨_, Forget.cons rfl (Forget.cons rfl (Forget.cons rfl (Forget.nil _))), ⟨L ++ [(sv.N, x.2)], G ++ [(pg v (sv.N, x.2), pp)], qg2, sv2, O2, slp po' (1 * 1), ?_, by rw [List.map_append, List.map_append, hG]; rfl, ng8, fun y hy => ?_, c7.get my (fun i hi k => ?_), o5, z4.trans hW, by omega, fun c hc => hob c (List.mem_cons_of_mem _ hc), fun i hi => hsub i (inSl_slp.1 hi), mo8, by rw [← e7]; omega, rfl⟩, ?_⟩
  · rw [hp, hpO]
    simp
  · rcases List.mem_append.1 hy with hy | hy
    · exact (((gk5 y hy).get m6).get m7).get my
    · have : y = (pg v (sv.N, x.2), pp) := by simpa using hy
      subst this
      exact gp.get my
  · have := hq8 i k
    have : i < h.next := hlt i (hi.elim .inl (fun hi => .inr (hsub i (inSl_slp.1 hi))))
    omega
  · show v.O.length - (G ++ [(pg v (sv.N, x.2), pp)]).length < v.O.length - G.length
    rw [← e7]
    omega
structure Cfg where
  sess : Int
  win : Int
  retry : Int
  base : Int
  cap : Int
  idle : Int
def Cfg.cells (c : Cfg) : List V := [i64 c.sess, i64 c.win, i64 c.retry, i64 c.base, i64 c.cap, i64 c.idle]
def okCfg (c : Cfg) : Bool := inR c.sess 1 16 && inR c.win 1 16 && inR c.retry 0 20 && inR c.base 1 1000 && inR c.cap c.base 1000 && inR c.idle 1 1000
theorem within66 (h : H) (x lo hi : Int) : ACalls Tryz.prog 55 [i64 x, i64 lo, i64 hi] h (fun r h' => h' = h ∧ r = .bool (inR x lo hi)) := by
  refine call_ Tryz.func55 rfl rfl (by kernel_rfl) ?_
  conv => whnf
  refine br_mk (fun ha => ?_) (fun ha => ?_)
  · conv => whnf
    have ha : lo ≤ x := by simpa using ha
    exact ⟨rfl, by rw [inR, decide_eq_true ha, Bool.true_and]⟩
  · conv => whnf
    have ha : ¬ lo ≤ x := by simpa using ha
    exact ⟨rfl, by rw [inR, decide_eq_false ha, Bool.false_and]⟩
theorem cCheck (h : H) (c : Cfg) : ACalls Tryz.prog 32 [.agg c.cells] h (fun r h' => r = i64 (if okCfg c then 0 else 1) ∧ Ab.Mod none_ h h') := by
  have mP := Mod.push none_ h (.row true 6 c.cells)
  have gm : (h.push (.row true 6 c.cells)).obj h.next = some (.row true 6 c.cells) := H.obj_push_new _ _
  refine call_ Tryz.func32 rfl rfl (by kernel_rfl) ?_
  conv => whnf
  refine ⟨_, Cell.mk gm rfl, ?_⟩
  conv => whnf
  refine (within66 _ c.sess 1 16).mono ?_
  rintro _ h1 ⟨eh, rfl⟩
  subst eh
  cases e1 : inR c.sess 1 16 with
  | false =>
    conv => whnf
    exact ⟨by rw [okCfg, e1]; simp, mP⟩
  | true =>
  conv => whnf
  refine ⟨_, Cell.mk gm rfl, ?_⟩
  conv => whnf
  refine (within66 _ c.win 1 16).mono ?_
  rintro _ h2 ⟨eh, rfl⟩
  subst eh
  cases e2 : inR c.win 1 16 with
  | false =>
    conv => whnf
    exact ⟨by rw [okCfg, e2]; simp, mP⟩
  | true =>
  conv => whnf
  refine ⟨_, Cell.mk gm rfl, ?_⟩
  conv => whnf
  refine (within66 _ c.retry 0 20).mono ?_
  rintro _ h3 ⟨eh, rfl⟩
  subst eh
  cases e3 : inR c.retry 0 20 with
  | false =>
    conv => whnf
    exact ⟨by rw [okCfg, e3]; simp, mP⟩
  | true =>
  conv => whnf
  refine ⟨_, Cell.mk gm rfl, ?_⟩
  conv => whnf
  refine (within66 _ c.base 1 1000).mono ?_
  rintro _ h4 ⟨eh, rfl⟩
  subst eh
  cases e4 : inR c.base 1 1000 with
  | false =>
    conv => whnf
    exact ⟨by rw [okCfg, e4]; simp, mP⟩
  | true =>
  conv => whnf
  refine ⟨_, Cell.mk gm rfl, ?_⟩
  conv => whnf
  refine ⟨_, Cell.mk gm rfl, ?_⟩
  conv => whnf
  refine (within66 _ c.cap c.base 1000).mono ?_
  rintro _ h5 ⟨eh, rfl⟩
  subst eh
  cases e5 : inR c.cap c.base 1000 with
  | false =>
    conv => whnf
    exact ⟨by rw [okCfg, e5]; simp, mP⟩
  | true =>
  conv => whnf
  refine ⟨_, Cell.mk gm rfl, ?_⟩
  conv => whnf
  refine (within66 _ c.idle 1 1000).mono ?_
  rintro _ h6 ⟨eh, rfl⟩
  subst eh
  cases e6 : inR c.idle 1 1000 with
  | false =>
    conv => whnf
    exact ⟨by rw [okCfg, e6]; simp, mP⟩
  | true =>
  conv => whnf
  exact ⟨by rw [okCfg, e1, e2, e3, e4, e5, e6]; rfl, mP⟩
def okCh (c : Cfg) (conn : Int) : Bool := okCfg c && inR conn 1 2147483648
def CV.new (c : Cfg) (conn : Int) : CV := ⟨⟨c.win, 0, false, [], c.base, c.cap, c.retry, []⟩, 0, [], conn, []⟩
def NewCQ (c : Cfg) (conn : Int) (h : H) (r : V) (h' : H) : Prop :=
  (okCh c conn = false ∧ r = .tup [.ptr none, i64 1] ∧ Ab.Mod none_ h h') ∨ (okCh c conn = true ∧ ∃ d, r = .tup [.ptr (some (d.c, 0)), i64 0] ∧ ChS h' d none (CV.new c conn) ∧ (∀ i, d.all i → h.next ≤ i) ∧ Ab.Mod none_ h h')
theorem inR_iff {x lo hi : Int} : inR x lo hi = true ↔ lo ≤ x ∧ x ≤ hi := by
  rw [inR]
  simp
theorem cNew (h : H) (c : Cfg) (conn : Int) : ACalls Tryz.prog 35 [.agg c.cells, i64 conn] h (fun r h' => NewCQ c conn h r h') := by
  have mP := Mod.push none_ h (.row true 6 c.cells)
  have gm : (h.push (.row true 6 c.cells)).obj h.next = some (.row true 6 c.cells) := H.obj_push_new _ _
  refine call_ Tryz.func35 rfl rfl (by kernel_rfl) ?_
  conv => whnf
  refine ⟨c.cells, Cells.mk gm (Nat.le_of_ble_eq_true rfl) rfl, ?_⟩
  conv => whnf
  refine (cCheck _ c).mono ?_
  rintro _ h1 ⟨rfl, m1⟩
  have g1 := m1.get gm (.inl (fun k => k))
  have mo1 := mod_none mP m1
  cases ec : okCfg c with
  | false =>
    conv => whnf
    exact .inl ⟨by rw [okCh, ec]; rfl, rfl, mo1⟩
  | true =>
  conv => whnf
  refine (within66 _ conn 1 2147483648).mono ?_
  rintro _ h2 ⟨eh, rfl⟩
  subst eh
  cases en : inR conn 1 2147483648 with
  | false =>
    conv => whnf
    exact .inl ⟨by rw [okCh, ec, en]; rfl, rfl, mo1⟩
  | true =>
  simp only [okCfg, Bool.and_eq_true] at ec
  obtain ⟨⟨⟨⟨⟨c1, c2⟩, c3⟩, c4⟩, c5⟩, c6⟩ := ec
  have okc : okCh c conn = true := by
    rw [okCh, okCfg, c1, c2, c3, c4, c5, c6, en]
    rfl
  have b3 := inR_iff.1 c3
  have b4 := inR_iff.1 c4
  have b5 := inR_iff.1 c5
  have okt : okT c.base c.cap c.retry = true := by
    rw [okT_iff]
    omega
  conv => whnf
  refine ⟨_, Cell.mk g1 rfl, ?_⟩
  conv => whnf
  refine ⟨_, Cell.mk g1 rfl, ?_⟩
  conv => whnf
  refine ⟨_, Cell.mk g1 rfl, ?_⟩
  conv => whnf
  refine (new22 _ c.base c.cap c.retry).mono ?_
  rintro _ h3 q
  obtain ⟨tg, tmi, rfl, t1, ht1, ht2, m3⟩ := newT_yes q okt
  clear q
  have g3 := m3.get g1 (.inl (fun k => k))
  conv => whnf
  refine ⟨_, rfl, ?_⟩
  conv => whnf
  refine ⟨_, rfl, ?_⟩
  conv => whnf
  refine ⟨_, Cell.mk g3 rfl, ?_⟩
  conv => whnf
  have t1lt := t1.lt
  refine (sNew t1 c.win).mono ?_
  rintro _ h4 q
  obtain ⟨d, hd1, hd2, rfl, s1, hg0, hm0, m4⟩ := newS_yes q c2
  clear q
  have g4 := m4.get g3 (.inl (fun k => k))
  have hdl : ∀ i, d.all i → i < h4.next := fun i hi => s1.lt hi
  have hdg : ∀ i, d.all i → h.next ≤ i := fun i hi => by
    have e1 := mo1.next
    have e3 := m3.next
    rcases hi with hi | hi | hi | hi <;> omega
  conv => whnf
  refine ⟨_, rfl, ?_⟩
  conv => whnf
  refine ⟨_, rfl, ?_⟩
  conv => whnf
  refine ⟨_, Cell.mk g4 rfl, ?_⟩
  conv => whnf
  refine (new27 _ c.win).mono ?_
  rintro _ h5 q
  obtain ⟨t, tm, rfl, k1, hk1, hk2, m5⟩ := newK_yes q c2
  clear q
  have k1lt := k1.lt
  have s5 := s1.old m5
  conv => whnf
  refine ⟨_, rfl, ?_⟩
  conv => whnf
  refine ⟨_, rfl, ?_⟩
  conv => whnf
  have m6 := Mod.push none_ h5 (.row true 4 [.ptr (some (d.g, 0)), i64 conn, .ptr (some (t, 0)), .sl none 0])
  have e1 := mo1.next
  have e3 := m3.next
  have e4 := m4.next
  have e5 := m5.next
  refine .inr ⟨okc, ⟨d, h5.next, t, tm⟩, rfl, ⟨H.obj_push_new _ _, s5.old m6, ⟨[], k1.old m6, rfl⟩, ⟨[], SlIs.nil _ _ _, (fun x hx => by cases hx), rfl⟩, (fun i ⟨o, e⟩ => by cases e), ?_⟩, fun i hi => ?_, mod_none (mod_none (mod_none (mod_none mo1 m3) m4) m5) m6⟩
  · refine ⟨fun k => ?_, fun k => ?_, fun k => ?_, ?_, ?_⟩
    · have := hdl _ k
      have : h5.next < h4.next := this
      omega
    · have := hdl _ k
      have : t < h4.next := this
      omega
    · have := hdl _ k
      have : tm < h4.next := this
      omega
    · show h5.next ≠ t
      omega
    · show h5.next ≠ tm
      omega
  · rcases hi with hi | hi | hi | hi
    · exact hdg i hi
    · have : i = h5.next := hi
      omega
    · have : i = t := hi
      omega
    · have : i = tm := hi
      omega
theorem new_cok {c : Cfg} {conn : Int} (ok : okCh c conn = true) : COk (CV.new c conn) := by
  simp only [okCh, okCfg, Bool.and_eq_true] at ok
  obtain ⟨⟨⟨⟨⟨⟨c1, c2⟩, c3⟩, c4⟩, c5⟩, c6⟩, c7⟩ := ok
  have b3 := inR_iff.1 c3
  have b4 := inR_iff.1 c4
  have b5 := inR_iff.1 c5
  have okt : okT c.base c.cap c.retry = true := by
    rw [okT_iff]
    omega
  exact ⟨new_ok c2 okt, OkH.nil _ _, Int.le_refl _, Nat.zero_le _, fun b hb => by cases hb⟩
theorem hOver {h : H} {d : CId} {po : Option (Nat × Nat)} {v : CV} (s : ChS h d po v) : ACalls Tryz.prog 66 [.ptr (some (d.c, 0))] h (fun r h' => h' = h ∧ r = .bool v.s.ov) := by
  refine call_ Tryz.func66 rfl rfl (by kernel_rfl) ?_
  conv => whnf
  refine ⟨_, Cell.mk s.box rfl, ?_⟩
  conv => whnf
  refine (cOver s.sd).mono ?_
  rintro _ h1 ⟨eh, rfl⟩
  subst eh
  conv => whnf
  exact ⟨rfl, rfl⟩
theorem ackV_W (s : SV) (a : Int) : (ackV s a).2.W = s.W := by
  unfold ackV
  split <;> rfl
theorem ackV_N (s : SV) (a : Int) : (ackV s a).2.N = s.N := by
  unfold ackV
  split <;> rfl
theorem pays_ok (now : Int) : ∀ (O : List (List Int)) {s : SV}, SOk s → (∀ b ∈ O, b.length ≤ 100000) → SOk (paysV now s O).2.1 ∧ (paysV now s O).2.1.W = s.W ∧ (∀ b ∈ (paysV now s O).2.2, b ∈ O) ∧ (paysV now s O).1.length + (paysV now s O).2.2.length = O.length ∧ (paysV now s O).2.1.N = s.N + (paysV now s O).1.length
  | [], s, o, _ => ⟨o, rfl, fun b hb => hb, rfl, (Int.add_zero _).symm⟩
  | b :: O, s, o, h => by
    by_cases hr : 0 < roomOf s
    · obtain ⟨_, _, z3, z4⟩ := send_room o hr now b
      obtain ⟨i1, i2, i3, i4, i5⟩ := pays_ok now O (o.send now (body := b) (h b (by simp))) (fun c hc => h c (List.mem_cons_of_mem _ hc))
      rw [paysV, if_pos hr]
      refine ⟨i1, i2.trans z4, fun c hc => List.mem_cons_of_mem _ (i3 c hc), ?_, ?_⟩
      · show (paysV now (sendV s now b).2 O).1.length + 1 + (paysV now (sendV s now b).2 O).2.2.length = O.length + 1
        omega
      · show (paysV now (sendV s now b).2 O).2.1.N = s.N + (((paysV now (sendV s now b).2 O).1.length + 1 : Nat) : Int)
        omega
    · rw [paysV, if_neg hr]
      exact ⟨o, rfl, fun c hc => hc, by simp, (Int.add_zero _).symm⟩
def pushV (v : CV) (now : Int) (b : List Int) : (List GV × Int) × CV :=
  if v.s.ov = true then (([], 6), v) else if 64 ≤ v.O.length then (([], 5), v) else (((paysV now v.s (v.O ++ [b])).1.map (pg v), 0), v.to (paysV now v.s (v.O ++ [b])).2.1 (paysV now v.s (v.O ++ [b])).2.2)
def PushQ (h : H) (d : CId) (po : Option (Nat × Nat)) (R : (List GV × Int) × CV) (r : V) (h' : H) : Prop :=
  ∃ q po', r = .tup [.sl q R.1.1.length, i64 R.1.2] ∧ Grams h' q R.1.1 ∧ ChS h' d po' R.2 ∧ (∀ i, inSl po' i → inSl po i ∨ h.next ≤ i) ∧ Ab.Mod (chAll d po) h h'
theorem ChS.sender {h h' : H} {d : CId} {po : Option (Nat × Nat)} {v : CV} (s : ChS h d po v) {sv : SV} (t : SdC h' d.s sv) (m : Ab.Mod d.s.all h h') (hW : sv.W = v.s.W) : ChS h' d po { v with s := sv } :=
  ⟨m.get s.box (.inl s.sep.1), t, by show TkC h' d.t d.tm sv.W v.N v.C; rw [hW]; exact s.tk.get m s.sep.2.1 s.sep.2.2.1, s.ow.get m (fun i hi k => s.sepo i hi (.inl k)), s.sepo, s.sep⟩
theorem ChS.taker {h h' : H} {d : CId} {po : Option (Nat × Nat)} {v : CV} (s : ChS h d po v) {N : Int} {C : Hd} (t : TkC h' d.t d.tm v.s.W N C) (m : Ab.Mod (two d.t d.tm) h h') : ChS h' d po { v with N := N, C := C } :=
  ⟨m.get s.box (.inl (fun k => k.elim (fun k => s.sep.2.2.2.1 k) (fun k => s.sep.2.2.2.2 k))), s.sd.get m (fun i hi k => k.elim (fun k => s.sep.2.1 (by have : i = d.t := k; rw [← this]; exact hi)) (fun k => s.sep.2.2.1 (by have : i = d.tm := k; rw [← this]; exact hi))), t, s.ow.get m (fun i hi k => s.sepo i hi (k.elim (fun k => .inr (.inr (.inl k))) (fun k => .inr (.inr (.inr k))))), s.sepo, s.sep⟩
set_option maxHeartbeats 1000000 in
theorem cPush {h : H} {d : CId} {po : Option (Nat × Nat)} {v : CV} (s : ChS h d po v) (o : COk v) (hN : v.s.N + v.O.length ≤ 10000000) {now : Int} (hn0 : -1000000000 ≤ now) (hn1 : now ≤ 1000000000) {q : Option (Nat × Nat)} {m : Nat} {body : List Int} (nm : SlIs h q m false 1 (ints .u8 body)) (hm : m ≤ 100000) :
    ACalls Tryz.prog 60 [.ptr (some (d.c, 0)), i64 now, .sl q m] h (PushQ h d po (pushV v now body)) := by
  have hml := slo_len nm
  have hol := o.o
  refine call_ Tryz.func60 rfl rfl (by kernel_rfl) ?_
  conv => whnf
  refine (hOver s).mono ?_
  rintro _ h1 ⟨eh, rfl⟩
  subst eh
  cases hov : v.s.ov with
  | true =>
    conv => whnf
    have hv : pushV v now body = (([], 6), v) := by rw [pushV, if_pos hov]
    rw [hv]
    exact ⟨none, po, rfl, ⟨[], RoSl.nil _ _ _, (fun x hx => by cases hx), rfl⟩, s, fun i hi => .inl hi, mod_refl _ _⟩
  | false =>
  conv => whnf
  refine ⟨_, Cell.mk s.box rfl, ?_⟩
  conv => whnf
  refine br_mk (fun ha => ?_) (fun ha => ?_)
  · conv => whnf
    have ha : (v.O.length : Int) ≥ 64 := by simpa using ha
    have hv : pushV v now body = (([], 5), v) := by rw [pushV, if_neg (by rw [hov]; simp), if_pos (by omega)]
    rw [hv]
    exact ⟨none, po, rfl, ⟨[], RoSl.nil _ _ _, (fun x hx => by cases hx), rfl⟩, s, fun i hi => .inl hi, mod_refl _ _⟩
  have ha : ¬ (v.O.length : Int) ≥ 64 := by simpa using ha
  conv => whnf
  refine ⟨[0, 1, 2, 3, 4, 5, 6, 7, 8, 9, 10, 11], [0, 0, 2, 6, 14, 0, 32, 96, 254, 511, 1023, 2047], by kernel_rfl, ?_⟩
  conv => whnf
  refine ⟨_, Cell.mk s.box rfl, ?_⟩
  conv => whnf
  refine (clone63 nm (by omega)).mono ?_
  rintro _ h2 ⟨p2, rfl, rb, m2⟩
  have s2 := s.old m2
  conv => whnf
  refine ⟨⟨_, Cell.mk s2.box rfl, rfl⟩, ?_⟩
  conv => whnf
  obtain ⟨G, g1, g2, g3⟩ := s2.ow
  have mP := Mod.push none_ h2 (.row true 1 [.sl p2 m])
  have s3 := s2.old mP
  have g1 := SlIs.old g1 mP (fun _ _ k => k)
  refine ⟨_, _, g1, (SlIs.row (n := 1) (sz := 1) (cs := [.sl p2 m]) (H.obj_push_new _ _) rfl).weak, by rw [show (T.at_ 38).bytes = 24 from rfl]; omega, by omega, fun po2 h4 hs4 hm4 hf4 => ?_⟩
  have hlt3 := fun i (hi : chAll d po i) => s3.lt hi
  have box4 := hm4.get s3.box (.inl (fun k => s3.sepo _ k (.inr (.inl rfl))))
  have mo4 : Ab.Mod (chAll d po) h1 h4 := ((m2.trans' mP (S2 := none_) (fun _ _ k => k) (fun _ _ k => k)).trans' hm4 (S2 := chAll d po) (fun _ _ k => k.elim) (fun _ _ k => .inr k))
  have hpo2 : ∀ i, inSl po2 i → inSl po i ∨ (h2.push (.row true 1 [.sl p2 m])).next ≤ i := fun i ⟨o, e⟩ => by
    rcases hf4 i o e with k | k
    · exact .inl ⟨o, by rw [← k, e]⟩
    · exact .inr k
  have hsepo2 : ∀ i, inSl po2 i → ¬ d.all i := fun i hi k => by
    rcases hpo2 i hi with q | q
    · exact s3.sepo i q k
    · have := hlt3 i (.inl k)
      omega
  conv => whnf
  refine ⟨_, _, box4, Nat.le_of_ble_eq_true rfl, ?_⟩
  conv => whnf
  have m5 : Ab.Mod (one d.c) h4 (h4.set d.c (.row true 4 [.ptr (some (d.s.g, 0)), i64 v.conn, .ptr (some (d.t, 0)), .sl po2 (v.O.length + 1)])) := Mod.set rfl box4 rfl
  have nsep := s3.sep
  have hO : (v.O ++ [body]).length = v.O.length + 1 := by simp
  have c5 : ChS (h4.set d.c (.row true 4 [.ptr (some (d.s.g, 0)), i64 v.conn, .ptr (some (d.t, 0)), .sl po2 (v.O.length + 1)])) d po2 (v.to v.s (v.O ++ [body])) := by
    refine ⟨?_, (s3.sd.get hm4 (fun i hi k => s3.sepo i k (.inl hi))).get m5 (fun i hi k => nsep.1 (by have : i = d.c := k; rw [← this]; exact hi)), (s3.tk.get hm4 (fun k => s3.sepo _ k (.inr (.inr (.inl rfl)))) (fun k => s3.sepo _ k (.inr (.inr (.inr rfl))))).get m5 (fun k => nsep.2.2.2.1 (Eq.symm k)) (fun k => nsep.2.2.2.2 (Eq.symm k)), ⟨G ++ [(p2, body)], ?_, fun x hx => ?_, ?_⟩, hsepo2, nsep⟩
    · show _ = some (Ab.Obj.row true 4 [.ptr (some (d.s.g, 0)), i64 v.conn, .ptr (some (d.t, 0)), .sl po2 (v.O ++ [body]).length])
      rw [hO]
      exact H.obj_set_same box4
    · show SlIs _ po2 (v.O ++ [body]).length true 1 _
      rw [hO, List.flatMap_append]
      have e : [(p2, body)].flatMap slC = [.sl p2 m] := by rw [hml]; rfl
      rw [e]
      exact hs4.get m5 (fun i o e => .inl (fun k => hsepo2 i ⟨o, e⟩ (.inr (.inl k))))
    · rcases List.mem_append.1 hx with hx | hx
      · exact (((g2 x hx).get mP).get hm4).get m5
      · have : x = (p2, body) := by simpa using hx
        subst this
        show RoSl _ p2 body.length 1 _
        rw [← hml]
        exact ((rb.get mP).get hm4).get m5
    · rw [List.map_append, g3]
      rfl
  have o5 : COk (v.to v.s (v.O ++ [body])) := ⟨o.s, o.k, o.n0, by show (v.O ++ [body]).length ≤ 1000; omega, fun b hb => by
    have hb : b ∈ v.O ++ [body] := hb
    rcases List.mem_append.1 hb with hb | hb
    · exact o.ob b hb
    · have : b = body := by simpa using hb
      rw [this]
      omega⟩
  refine (cPays c5 o5 (by show v.s.N + ((v.O ++ [body]).length : Int) ≤ _; rw [hO]; omega) hn0 hn1).mono ?_
  rintro _ h6 ⟨q6, po6, rfl, gr6, c6, hs6, m6⟩
  conv => whnf
  have hv : pushV v now body = (((paysV now v.s (v.O ++ [body])).1.map (pg v), 0), v.to (paysV now v.s (v.O ++ [body])).2.1 (paysV now v.s (v.O ++ [body])).2.2) := by rw [pushV, if_neg (by rw [hov]; simp), if_neg (by omega)]
  rw [hv]
  have hn3 : h1.next ≤ (h2.push (.row true 1 [.sl p2 m])).next := Nat.le_trans m2.next mP.next
  refine ⟨q6, po6, by show V.tup [.sl q6 (paysV now v.s (v.O ++ [body])).1.length, i64 0] = V.tup [.sl q6 ((paysV now v.s (v.O ++ [body])).1.map (pg v)).length, i64 0]; rw [List.length_map], gr6, c6, fun i hi => ?_, ?_⟩
  · rcases hpo2 i (hs6 i hi) with k | k
    · exact .inl k
    · exact .inr (by omega)
  · refine (mo4.trans' m5 (S2 := chAll d po) (fun _ _ k => k) (fun _ _ k => .inl (.inr (.inl k)))).trans' m6 (S2 := chAll d po) (fun _ _ k => k) (fun i hi k => ?_)
    rcases k with k | k
    · exact .inl k
    · rcases hpo2 i k with k | k
      · exact .inr k
      · omega
def recvS (v : CV) (g : GV) : SV := (ackV v.s g.ack).2
/-- v, the datagram being in, and nothing paid yet -/
def recvM (v : CV) (g : GV) : CV := if g.kind = 1 then ⟨recvS v g, (tkV (recvS v g).W v.N v.C g.seq g.body).2.2.1, (tkV (recvS v g).W v.N v.C g.seq g.body).2.2.2, v.conn, v.O⟩ else { v with s := recvS v g }
def recvB (v : CV) (g : GV) : Bool := v.s.ov || decide (g.conn ≠ v.conn) || (decide (g.kind ≠ 1) && decide (g.kind ≠ 2))
def recvV (v : CV) (now : Int) (g : GV) : (List (List Int) × List GV) × CV :=
  if recvB v g = true then (([], []), v) else
    ((if g.kind = 1 then (tkV (recvS v g).W v.N v.C g.seq g.body).2.1 else [], (if g.kind = 1 then [⟨v.conn, 2, 0, (recvM v g).N, 0, []⟩] else []) ++ (paysV now (recvM v g).s v.O).1.map (pg (recvM v g))), (recvM v g).to (paysV now (recvM v g).s v.O).2.1 (paysV now (recvM v g).s v.O).2.2)
def RecvQ (h : H) (d : CId) (po : Option (Nat × Nat)) (R : (List (List Int) × List GV) × CV) (r : V) (h' : H) : Prop :=
  ∃ qr qg po', r = .tup [.sl qr R.1.1.length, .sl qg R.1.2.length] ∧ Rws h' qr R.1.1 ∧ Grams h' qg R.1.2 ∧ ChS h' d po' R.2 ∧ (∀ i, inSl po' i → inSl po i ∨ h.next ≤ i) ∧ Ab.Mod (chAll d po) h h'
theorem Rws.nil (h : H) : Rws h none [] := ⟨[], RoSl.nil _ _ _, (fun x hx => by cases hx), rfl⟩
theorem Grams.nil (h : H) : Grams h none [] := ⟨[], RoSl.nil _ _ _, (fun x hx => by cases hx), rfl⟩
theorem Rws.ro {h : H} {q : Option (Nat × Nat)} {L : List (List Int)} (s : Rws h q L) (i : Nat) : Rws (h.ro i) q L := by
  obtain ⟨G, h1, h2, h3⟩ := s
  exact ⟨G, h1.ro i, fun x hx => (h2 x hx).ro i, h3⟩
set_option maxHeartbeats 2000000 in
theorem cRecv {h : H} {d : CId} {po : Option (Nat × Nat)} {v : CV} (s : ChS h d po v) (o : COk v) (hN : v.s.N + v.O.length ≤ 10000000) (hNt : v.N ≤ 1000000) {now : Int} (hn0 : -1000000000 ≤ now) (hn1 : now ≤ 1000000000) {g : GV} {p : Option (Nat × Nat)} (gk : ∀ h', Ab.Mod (chAll d po) h h' → SlIs h' p g.body.length false 1 (ints .u8 g.body)) (hseq : inI g.seq) (hm : g.body.length ≤ 100000) :
    ACalls Tryz.prog 47 [.ptr (some (d.c, 0)), i64 now, .agg (gC (g, p))] h (RecvQ h d po (recvV v now g)) := by
  have hol := o.o
  have hlt : ∀ i, chAll d po i → i < h.next := fun i hi => s.lt hi
  refine ACalls.ro (Q := fun r h' => ∃ (qr qg po' : Option (Nat × Nat)) (G : List GP), r = .tup [.sl qr (recvV v now g).1.1.length, .sl qg G.length] ∧ Rws h' qr (recvV v now g).1.1 ∧ NewSl h h' qg G.length 6 (G.flatMap gC) ∧ (∀ x ∈ G, gOk h' x) ∧ G.map Prod.fst = (recvV v now g).1.2 ∧ ChS h' d po' (recvV v now g).2 ∧ (∀ i, inSl po' i → inSl po i) ∧ Ab.Mod (chAll d po) h h') ?_ (by
    rintro r h' ⟨qr, qg, po', G, rfl, rw', ng, gk', hg, sc, hs, m⟩
    obtain ⟨i, a1, a2, a3⟩ := ng.freeze m
    have hGL : G.length = (recvV v now g).1.2.length := by
      have := congrArg List.length hg
      simpa using this
    refine ⟨i, qr, qg, po', by rw [hGL], rw'.ro i, ⟨G, by rw [← hGL]; exact a2, fun x hx => (gk' x hx).ro i, hg⟩, sc.ro (fun k => ?_), fun i hi => .inl (hs i hi), a3⟩
    have : i < h.next := hlt i (k.elim .inl (fun k => .inr (hs i k)))
    omega)
  have mP := Mod.push none_ h (.row true 6 (gC (g, p)))
  have gm : (h.push (.row true 6 (gC (g, p)))).obj h.next = some (.row true 6 (gC (g, p))) := H.obj_push_new _ _
  have s1 := s.old mP
  have nay : recvB v g = true → ∀ hh, ChS hh d po v → Ab.Mod none_ h hh → ∃ (qr qg po' : Option (Nat × Nat)) (G : List GP), V.tup [.sl none 0, .sl none 0] = .tup [.sl qr (recvV v now g).1.1.length, .sl qg G.length] ∧ Rws hh qr (recvV v now g).1.1 ∧ NewSl h hh qg G.length 6 (G.flatMap gC) ∧ (∀ x ∈ G, gOk hh x) ∧ G.map Prod.fst = (recvV v now g).1.2 ∧ ChS hh d po' (recvV v now g).2 ∧ (∀ i, inSl po' i → inSl po i) ∧ Ab.Mod (chAll d po) h hh := fun e hh sc m => by
    have hv : recvV v now g = (([], []), v) := by rw [recvV, if_pos e]
    rw [hv]
    exact ⟨none, none, po, [], rfl, Rws.nil _, NewSl.nil _ _ _, (fun x hx => by cases hx), rfl, sc, fun _ k => k, m.mono (fun _ _ k => k.elim)⟩
  refine call_ Tryz.func47 rfl rfl (by kernel_rfl) ?_
  conv => whnf
  refine ⟨[0, 1, 2, 3, 4, 5, 6, 7, 8, 9, 10, 11, 12, 13, 14, 15, 16, 17, 18, 19, 20], [0, 1, 3, 7, 15, 7, 39, 103, 231, 511, 1023, 2047, 4095, 8191, 16383, 32767, 65535, 131071, 262143, 524287, 1048575], by kernel_rfl, ?_⟩
  conv => whnf
  refine (hOver s1).mono ?_
  rintro _ h1 ⟨eh, rfl⟩
  subst eh
  cases hov : v.s.ov with
  | true =>
    conv => whnf
    exact nay (by rw [recvB, hov]; rfl) _ s1 mP
  | false =>
  conv => whnf
  refine ⟨_, Cell.mk gm rfl, ?_⟩
  conv => whnf
  refine ⟨_, Cell.mk s1.box rfl, ?_⟩
  conv => whnf
  refine br_mk (fun ha => ?_) (fun ha => ?_)
  · conv => whnf
    have ha : g.conn ≠ v.conn := by simpa using ha
    exact nay (by rw [recvB, decide_eq_true ha]; simp) _ s1 mP
  have ha : g.conn = v.conn := by simpa using ha
  conv => whnf
  refine ⟨_, Cell.mk gm rfl, ?_⟩
  conv => whnf
  have hB : ∀ hk : g.kind = 1 ∨ g.kind = 2, recvB v g = false := fun hk => by
    rw [recvB, hov, decide_eq_false (fun k => k ha)]
    rcases hk with hk | hk <;> rw [hk] <;> rfl
  have hW : 1 ≤ v.s.W ∧ v.s.W ≤ 16 := by simpa [okW] using o.s.ok
  have o2 : SOk (recvS v g) := o.s.ack g.ack
  have hW2 : (recvS v g).W = v.s.W := ackV_W v.s g.ack
  have hN2 : (recvS v g).N = v.s.N := ackV_N v.s g.ack
  refine br_mk (fun hb => ?_) (fun hb => ?_)
  · conv => whnf
    have hb : g.kind ≠ 1 := by simpa using hb
    refine ⟨_, Cell.mk gm rfl, ?_⟩
    conv => whnf
    refine br_mk (fun hc => ?_) (fun hc => ?_)
    · conv => whnf
      have hc : g.kind ≠ 2 := by simpa using hc
      exact nay (by rw [recvB, decide_eq_true hb, decide_eq_true hc]; simp) _ s1 mP
    have hc : g.kind = 2 := by simpa using hc
    conv => whnf
    refine ⟨[0, 1, 2, 3, 4, 5, 6], [0, 1, 3, 7, 0, 16, 63], by kernel_rfl, ?_⟩
    conv => whnf
    refine ⟨_, Cell.mk s1.box rfl, ?_⟩
    conv => whnf
    refine ⟨_, Cell.mk gm rfl, ?_⟩
    conv => whnf
    refine (cAck s1.sd o.s g.ack).mono ?_
    rintro _ h2 ⟨rfl, t2, m2⟩
    have c2 := s1.sender t2 m2 hW2
    have hnd : ¬ d.s.all h.next := fun k => by
      have := hlt _ (.inl (.inl k))
      omega
    have gm2 := m2.get gm (.inl hnd)
    have mo2 : Ab.Mod (chAll d po) h h2 := mP.trans' m2 (fun _ _ k => k.elim) (fun _ _ k => .inl (.inl k))
    conv => whnf
    refine ⟨_, Cell.mk gm2 rfl, ?_⟩
    conv => whnf
    refine br_mk (fun hd => ?_) (fun hd => ?_)
    · exact absurd hd (by rw [show (g, p).1.kind = 2 from hc]; simp)
    conv => whnf
    have hM : recvM v g = { v with s := recvS v g } := by rw [recvM, if_neg hb]
    have oM : COk { v with s := recvS v g } := ⟨o2, by show OkH (recvS v g).W v.N v.C; rw [hW2]; exact o.k, o.n0, o.o, o.ob⟩
    refine (cPays c2 oM (by show (recvS v g).N + (v.O.length : Int) ≤ _; omega) hn0 hn1).mono ?_
    rintro _ h6 ⟨q6, po6, rfl, gr6, c6, hs6, m6⟩
    obtain ⟨G6, x1, x2, x3⟩ := gr6
    have mo6 := mo2.trans' m6 (S2 := chAll d po) (fun _ _ k => k) (fun _ _ k => k)
    have hpl := (pays_ok now v.O o2 o.ob).2.2.2.1
    have x1 : RoSl h6 q6 ((paysV now (recvS v g) v.O).1.map (pg { v with s := recvS v g })).length 6 (G6.flatMap gC) := x1
    rw [List.length_map] at x1
    conv => whnf
    refine ⟨_, _, SlIs.nil _ _ _, x1.is, by rw [show (T.at_ 58).bytes = 64 from rfl]; show (0 + (paysV now (recvS v g) v.O).1.length) * 64 ≤ _; omega, (by show 0 + (paysV now (recvS v g) v.O).1.length ≤ _; omega), fun p7 h7 hs7 hm7 hf7 => ?_⟩
    have n7 := NewSl.app (NewSl.nil h h6 6) hs7 hf7 mo6.next
    rw [List.nil_append, Nat.zero_add] at n7
    have mm : Ab.Mod none_ h6 h7 := hm7.mono (fun i _ k => by obtain ⟨o, k⟩ := k; cases k)
    conv => whnf
    have hv : recvV v now g = (([], (paysV now (recvS v g) v.O).1.map (pg { v with s := recvS v g })), (CV.to { v with s := recvS v g } (paysV now (recvS v g) v.O).2.1 (paysV now (recvS v g) v.O).2.2)) := by rw [recvV, if_neg (by rw [hB (.inr hc)]; simp), if_neg hb, if_neg hb, hM]; rfl
    rw [hv]
    have hGl : (paysV now (recvS v g) v.O).1.length = G6.length := by
      have := congrArg List.length x3
      rw [List.length_map, List.length_map] at this
      exact this.symm
    refine ⟨none, p7, po6, G6, ?_, Rws.nil _, by rw [← hGl]; exact n7, fun x hx => (x2 x hx).get mm, x3, c6.old mm, hs6, mo6.trans' mm (S2 := chAll d po) (fun _ _ k => k) (fun _ _ k => k.elim)⟩
    rw [Nat.zero_add]
    show V.tup [.sl none 0, .sl p7 (paysV now (recvS v g) v.O).1.length] = _
    rw [hGl]
    rfl
  · have hb : g.kind = 1 := by simpa using hb
    conv => whnf
    refine ⟨[0, 1, 2, 3, 4, 5, 6], [0, 1, 3, 7, 0, 16, 63], by kernel_rfl, ?_⟩
    conv => whnf
    refine ⟨_, Cell.mk s1.box rfl, ?_⟩
    conv => whnf
    refine ⟨_, Cell.mk gm rfl, ?_⟩
    conv => whnf
    refine (cAck s1.sd o.s g.ack).mono ?_
    rintro _ h2 ⟨rfl, t2, m2⟩
    have c2 := s1.sender t2 m2 hW2
    have hnd : ¬ d.s.all h.next := fun k => by
      have := hlt _ (.inl (.inl k))
      omega
    have gm2 := m2.get gm (.inl hnd)
    have mo2 : Ab.Mod (chAll d po) h h2 := mP.trans' m2 (fun _ _ k => k.elim) (fun _ _ k => .inl (.inl k))
    conv => whnf
    refine ⟨_, Cell.mk gm2 rfl, ?_⟩
    conv => whnf
    refine br_mk (fun hd => ?_) (fun hd => ?_)
    rotate_left
    · exact absurd hd (by rw [show (g, p).1.kind = 1 from hb]; simp)
    conv => whnf
    have hM : recvM v g = ⟨recvS v g, (tkV (recvS v g).W v.N v.C g.seq g.body).2.2.1, (tkV (recvS v g).W v.N v.C g.seq g.body).2.2.2, v.conn, v.O⟩ := by rw [recvM, if_pos hb]
    have okh : OkH (recvS v g).W v.N v.C := by rw [hW2]; exact o.k
    have okw : okW (recvS v g).W = true := by rw [hW2]; exact o.s.ok
    obtain ⟨oh2, on1, on2, on3⟩ := okh.take (by omega) g.seq g.body
    have hn0' := o.n0
    have gk2 : SlIs h2 p g.body.length false 1 (ints .u8 g.body) := gk h2 mo2
    refine ⟨[0, 1, 2, 3, 4, 5, 6, 7, 8, 9, 10, 11, 12], [0, 1, 3, 7, 0, 16, 0, 64, 255, 511, 1023, 1023, 2047], by kernel_rfl, ?_⟩
    conv => whnf
    refine ⟨_, Cell.mk c2.box rfl, ?_⟩
    conv => whnf
    refine ⟨_, Cell.mk gm2 rfl, ?_⟩
    conv => whnf
    refine ⟨_, Cell.mk gm2 rfl, ?_⟩
    conv => whnf
    refine (take29c c2.tk okw okh o.n0 hNt hseq gk2 hm).mono ?_
    rintro _ h3 ⟨q3, rfl, rw3, t3, m3⟩
    have c3 := c2.taker t3 m3
    have mo3 := mo2.trans' m3 (S2 := chAll d po) (fun _ _ k => k) (fun _ _ k => .inl (k.elim (fun k => .inr (.inr (.inl k))) (fun k => .inr (.inr (.inr k)))))
    conv => whnf
    refine ⟨_, rfl, ?_⟩
    conv => whnf
    refine ⟨_, rfl, ?_⟩
    conv => whnf
    refine ⟨[0, 1, 2, 3, 4, 5, 6, 7, 8, 9, 10, 11], [0, 1, 3, 7, 0, 16, 48, 112, 240, 511, 1023, 2047], by kernel_rfl, ?_⟩
    conv => whnf
    refine ⟨_, Cell.mk c3.box rfl, ?_⟩
    conv => whnf
    refine ⟨_, Cell.mk c3.box rfl, ?_⟩
    conv => whnf
    refine (next32c c3.tk).mono ?_
    rintro _ h4 ⟨eh, rfl⟩
    subst eh
    conv => whnf
    refine ⟨⟨_, Cell.mk c3.box rfl, rfl⟩, ?_⟩
    conv => whnf
    have oM : COk ⟨recvS v g, (tkV (recvS v g).W v.N v.C g.seq g.body).2.2.1, (tkV (recvS v g).W v.N v.C g.seq g.body).2.2.2, v.conn, v.O⟩ := ⟨o2, oh2, by show 0 ≤ (tkV (recvS v g).W v.N v.C g.seq g.body).2.2.1; omega, o.o, o.ob⟩
    have c3 : ChS h4 d po ⟨recvS v g, (tkV (recvS v g).W v.N v.C g.seq g.body).2.2.1, (tkV (recvS v g).W v.N v.C g.seq g.body).2.2.2, v.conn, v.O⟩ := c3
    have hv : recvV v now g = (((tkV (recvS v g).W v.N v.C g.seq g.body).2.1, [⟨v.conn, 2, 0, (recvM v g).N, 0, []⟩] ++ (paysV now (recvM v g).s v.O).1.map (pg (recvM v g))), (recvM v g).to (paysV now (recvM v g).s v.O).2.1 (paysV now (recvM v g).s v.O).2.2) := by rw [recvV, if_neg (by rw [hB (.inl hb)]; simp), if_pos hb, if_pos hb]
    rw [hM] at hv
    rw [hv]
    have rw3 : Rws h4 q3 (tkV (recvS v g).W v.N v.C g.seq g.body).2.1 := rw3
    obtain ⟨ga, hga⟩ : ∃ ga : GP, ga = (⟨v.conn, 2, 0, (tkV (recvS v g).W v.N v.C g.seq g.body).2.2.1, 0, []⟩, none) := ⟨_, rfl⟩
    have mQ := Mod.push none_ h4 (.row true 6 [i64 v.conn, i64 2, i64 0, i64 (tkV (recvS v g).W v.N v.C g.seq g.body).2.2.1, i64 0, .sl none 0])
    have nQ : SlIs (h4.push (.row true 6 [i64 v.conn, i64 2, i64 0, i64 (tkV (recvS v g).W v.N v.C g.seq g.body).2.2.1, i64 0, .sl none 0])) (some (h4.next, 0)) 1 true 6 [i64 v.conn, i64 2, i64 0, i64 (tkV (recvS v g).W v.N v.C g.seq g.body).2.2.1, i64 0, .sl none 0] := SlIs.row (n := 1) (H.obj_push_new _ _) rfl
    have hn4 := mo3.next
    have hqn : ¬ chAll d po h4.next := fun k => by
      have := hlt _ k
      omega
    refine (cPays (c3.old mQ) oM (by show (recvS v g).N + (v.O.length : Int) ≤ _; omega) hn0 hn1).mono ?_
    rintro _ h6 ⟨q6, po6, rfl, gr6, c6, hs6, m6⟩
    obtain ⟨G6, x1, x2, x3⟩ := gr6
    have nQ6 := nQ.get m6 (fun i o e => .inl (fun k => by
      injection e with e
      injection e with e _
      exact hqn (by rw [e]; exact k)))
    have mo6 := (mo3.trans' mQ (S2 := chAll d po) (fun _ _ k => k) (fun _ _ k => k.elim)).trans' m6 (S2 := chAll d po) (fun _ _ k => k) (fun _ _ k => k)
    have hpl := (pays_ok now v.O o2 o.ob).2.2.2.1
    have x1 : RoSl h6 q6 ((paysV now (recvS v g) v.O).1.map (pg ⟨recvS v g, (tkV (recvS v g).W v.N v.C g.seq g.body).2.2.1, (tkV (recvS v g).W v.N v.C g.seq g.body).2.2.2, v.conn, v.O⟩)).length 6 (G6.flatMap gC) := x1
    rw [List.length_map] at x1
    conv => whnf
    refine ⟨_, _, nQ6, x1.is, by rw [show (T.at_ 58).bytes = 64 from rfl]; show (1 + (paysV now (recvS v g) v.O).1.length) * 64 ≤ _; omega, (by show 1 + (paysV now (recvS v g) v.O).1.length ≤ _; omega), fun p7 h7 hs7 hm7 hf7 => ?_⟩
    have mm : Ab.Mod (one h4.next) h6 h7 := hm7.mono (fun i _ k => by
      obtain ⟨o, k⟩ := k
      injection k with k
      injection k with k _
      exact k.symm)
    have hGl : (paysV now (recvS v g) v.O).1.length = G6.length := by
      have := congrArg List.length x3
      rw [List.length_map, List.length_map] at this
      exact this.symm
    have hgc : [i64 v.conn, i64 2, i64 0, i64 (tkV (recvS v g).W v.N v.C g.seq g.body).2.2.1, i64 0, .sl none 0] ++ G6.flatMap gC = (ga :: G6).flatMap gC := by
      rw [hga]
      rfl
    have n7 : NewSl h h7 p7 (ga :: G6).length 6 ((ga :: G6).flatMap gC) := by
      rw [List.length_cons, ← hGl, Nat.add_comm, ← hgc]
      refine ⟨hs7, fun i o e => ?_⟩
      rcases hf7 i o e with k | k
      · rw [e] at k
        injection k with k
        injection k with k _
        omega
      · have := mo6.next
        omega
    conv => whnf
    refine ⟨q3, p7, po6, ga :: G6, ?_, ((rw3.get mQ).get m6).get mm, n7, fun x hx => ?_, ?_, c6.get mm (fun i hi k => ?_), hs6, mo6.trans' mm (S2 := chAll d po) (fun _ _ k => k) (fun i hi k => ?_)⟩
    · show V.tup [.sl q3 (tkV (recvS v g).W v.N v.C g.seq g.body).2.1.length, .sl p7 (1 + (paysV now (recvS v g) v.O).1.length)] = _
      rw [hGl, Nat.add_comm]
      rfl
    · rcases List.mem_cons.1 hx with rfl | hx
      · rw [hga]
        exact RoSl.nil _ _ _
      · exact (x2 x hx).get mm
    · rw [List.map_cons, x3, hga]
      rfl
    · have e : i = h4.next := k
      have := hlt i (hi.elim .inl (fun k => .inr (hs6 i k)))
      omega
    · have e : i = h4.next := k
      omega
theorem push_cok {v : CV} (o : COk v) (now : Int) {b : List Int} (hb : b.length ≤ 100000) : COk (pushV v now b).2 := by
  have hol := o.o
  unfold pushV
  split
  · exact o
  · split
    · exact o
    · rename_i h1 h2
      obtain ⟨i1, i2, i3, i4, i5⟩ := pays_ok now (v.O ++ [b]) o.s (fun c hc => by
        rcases List.mem_append.1 hc with hc | hc
        · exact o.ob c hc
        · have : c = b := by simpa using hc
          rw [this]; exact hb)
      have hl : (v.O ++ [b]).length = v.O.length + 1 := by simp
      refine ⟨i1, ?_, o.n0, ?_, fun c hc => ?_⟩
      · show OkH (paysV now v.s (v.O ++ [b])).2.1.W v.N v.C
        rw [i2]
        exact o.k
      · show (paysV now v.s (v.O ++ [b])).2.2.length ≤ 1000
        omega
      · have hc := i3 c hc
        rcases List.mem_append.1 hc with hc | hc
        · exact o.ob c hc
        · have : c = b := by simpa using hc
          rw [this]; exact hb
theorem recv_cok {v : CV} (o : COk v) (now : Int) (g : GV) : COk (recvV v now g).2 := by
  have hol := o.o
  have o2 : SOk (recvS v g) := o.s.ack g.ack
  have hW2 : (recvS v g).W = v.s.W := ackV_W v.s g.ack
  have hW : 1 ≤ v.s.W ∧ v.s.W ≤ 16 := by simpa [okW] using o.s.ok
  have okh : OkH (recvS v g).W v.N v.C := by rw [hW2]; exact o.k
  obtain ⟨oh2, on1, on2, on3⟩ := okh.take (by omega) g.seq g.body
  have hn0' := o.n0
  have oM : COk (recvM v g) := by
    unfold recvM
    split
    · exact ⟨o2, oh2, by show 0 ≤ (tkV (recvS v g).W v.N v.C g.seq g.body).2.2.1; omega, o.o, o.ob⟩
    · exact ⟨o2, okh, o.n0, o.o, o.ob⟩
  unfold recvV
  split
  · exact o
  · obtain ⟨i1, i2, i3, i4, i5⟩ := pays_ok now v.O oM.s o.ob
    refine ⟨i1, ?_, oM.n0, ?_, fun c hc => o.ob c (i3 c hc)⟩
    · show OkH (paysV now (recvM v g).s v.O).2.1.W (recvM v g).N (recvM v g).C
      rw [i2]
      exact oM.k
    · show (paysV now (recvM v g).s v.O).2.2.length ≤ 1000
      omega
def passM (v : CV) (now : Int) : CV := { v with s := (againV v.s now).2 }
def passV (v : CV) (now : Int) : (List GV × Int) × CV :=
  if (againV v.s now).1.2 = 0 then (((againV v.s now).1.1.map (dataV (passM v now)) ++ (paysV now (passM v now).s v.O).1.map (pg (passM v now)), 0), (passM v now).to (paysV now (passM v now).s v.O).2.1 (paysV now (passM v now).s v.O).2.2)
  else (([], (againV v.s now).1.2), passM v now)
theorem againV_W (s : SV) (now : Int) : (againV s now).2.W = s.W ∧ (againV s now).2.N = s.N ∧ ((againV s now).1.2 = 0 ∨ (againV s now).1.2 = 6) ∧ (s.ov = true → (againV s now) = (([], 6), s)) := by
  unfold againV
  by_cases h1 : s.ov = true
  · rw [if_pos h1]
    exact ⟨rfl, rfl, .inr rfl, fun _ => rfl⟩
  · rw [if_neg h1]
    split
    · exact ⟨rfl, rfl, .inl rfl, fun h => absurd h h1⟩
    · exact ⟨rfl, rfl, .inr rfl, fun h => absurd h h1⟩
theorem again_len {s : SV} (o : SOk s) (now : Int) : (againV s now).1.1.length ≤ 16 := by
  have := o.small
  unfold againV
  split
  · simp
  · split
    · exact Nat.le_trans (agS_le _ _ _) this.2
    · simp
theorem pass_cok {v : CV} (o : COk v) (now : Int) : COk (passV v now).2 := by
  have hol := o.o
  obtain ⟨w1, w2, _, _⟩ := againV_W v.s now
  have oM : COk (passM v now) := ⟨o.s.again now, by show OkH (againV v.s now).2.W v.N v.C; rw [w1]; exact o.k, o.n0, o.o, o.ob⟩
  unfold passV
  split
  · obtain ⟨i1, i2, i3, i4, i5⟩ := pays_ok now v.O oM.s o.ob
    refine ⟨i1, ?_, oM.n0, ?_, fun c hc => o.ob c (i3 c hc)⟩
    · show OkH (paysV now (passM v now).s v.O).2.1.W (passM v now).N (passM v now).C
      rw [i2]
      exact oM.k
    · show (paysV now (passM v now).s v.O).2.2.length ≤ 1000
      omega
  · exact oM
set_option maxHeartbeats 2000000 in
theorem cPass {h : H} {d : CId} {po : Option (Nat × Nat)} {v : CV} (s : ChS h d po v) (o : COk v) (hN : v.s.N + v.O.length ≤ 10000000) {now : Int} (hn0 : -1000000000 ≤ now) (hn1 : now ≤ 1000000000) :
    ACalls Tryz.prog 40 [.ptr (some (d.c, 0)), i64 now] h (PushQ h d po (passV v now)) := by
  have hol := o.o
  have hlt : ∀ i, chAll d po i → i < h.next := fun i hi => s.lt hi
  obtain ⟨w1, w2, w3, w4⟩ := againV_W v.s now
  have wl := again_len o.s now
  refine ACalls.ro (Q := fun r h' => ∃ (q po' : Option (Nat × Nat)) (G : List GP), r = .tup [.sl q G.length, i64 (passV v now).1.2] ∧ NewSl h h' q G.length 6 (G.flatMap gC) ∧ (∀ x ∈ G, gOk h' x) ∧ G.map Prod.fst = (passV v now).1.1 ∧ ChS h' d po' (passV v now).2 ∧ (∀ i, inSl po' i → inSl po i) ∧ Ab.Mod (chAll d po) h h') ?_ (by
    rintro r h' ⟨q, po', G, rfl, ng, gk, hg, sc, hs, m⟩
    obtain ⟨i, a1, a2, a3⟩ := ng.freeze m
    have hGL : G.length = (passV v now).1.1.length := by
      have := congrArg List.length hg
      simpa using this
    refine ⟨i, q, po', by rw [hGL], ⟨G, by rw [← hGL]; exact a2, fun x hx => (gk x hx).ro i, hg⟩, sc.ro (fun k => ?_), fun i hi => .inl (hs i hi), a3⟩
    have : i < h.next := hlt i (k.elim .inl (fun k => .inr (hs i k)))
    omega)
  have nay : ∀ e : Int, (againV v.s now).1.2 = e → e ≠ 0 → ∀ hh, ChS hh d po (passM v now) → Ab.Mod (chAll d po) h hh → ∃ (q po' : Option (Nat × Nat)) (G : List GP), V.tup [.sl none 0, i64 e] = .tup [.sl q G.length, i64 (passV v now).1.2] ∧ NewSl h hh q G.length 6 (G.flatMap gC) ∧ (∀ x ∈ G, gOk hh x) ∧ G.map Prod.fst = (passV v now).1.1 ∧ ChS hh d po' (passV v now).2 ∧ (∀ i, inSl po' i → inSl po i) ∧ Ab.Mod (chAll d po) h hh := fun e he hne hh sc m => by
    have hv : passV v now = (([], e), passM v now) := by rw [passV, if_neg (by rw [he]; exact hne), he]
    rw [hv]
    exact ⟨none, po, [], rfl, NewSl.nil _ _ _, (fun x hx => by cases hx), rfl, sc, fun _ k => k, m⟩
  refine call_ Tryz.func40 rfl rfl (by kernel_rfl) ?_
  conv => whnf
  refine (hOver s).mono ?_
  rintro _ h1 ⟨eh, rfl⟩
  rw [eh]
  clear eh h1
  cases hov : v.s.ov with
  | true =>
    conv => whnf
    have e6 := w4 hov
    refine nay 6 (by rw [e6]) (by decide) _ ?_ (mod_refl _ _)
    have : passM v now = v := by rw [passM, e6]
    rw [this]
    exact s
  | false =>
  conv => whnf
  refine ⟨_, Cell.mk s.box rfl, ?_⟩
  conv => whnf
  refine (cAgain s.sd o.s hn0 hn1).mono ?_
  rintro _ h2 ⟨qa, rfl, ra, t2, m2⟩
  have c2 : ChS h2 d po (passM v now) := s.sender t2 m2 w1
  have mo2 : Ab.Mod (chAll d po) h h2 := m2.mono (fun _ _ k => .inl (.inl k))
  conv => whnf
  refine ⟨_, rfl, ?_⟩
  conv => whnf
  refine ⟨_, rfl, ?_⟩
  conv => whnf
  rcases w3 with w3 | w3
  rotate_left
  · rw [w3]
    conv => whnf
    exact nay 6 w3 (by decide) _ c2 mo2
  have hv : passV v now = (((againV v.s now).1.1.map (dataV (passM v now)) ++ (paysV now (passM v now).s v.O).1.map (pg (passM v now)), 0), (passM v now).to (paysV now (passM v now).s v.O).2.1 (paysV now (passM v now).s v.O).2.2) := by rw [passV, if_pos w3]
  rw [w3]
  have oM : SOk (passM v now).s := o.s.again now
  have cM : COk (passM v now) := ⟨oM, by show OkH (againV v.s now).2.W v.N v.C; rw [w1]; exact o.k, o.n0, o.o, o.ob⟩
  have hMN : (passM v now).s.N = v.s.N := w2
  generalize hl : (againV v.s now).1.1 = l at ra hv wl
  clear nay
  conv => whnf
  refine ⟨fun env hh => ∃ (k : Nat) (zk : Int) (G : List GP) (qg : Option (Nat × Nat)), k ≤ l.length ∧ zk = k ∧ G.length = k ∧ G.map Prod.fst = (l.take k).map (dataV (passM v now)) ∧ NewSl h hh qg k 6 (G.flatMap gC) ∧ (∀ x ∈ G, gOk hh x) ∧ ChS hh d po (passM v now) ∧ RoSl hh qa l.length 1 (ints .i64 l) ∧ Ab.Mod (chAll d po) h hh ∧ env = [(25, i64 zk), (4, .sl qg k), (24, i64 l.length), (23, .sl qa l.length), (0, .ptr (some (d.c, 0))), (1, i64 now)],
    fun env _ => match get env 25 with
      | .int _ z => ((l.length : Int) - z).toNat
      | _ => 0, ⟨_, Forget.cons rfl (Forget.cons rfl (Forget.cons rfl (Forget.cons rfl (Forget.cons rfl (Forget.cons rfl (Forget.nil _)))))), 0, _, [], none, Nat.zero_le _, rfl, rfl, rfl, NewSl.nil _ _ _, (fun x hx => by cases hx), c2, ra, mo2, rfl⟩, ?_⟩
  clear c2 ra mo2 t2 m2 s
  rintro _ hh ⟨k, zk, G, qg, hk, rfl, hGk, hG, ng, gk, c2, ra, mo, rfl⟩
  conv => whnf
  refine br_mk (fun hx => ?_) (fun hx => ?_)
  · conv => whnf
    have hx : k < l.length := by simpa using hx
    obtain ⟨i1, c1, x1, x2⟩ := slo_get ra.is hx
    refine ⟨i1, c1, k, x1, rfl, hx, ?_⟩
    conv => whnf
    refine ⟨_, x2, ?_⟩
    conv => whnf
    refine (cData c2 oM (l.getD k 0)).mono ?_
    rintro _ h7 ⟨pp, rfl, gp, m7⟩
    have c7 := c2.old m7
    have ng7 : NewSl h h7 qg k 6 (G.flatMap gC) := ⟨SlIs.old ng.1 m7 (fun _ _ k => k), ng.2⟩
    have mo7 := mo.trans' m7 (S2 := chAll d po) (fun _ _ k => k) (fun _ _ k => k.elim)
    conv => whnf
    obtain ⟨y1, y2, y3⟩ := app1 ng7 mo7 (gC (dataV (passM v now) (l.getD k 0), pp)) rfl
    refine ⟨_, _, y1, y2, by rw [show (T.at_ 58).bytes = 64 from rfl]; omega, by omega, fun qg2 hY hs2 hm2 hf2 => ?_⟩
    obtain ⟨ng8, mo8, my⟩ := y3 qg2 hY hs2 hm2 hf2
    have e6 : G.flatMap gC ++ gC (dataV (passM v now) (l.getD k 0), pp) = (G ++ [(dataV (passM v now) (l.getD k 0), pp)]).flatMap gC := by rw [List.flatMap_append]; simp
    rw [e6] at ng8
    conv => whnf
    rw [succ_i64 hx (by omega)]
    have hq8 : ∀ i, inSl qg i → h.next ≤ i := fun i ⟨o, e⟩ => ng.2 i o e
    refine ⟨_, Forget.cons rfl (Forget.cons rfl (Forget.cons rfl (Forget.cons rfl (Forget.cons rfl (Forget.cons rfl (Forget.nil _)))))), ⟨k + 1, _, G ++ [(dataV (passM v now) (l.getD k 0), pp)], qg2, hx, rfl, by simp [hGk], ?_, ng8, fun y hy => ?_, c7.get my (fun i hi k => ?_), (ra.get m7).get my, mo8, rfl⟩, ?_⟩
    · rw [List.map_append, hG, take_snoc_ hx, List.map_append]
      rfl
    · rcases List.mem_append.1 hy with hy | hy
      · exact ((gk y hy).get m7).get my
      · have : y = (dataV (passM v now) (l.getD k 0), pp) := by simpa using hy
        subst this
        exact gp.get my
    · have := hq8 i k
      have : i < h.next := hlt i hi
      omega
    · show ((l.length : Int) - ((k + 1 : Nat) : Int)).toNat < ((l.length : Int) - (k : Int)).toNat
      omega
  conv => whnf
  have hx : k = l.length := by
    have : ¬ k < l.length := by simpa using hx
    omega
  subst hx
  rw [List.take_length] at hG
  refine (cPays c2 cM (by show (passM v now).s.N + (v.O.length : Int) ≤ _; omega) hn0 hn1).mono ?_
  rintro _ h6 ⟨q6, po6, rfl, gr6, c6, hs6, m6⟩
  obtain ⟨G6, x1, x2, x3⟩ := gr6
  have hq8 : ∀ i, inSl qg i → h.next ≤ i := fun i ⟨o, e⟩ => ng.2 i o e
  have ng6 : NewSl h h6 qg l.length 6 (G.flatMap gC) := ⟨ng.1.get m6 (fun i o e => .inl (fun k => by
    have := hlt i k
    have := ng.2 i o e
    omega)), ng.2⟩
  have mo6 := mo.trans' m6 (S2 := chAll d po) (fun _ _ k => k) (fun _ _ k => k)
  have hpl := (pays_ok now v.O oM o.ob).2.2.2.1
  have x1 : RoSl h6 q6 ((paysV now (passM v now).s v.O).1.map (pg (passM v now))).length 6 (G6.flatMap gC) := x1
  rw [List.length_map] at x1
  have hGl : (paysV now (passM v now).s v.O).1.length = G6.length := by
    have := congrArg List.length x3
    rw [List.length_map, List.length_map] at this
    exact this.symm
  conv => whnf
  refine ⟨_, _, ng6.1, x1.is, by rw [show (T.at_ 58).bytes = 64 from rfl]; show (l.length + (paysV now (passM v now).s v.O).1.length) * 64 ≤ _; omega, (by show l.length + (paysV now (passM v now).s v.O).1.length ≤ _; omega), fun p7 h7 hs7 hm7 hf7 => ?_⟩
  obtain ⟨ng8, mo8⟩ := appN ng6 mo6 p7 h7 hs7 hm7 hf7
  have hln : l.length + (paysV now (passM v now).s v.O).1.length = (G ++ G6).length := by rw [List.length_append, hGk, hGl]
  have ng8 : NewSl h h7 p7 (l.length + (paysV now (passM v now).s v.O).1.length) 6 (G.flatMap gC ++ G6.flatMap gC) := ng8
  rw [hln, ← List.flatMap_append] at ng8
  conv => whnf
  rw [hv]
  refine ⟨p7, po6, G ++ G6, ?_, ng8, fun x hx => ?_, ?_, c6.get hm7 (fun i hi k => ?_), hs6, mo8⟩
  · rw [← hln]
    rfl
  · rcases List.mem_append.1 hx with hx | hx
    · exact ((gk x hx).get m6).get hm7
    · exact (x2 x hx).get hm7
  · rw [List.map_append, hG, x3]
    rfl
  · have := hq8 i k
    have := hlt i (hi.elim .inl (fun k => .inr (hs6 i k)))
    omega
theorem Rws.tail {h : H} {po : Option (Nat × Nat)} {b : List Int} {O : List (List Int)} (s : Rws h po (b :: O)) : Rws h (slp po (1 * 1)) O := by
  obtain ⟨G, g1, g2, g3⟩ := s
  cases G with
  | nil => cases g3
  | cons x G =>
    have g3 : x.2 :: G.map Prod.snd = b :: O := g3
    injection g3 with g3 g4
    have hk : (1 : Nat) ≤ (b :: O).length := by rw [List.length_cons]; omega
    have c := g1.cut (l := 1) (m := (b :: O).length) hk (Nat.le_refl _)
    have e1 : (b :: O).length - 1 = O.length := rfl
    have e2 : ((x :: G).flatMap slC).drop (1 * 1) = G.flatMap slC := rfl
    have hGl : G.length = O.length := by rw [← g4]; simp
    rw [e1, e2, List.take_of_length_le (by rw [flat_length slC_len, hGl]; exact Nat.le_refl _)] at c
    exact ⟨G, c, fun y hy => g2 y (List.mem_cons_of_mem _ hy), g4⟩
/-- from here on row i is written no more -/
theorem froz {P : Go.Program} {f : Nat} {args : List V} {h : H} {Q : V → H → Prop} (i : Nat) (c : ACalls P f args (h.ro i) Q) : ACalls P f args h Q :=
  ⟨c.1, fun ρ w vs r d v => (c.2 ρ w vs (r.ro i) d v).mono fun e w' ⟨x, h', ρ', u, e1, q, k1, k2, k3, s⟩ =>
    ⟨x, h', ρ', u, e1, q, k1, k2, k3, ⟨s.ext, s.os, s.tape, s.output, s.size, s.next, fun b hb hn => s.frame b hb (fun j ob l h1 h2 h3 => by
      obtain ⟨ob0, k1, k2, _⟩ := H.ro_old h1
      exact hn j ob0 l k1 (k2 h2) h3), fun j ob l h1 h2 h3 => by
      rcases s.own j ob l h1 h2 h3 with ⟨k, ok, lk, a, b, c, d⟩ | q
      · obtain ⟨ob0, k1, k2, _⟩ := H.ro_old a
        exact .inl ⟨k, ob0, lk, k1, k2 b, c, d⟩
      · exact .inr q⟩⟩⟩
def OctH (C : Hd) : Prop := ∀ x ∈ C, Oct x.2
theorem OctH.ins {C : Hd} (s : OctH C) {b : List Int} (hb : Oct b) (k : Int) : OctH (insS C k b) := fun x hx => by
  rw [insS, List.mem_append, List.mem_cons] at hx
  rcases hx with hx | rfl | hx
  · exact s x (List.mem_filter.1 hx).1
  · exact hb
  · exact s x (List.mem_filter.1 hx).1
theorem OctH.send {v : SV} (s : OctH v.C) {b : List Int} (hb : Oct b) (now : Int) : OctH (sendV v now b).2.C := by
  unfold sendV
  split
  · exact s
  · split
    · exact s
    · exact s.ins hb v.N
theorem OctH.ack {v : SV} (s : OctH v.C) (a : Int) : OctH (ackV v a).2.C := by
  unfold ackV
  split
  · exact s
  · exact fun x hx => s x (List.mem_filter.1 hx).1
theorem OctH.again {v : SV} (s : OctH v.C) (a : Int) : OctH (againV v a).2.C := by
  unfold againV
  split
  · exact s
  · split <;> exact s
theorem OctH.body {v : SV} (s : OctH v.C) (o : SOk v) (x : Int) : Oct (bodyV v.C x) := by
  unfold bodyV
  cases e : sget v.C x with
  | none => exact fun y hy => by cases hy
  | some w => exact s (x, w) ((sget_mem o.asc.nodup).1 e)
/-- all bodies are octets -/
structure OV (v : CV) : Prop where
  c : OctH v.s.C
  t : OctH v.C
  o : ∀ b ∈ v.O, Oct b
/-- a datagram that may be handed in -/
structure GO (g : GV) : Prop where
  oct : Oct g.body
  seq : inI g.seq
  len : g.body.length ≤ 100000
theorem chn_got {β : Type} {P : β → Prop} : ∀ (N : Int) (C : List (Int × β)), (∀ x ∈ C, P x.2) → (∀ b ∈ (chn N C).1, P b) ∧ (∀ x ∈ (chn N C).2.2, P x.2)
  | N, [], _ => ⟨(fun b hb => by cases hb), (fun x hx => by cases hx)⟩
  | N, p :: C, h => by
    rw [chn]
    by_cases e : p.1 = N
    · rw [if_pos e]
      obtain ⟨i1, i2⟩ := chn_got (P := P) (N + 1) C (fun x hx => h x (List.mem_cons_of_mem _ hx))
      refine ⟨fun b hb => ?_, i2⟩
      rcases List.mem_cons.1 hb with rfl | hb
      · exact h p (by simp)
      · exact i1 b hb
    · rw [if_neg e]
      exact ⟨(fun b hb => by cases hb), h⟩
theorem tk_oct {W N : Int} {C : Hd} (s : OctH C) (seq : Int) {b : List Int} (hb : Oct b) : (∀ c ∈ (tkV W N C seq b).2.1, Oct c) ∧ OctH (tkV W N C seq b).2.2.2 := by
  unfold tkV
  split
  · exact chn_got N _ (s.ins hb seq)
  · exact ⟨(fun c hc => by cases hc), s⟩
theorem i64_in' {k : Int} (h0 : 0 ≤ k) (h1 : k ≤ 100000000) : inI k := i64_in (by omega) (by omega)
theorem pays_oct (now : Int) : ∀ (O : List (List Int)) {s : SV}, SOk s → OctH s.C → (∀ b ∈ O, b.length ≤ 100000) → (∀ b ∈ O, Oct b) → s.N + O.length ≤ 100000000 → OctH (paysV now s O).2.1.C ∧ (∀ b ∈ (paysV now s O).2.2, Oct b) ∧ ∀ x ∈ (paysV now s O).1, Oct x.2 ∧ inI x.1 ∧ x.2.length ≤ 100000
  | [], s, o, hc, _, ho, hn => ⟨hc, ho, (fun x hx => by cases hx)⟩
  | b :: O, s, o, hc, hl, ho, hn => by
    have hlc : (b :: O).length = O.length + 1 := rfl
    have hn0 := o.n0
    by_cases hr : 0 < roomOf s
    · obtain ⟨_, _, z3, z4⟩ := send_room o hr now b
      obtain ⟨i1, i2, i3⟩ := pays_oct now O (o.send now (body := b) (hl b (by simp))) (hc.send (ho b (by simp)) now) (fun c hc => hl c (List.mem_cons_of_mem _ hc)) (fun c hc => ho c (List.mem_cons_of_mem _ hc)) (by omega)
      rw [paysV, if_pos hr]
      refine ⟨i1, i2, fun x hx => ?_⟩
      rcases List.mem_cons.1 hx with rfl | hx
      · exact ⟨ho b (by simp), i64_in' hn0 (by show s.N ≤ _; omega), hl b (by simp)⟩
      · exact i3 x hx
    · rw [paysV, if_neg hr]
      exact ⟨hc, ho, (fun x hx => by cases hx)⟩
/-- how many went, and go -/
def CV.cnt (v : CV) : Int := v.s.N + v.O.length
theorem push_ov {v : CV} (o : COk v) (c : OV v) (hN : v.cnt ≤ 10000000) (now : Int) {b : List Int} (hb : Oct b) (hl : b.length ≤ 100000) : OV (pushV v now b).2 ∧ (∀ g ∈ (pushV v now b).1.1, GO g) ∧ (pushV v now b).2.cnt ≤ v.cnt + 1 ∧ (pushV v now b).2.N = v.N ∧ (pushV v now b).2.conn = v.conn := by
  unfold CV.cnt at *
  unfold pushV
  split
  · exact ⟨c, (fun g hg => by cases hg), (by show v.s.N + (v.O.length : Int) ≤ _; omega), rfl, rfl⟩
  · split
    · exact ⟨c, (fun g hg => by cases hg), (by show v.s.N + (v.O.length : Int) ≤ _; omega), rfl, rfl⟩
    · have hol : ∀ c ∈ v.O ++ [b], c.length ≤ 100000 := fun c hc => by
        rcases List.mem_append.1 hc with hc | hc
        · exact o.ob c hc
        · have : c = b := by simpa using hc
          rw [this]; exact hl
      have hoo : ∀ c ∈ v.O ++ [b], Oct c := fun d hd => by
        rcases List.mem_append.1 hd with hd | hd
        · exact c.o d hd
        · have : d = b := by simpa using hd
          rw [this]; exact hb
      have hle : (v.O ++ [b]).length = v.O.length + 1 := by simp
      obtain ⟨i1, i2, i3⟩ := pays_oct now (v.O ++ [b]) o.s c.c hol hoo (by rw [hle]; omega)
      obtain ⟨j1, j2, j3, j4, j5⟩ := pays_ok now (v.O ++ [b]) o.s hol
      refine ⟨⟨i1, c.t, i2⟩, fun g hg => ?_, ?_, rfl, rfl⟩
      · obtain ⟨x, hx, rfl⟩ := List.mem_map.1 hg
        exact ⟨(i3 x hx).1, (i3 x hx).2.1, (i3 x hx).2.2⟩
      · show (paysV now v.s (v.O ++ [b])).2.1.N + ((paysV now v.s (v.O ++ [b])).2.2.length : Int) ≤ _
        omega
theorem recv_ov {v : CV} (o : COk v) (c : OV v) (hN : v.cnt ≤ 10000000) (now : Int) {g : GV} (hg : GO g) : OV (recvV v now g).2 ∧ (∀ b ∈ (recvV v now g).1.1, Oct b) ∧ (∀ g' ∈ (recvV v now g).1.2, GO g') ∧ (recvV v now g).2.cnt ≤ v.cnt ∧ (recvV v now g).2.N ≤ v.N + 16 ∧ (recvV v now g).2.conn = v.conn ∧ (recvV v now g).1.1.length ≤ 16 := by
  have hW : 1 ≤ v.s.W ∧ v.s.W ≤ 16 := by simpa [okW] using o.s.ok
  have o2 : SOk (recvS v g) := o.s.ack g.ack
  have hW2 : (recvS v g).W = v.s.W := ackV_W v.s g.ack
  have hN2 : (recvS v g).N = v.s.N := ackV_N v.s g.ack
  have c2 : OctH (recvS v g).C := c.c.ack g.ack
  have okh : OkH (recvS v g).W v.N v.C := by rw [hW2]; exact o.k
  obtain ⟨oh2, on1, on2, on3⟩ := okh.take (by omega) g.seq g.body
  obtain ⟨t1, t2⟩ := tk_oct (W := (recvS v g).W) (N := v.N) c.t g.seq hg.oct
  unfold CV.cnt at *
  obtain ⟨i1, i2, i3⟩ := pays_oct now v.O o2 c2 o.ob c.o (by omega)
  obtain ⟨j1, j2, j3, j4, j5⟩ := pays_ok now v.O o2 o.ob
  unfold recvV
  split
  · exact ⟨c, (fun b hb => by cases hb), (fun b hb => by cases hb), Int.le_refl _, (by show v.N ≤ _; omega), rfl, (by show 0 ≤ 16; omega)⟩
  · rename_i hB
    have hs : (recvM v g).s = recvS v g := by
      unfold recvM
      split <;> rfl
    refine ⟨⟨?_, ?_, ?_⟩, ?_, ?_, ?_, ?_, ?_, ?_⟩
    · show OctH (paysV now (recvM v g).s v.O).2.1.C
      rw [hs]
      exact i1
    · show OctH (recvM v g).C
      unfold recvM
      split
      · exact t2
      · exact c.t
    · show ∀ b ∈ (paysV now (recvM v g).s v.O).2.2, Oct b
      rw [hs]
      exact i2
    · intro b hb
      by_cases hk : g.kind = 1
      · have hb : b ∈ (if g.kind = 1 then (tkV (recvS v g).W v.N v.C g.seq g.body).2.1 else []) := hb
        rw [if_pos hk] at hb
        exact t1 b hb
      · have hb : b ∈ (if g.kind = 1 then (tkV (recvS v g).W v.N v.C g.seq g.body).2.1 else []) := hb
        rw [if_neg hk] at hb
        cases hb
    · intro x hx
      have hx : x ∈ (if g.kind = 1 then [(⟨v.conn, 2, 0, (recvM v g).N, 0, []⟩ : GV)] else []) ++ (paysV now (recvM v g).s v.O).1.map (pg (recvM v g)) := hx
      rcases List.mem_append.1 hx with hx | hx
      · by_cases hk : g.kind = 1
        · rw [if_pos hk] at hx
          have : x = ⟨v.conn, 2, 0, (recvM v g).N, 0, []⟩ := by simpa using hx
          rw [this]
          exact ⟨(fun y hy => by cases hy), i64_in' (Int.le_refl _) (by show (0 : Int) ≤ _; decide), Nat.zero_le _⟩
        · rw [if_neg hk] at hx
          cases hx
      · rw [hs] at hx
        obtain ⟨y, hy, rfl⟩ := List.mem_map.1 hx
        exact ⟨(i3 y hy).1, (i3 y hy).2.1, (i3 y hy).2.2⟩
    · show (paysV now (recvM v g).s v.O).2.1.N + ((paysV now (recvM v g).s v.O).2.2.length : Int) ≤ _
      rw [hs]
      omega
    · show (recvM v g).N ≤ _
      unfold recvM
      split
      · show (tkV (recvS v g).W v.N v.C g.seq g.body).2.2.1 ≤ _
        omega
      · show v.N ≤ _
        omega
    · show (recvM v g).conn = v.conn
      unfold recvM
      split <;> rfl
    · show (if g.kind = 1 then (tkV (recvS v g).W v.N v.C g.seq g.body).2.1 else []).length ≤ 16
      split
      · omega
      · exact Nat.zero_le _
theorem pass_ov {v : CV} (o : COk v) (c : OV v) (hN : v.cnt ≤ 10000000) (now : Int) : OV (passV v now).2 ∧ (∀ g ∈ (passV v now).1.1, GO g) ∧ (passV v now).2.cnt ≤ v.cnt ∧ (passV v now).2.N = v.N ∧ (passV v now).2.conn = v.conn := by
  obtain ⟨w1, w2, _, _⟩ := againV_W v.s now
  have o2 : SOk (passM v now).s := o.s.again now
  have c2 : OctH (passM v now).s.C := c.c.again now
  have w2 : (passM v now).s.N = v.s.N := w2
  unfold CV.cnt at *
  obtain ⟨i1, i2, i3⟩ := pays_oct now v.O o2 c2 o.ob c.o (by omega)
  obtain ⟨j1, j2, j3, j4, j5⟩ := pays_ok now v.O o2 o.ob
  unfold passV
  split
  · refine ⟨⟨i1, c.t, i2⟩, fun g hg => ?_, ?_, rfl, rfl⟩
    · rcases List.mem_append.1 hg with hg | hg
      · obtain ⟨x, hx, rfl⟩ := List.mem_map.1 hg
        have hk : x ∈ keys v.s.C := by
          unfold againV at hx
          by_cases h1 : v.s.ov = true
          · rw [if_pos h1] at hx
            cases hx
          · rw [if_neg h1] at hx
            split at hx
            · have hx : x ∈ agS v.s.R now v.s.TS := hx
              obtain ⟨y, hy, rfl⟩ := List.mem_map.1 hx
              exact o.s.tk _ (List.mem_map.2 ⟨y, (List.mem_filter.1 hy).1, rfl⟩)
            · cases hx
        have hkb := o.s.kb x hk
        have hob := o.o
        refine ⟨c2.body o2 x, i64_in' hkb.1 (by show x ≤ _; omega), ?_⟩
        show (bodyV (passM v now).s.C x).length ≤ 100000
        unfold bodyV
        cases e : sget (passM v now).s.C x with
        | none => exact Nat.zero_le _
        | some w => exact o2.bl (x, w) ((sget_mem o2.asc.nodup).1 e)
      · obtain ⟨y, hy, rfl⟩ := List.mem_map.1 hg
        exact ⟨(i3 y hy).1, (i3 y hy).2.1, (i3 y hy).2.2⟩
    · show (paysV now (passM v now).s v.O).2.1.N + ((paysV now (passM v now).s v.O).2.2.length : Int) ≤ _
      omega
  · exact ⟨⟨c2, c.t, c.o⟩, (fun g hg => by cases hg), (by show (passM v now).s.N + (v.O.length : Int) ≤ _; omega), rfl, rfl⟩
theorem new_ov (c : Cfg) (conn : Int) : OV (CV.new c conn) := ⟨(fun x hx => by cases hx), (fun x hx => by cases hx), (fun x hx => by cases hx)⟩
end Go.Proofs.YtmififfaljihgaaGreat
