/- Channels: what is pushed, and what comes. -/
import Derived.Test.YtoljllfbabahpaaU26
set_option linter.unusedVariables false
namespace Go.Proofs.Ytoljllfbabahpaa
open Go Go.Ab
theorem ackV_W (s : SV) (a : Int) : (ackV s a).2.W = s.W := by
  unfold ackV
  split <;> rfl
theorem ackV_N (s : SV) (a : Int) : (ackV s a).2.N = s.N := by
  unfold ackV
  split <;> rfl
theorem pays_ok (now : Int) : ∀ (O : List (List Int)) {s : SV}, SOk s → (∀ b ∈ O, b.length ≤ 100000) → SOk (paysV now s O).2.1 ∧ (paysV now s O).2.1.W = s.W ∧ (∀ b ∈ (paysV now s O).2.2, b ∈ O) ∧ (paysV now s O).1.length + (paysV now s O).2.2.length = O.length ∧ (paysV now s O).2.1.N = s.N + (paysV now s O).1.length
  | [], s, o, _ => ⟨o, rfl, fun b hb => hb, rfl, (Int.add_zero _).symm⟩
  | b :: O, s, o, h => by
    by_cases hr : 0 < roomOf s
    · obtain ⟨_, _, z3, z4⟩ := send_room o hr now b
      obtain ⟨i1, i2, i3, i4, i5⟩ := pays_ok now O (o.send now (body := b) (h b (by simp))) (fun c hc => h c (List.mem_cons_of_mem _ hc))
      rw [paysV, if_pos hr]
      refine ⟨i1, i2.trans z4, fun c hc => List.mem_cons_of_mem _ (i3 c hc), ?_, ?_⟩
      · show (paysV now (sendV s now b).2 O).1.length + 1 + (paysV now (sendV s now b).2 O).2.2.length = O.length + 1
        omega
      · show (paysV now (sendV s now b).2 O).2.1.N = s.N + (((paysV now (sendV s now b).2 O).1.length + 1 : Nat) : Int)
        omega
    · rw [paysV, if_neg hr]
      exact ⟨o, rfl, fun c hc => hc, by simp, (Int.add_zero _).symm⟩
def pushV (v : CV) (now : Int) (b : List Int) : (List GV × Int) × CV :=
  if v.s.ov = true then (([], 6), v) else if 64 ≤ v.O.length then (([], 5), v) else (((paysV now v.s (v.O ++ [b])).1.map (pg v), 0), v.to (paysV now v.s (v.O ++ [b])).2.1 (paysV now v.s (v.O ++ [b])).2.2)
def PushQ (h : H) (d : CId) (po : Option (Nat × Nat)) (R : (List GV × Int) × CV) (r : V) (h' : H) : Prop :=
  ∃ q po', r = .tup [.sl q R.1.1.length, i64 R.1.2] ∧ Grams h' q R.1.1 ∧ ChS h' d po' R.2 ∧ (∀ i, inSl po' i → inSl po i ∨ h.next ≤ i) ∧ Ab.Mod (chAll d po) h h'
theorem ChS.sender {h h' : H} {d : CId} {po : Option (Nat × Nat)} {v : CV} (s : ChS h d po v) {sv : SV} (t : SdC h' d.s sv) (m : Ab.Mod d.s.all h h') (hW : sv.W = v.s.W) : ChS h' d po { v with s := sv } :=
  ⟨m.get s.box (.inl s.sep.1), t, by show TkC h' d.t d.tm sv.W v.N v.C; rw [hW]; exact s.tk.get m s.sep.2.1 s.sep.2.2.1, s.ow.get m (fun i hi k => s.sepo i hi (.inl k)), s.sepo, s.sep⟩
theorem ChS.taker {h h' : H} {d : CId} {po : Option (Nat × Nat)} {v : CV} (s : ChS h d po v) {N : Int} {C : Hd} (t : TkC h' d.t d.tm v.s.W N C) (m : Ab.Mod (two d.t d.tm) h h') : ChS h' d po { v with N := N, C := C } :=
  ⟨m.get s.box (.inl (fun k => k.elim (fun k => s.sep.2.2.2.1 k) (fun k => s.sep.2.2.2.2 k))), s.sd.get m (fun i hi k => k.elim (fun k => s.sep.2.1 (by have : i = d.t := k; rw [← this]; exact hi)) (fun k => s.sep.2.2.1 (by have : i = d.tm := k; rw [← this]; exact hi))), t, s.ow.get m (fun i hi k => s.sepo i hi (k.elim (fun k => .inr (.inr (.inl k))) (fun k => .inr (.inr (.inr k))))), s.sepo, s.sep⟩
theorem push0 (h : H) (now : Int) (q : Option (Nat × Nat)) (m : Nat) : ACalls Try.prog 17 [.ptr none, i64 now, .sl q m] h (fun r h' => h' = h ∧ r = .tup [.sl none 0, i64 6]) := by
  refine call_ Try.func17 rfl rfl (by kernel_rfl) ?_
  conv => whnf
  refine (hOver0 h).mono ?_
  rintro _ h1 ⟨eh, rfl⟩
  subst eh
  conv => whnf
  exact ⟨rfl, rfl⟩
set_option maxHeartbeats 1000000 in
theorem cPush {h : H} {d : CId} {po : Option (Nat × Nat)} {v : CV} (s : ChS h d po v) (o : COk v) (hN : v.s.N + v.O.length ≤ 10000000) {now : Int} (hn0 : -1000000000 ≤ now) (hn1 : now ≤ 1000000000) {q : Option (Nat × Nat)} {m : Nat} {body : List Int} (nm : SlIs h q m false 1 (ints .u8 body)) (hm : m ≤ 100000) :
    ACalls Try.prog 17 [.ptr (some (d.c, 0)), i64 now, .sl q m] h (PushQ h d po (pushV v now body)) := by
  have hml := slo_len nm
  have hol := o.o
  refine call_ Try.func17 rfl rfl (by kernel_rfl) ?_
  conv => whnf
  refine (hOver s).mono ?_
  rintro _ h1 ⟨eh, rfl⟩
  subst eh
  cases hov : v.s.ov with
  | true =>
    conv => whnf
    have hv : pushV v now body = (([], 6), v) := by rw [pushV, if_pos hov]
    rw [hv]
    exact ⟨none, po, rfl, ⟨[], RoSl.nil _ _ _, (fun x hx => by cases hx), rfl⟩, s, fun i hi => .inl hi, mod_refl _ _⟩
  | false =>
  conv => whnf
  refine ⟨_, Cell.mk s.box rfl, ?_⟩
  conv => whnf
  refine br_mk (fun ha => ?_) (fun ha => ?_)
  · conv => whnf
    have ha : (v.O.length : Int) ≥ 64 := by simpa using ha
    have hv : pushV v now body = (([], 5), v) := by rw [pushV, if_neg (by rw [hov]; simp), if_pos (by omega)]
    rw [hv]
    exact ⟨none, po, rfl, ⟨[], RoSl.nil _ _ _, (fun x hx => by cases hx), rfl⟩, s, fun i hi => .inl hi, mod_refl _ _⟩
  have ha : ¬ (v.O.length : Int) ≥ 64 := by simpa using ha
  conv => whnf
  refine ⟨[0, 1, 2, 3, 4, 5, 6, 7, 8, 9, 10, 11], [0, 0, 2, 6, 14, 0, 32, 96, 254, 511, 1023, 2047], by kernel_rfl, ?_⟩
  conv => whnf
  refine ⟨_, Cell.mk s.box rfl, ?_⟩
  conv => whnf
  refine (clone63 nm (by omega)).mono ?_
  rintro _ h2 ⟨p2, rfl, rb, m2⟩
  have s2 := s.old m2
  conv => whnf
  refine ⟨⟨_, Cell.mk s2.box rfl, rfl⟩, ?_⟩
  conv => whnf
  obtain ⟨G, g1, g2, g3⟩ := s2.ow
  have mP := Mod.push none_ h2 (.row true 1 [.sl p2 m])
  have s3 := s2.old mP
  have g1 := SlIs.old g1 mP (fun _ _ k => k)
  refine ⟨_, _, g1, (SlIs.row (n := 1) (sz := 1) (cs := [.sl p2 m]) (H.obj_push_new _ _) rfl).weak, by rw [show (T.at_ 33).bytes = 24 from rfl]; omega, by omega, fun po2 h4 hs4 hm4 hf4 => ?_⟩
  have hlt3 := fun i (hi : chAll d po i) => s3.lt hi
  have box4 := hm4.get s3.box (.inl (fun k => s3.sepo _ k (.inr (.inl rfl))))
  have mo4 : Ab.Mod (chAll d po) h1 h4 := ((m2.trans' mP (S2 := none_) (fun _ _ k => k) (fun _ _ k => k)).trans' hm4 (S2 := chAll d po) (fun _ _ k => k.elim) (fun _ _ k => .inr k))
  have hpo2 : ∀ i, inSl po2 i → inSl po i ∨ (h2.push (.row true 1 [.sl p2 m])).next ≤ i := fun i ⟨o, e⟩ => by
    rcases hf4 i o e with k | k
    · exact .inl ⟨o, by rw [← k, e]⟩
    · exact .inr k
  have hsepo2 : ∀ i, inSl po2 i → ¬ d.all i := fun i hi k => by
    rcases hpo2 i hi with q | q
    · exact s3.sepo i q k
    · have := hlt3 i (.inl k)
      omega
  conv => whnf
  refine ⟨_, _, box4, Nat.le_of_ble_eq_true rfl, ?_⟩
  conv => whnf
  have m5 : Ab.Mod (one d.c) h4 (h4.set d.c (.row true 4 [.ptr (some (d.s.g, 0)), i64 v.conn, .ptr (some (d.t, 0)), .sl po2 (v.O.length + 1)])) := Mod.set rfl box4 rfl
  have nsep := s3.sep
  have hO : (v.O ++ [body]).length = v.O.length + 1 := by simp
  have c5 : ChS (h4.set d.c (.row true 4 [.ptr (some (d.s.g, 0)), i64 v.conn, .ptr (some (d.t, 0)), .sl po2 (v.O.length + 1)])) d po2 (v.to v.s (v.O ++ [body])) := by
    refine ⟨?_, (s3.sd.get hm4 (fun i hi k => s3.sepo i k (.inl hi))).get m5 (fun i hi k => nsep.1 (by have : i = d.c := k; rw [← this]; exact hi)), (s3.tk.get hm4 (fun k => s3.sepo _ k (.inr (.inr (.inl rfl)))) (fun k => s3.sepo _ k (.inr (.inr (.inr rfl))))).get m5 (fun k => nsep.2.2.2.1 (Eq.symm k)) (fun k => nsep.2.2.2.2 (Eq.symm k)), ⟨G ++ [(p2, body)], ?_, fun x hx => ?_, ?_⟩, hsepo2, nsep⟩
    · show _ = some (Ab.Obj.row true 4 [.ptr (some (d.s.g, 0)), i64 v.conn, .ptr (some (d.t, 0)), .sl po2 (v.O ++ [body]).length])
      rw [hO]
      exact H.obj_set_same box4
    · show SlIs _ po2 (v.O ++ [body]).length true 1 _
      rw [hO, List.flatMap_append]
      have e : [(p2, body)].flatMap slC = [.sl p2 m] := by rw [hml]; rfl
      rw [e]
      exact hs4.get m5 (fun i o e => .inl (fun k => hsepo2 i ⟨o, e⟩ (.inr (.inl k))))
    · rcases List.mem_append.1 hx with hx | hx
      · exact (((g2 x hx).get mP).get hm4).get m5
      · have : x = (p2, body) := by simpa using hx
        subst this
        show RoSl _ p2 body.length 1 _
        rw [← hml]
        exact ((rb.get mP).get hm4).get m5
    · rw [List.map_append, g3]
      rfl
  have o5 : COk (v.to v.s (v.O ++ [body])) := ⟨o.s, o.k, o.n0, by show (v.O ++ [body]).length ≤ 1000; omega, fun b hb => by
    have hb : b ∈ v.O ++ [body] := hb
    rcases List.mem_append.1 hb with hb | hb
    · exact o.ob b hb
    · have : b = body := by simpa using hb
      rw [this]
      omega⟩
  refine (cPays c5 o5 (by show v.s.N + ((v.O ++ [body]).length : Int) ≤ _; rw [hO]; omega) hn0 hn1).mono ?_
  rintro _ h6 ⟨q6, po6, rfl, gr6, c6, hs6, m6⟩
  conv => whnf
  have hv : pushV v now body = (((paysV now v.s (v.O ++ [body])).1.map (pg v), 0), v.to (paysV now v.s (v.O ++ [body])).2.1 (paysV now v.s (v.O ++ [body])).2.2) := by rw [pushV, if_neg (by rw [hov]; simp), if_neg (by omega)]
  rw [hv]
  have hn3 : h1.next ≤ (h2.push (.row true 1 [.sl p2 m])).next := Nat.le_trans m2.next mP.next
  refine ⟨q6, po6, by show V.tup [.sl q6 (paysV now v.s (v.O ++ [body])).1.length, i64 0] = V.tup [.sl q6 ((paysV now v.s (v.O ++ [body])).1.map (pg v)).length, i64 0]; rw [List.length_map], gr6, c6, fun i hi => ?_, ?_⟩
  · rcases hpo2 i (hs6 i hi) with k | k
    · exact .inl k
    · exact .inr (by omega)
  · refine (mo4.trans' m5 (S2 := chAll d po) (fun _ _ k => k) (fun _ _ k => .inl (.inr (.inl k)))).trans' m6 (S2 := chAll d po) (fun _ _ k => k) (fun i hi k => ?_)
    rcases k with k | k
    · exact .inl k
    · rcases hpo2 i k with k | k
      · exact .inr k
      · omega
def recvS (v : CV) (g : GV) : SV := (ackV v.s g.ack).2
/-- v, the datagram being in, and nothing paid yet -/
def recvM (v : CV) (g : GV) : CV := if g.kind = 1 then ⟨recvS v g, (tkV (recvS v g).W v.N v.C g.seq g.body).2.2.1, (tkV (recvS v g).W v.N v.C g.seq g.body).2.2.2, v.conn, v.O⟩ else { v with s := recvS v g }
def recvB (v : CV) (g : GV) : Bool := v.s.ov || decide (g.conn ≠ v.conn) || (decide (g.kind ≠ 1) && decide (g.kind ≠ 2))
def recvV (v : CV) (now : Int) (g : GV) : (List (List Int) × List GV) × CV :=
  if recvB v g = true then (([], []), v) else
    ((if g.kind = 1 then (tkV (recvS v g).W v.N v.C g.seq g.body).2.1 else [], (if g.kind = 1 then [⟨v.conn, 2, 0, (recvM v g).N, 0, []⟩] else []) ++ (paysV now (recvM v g).s v.O).1.map (pg (recvM v g))), (recvM v g).to (paysV now (recvM v g).s v.O).2.1 (paysV now (recvM v g).s v.O).2.2)
def RecvQ (h : H) (d : CId) (po : Option (Nat × Nat)) (R : (List (List Int) × List GV) × CV) (r : V) (h' : H) : Prop :=
  ∃ qr qg po', r = .tup [.sl qr R.1.1.length, .sl qg R.1.2.length] ∧ Rws h' qr R.1.1 ∧ Grams h' qg R.1.2 ∧ ChS h' d po' R.2 ∧ (∀ i, inSl po' i → inSl po i ∨ h.next ≤ i) ∧ Ab.Mod (chAll d po) h h'
theorem Rws.nil (h : H) : Rws h none [] := ⟨[], RoSl.nil _ _ _, (fun x hx => by cases hx), rfl⟩
theorem Grams.nil (h : H) : Grams h none [] := ⟨[], RoSl.nil _ _ _, (fun x hx => by cases hx), rfl⟩
theorem Rws.ro {h : H} {q : Option (Nat × Nat)} {L : List (List Int)} (s : Rws h q L) (i : Nat) : Rws (h.ro i) q L := by
  obtain ⟨G, h1, h2, h3⟩ := s
  exact ⟨G, h1.ro i, fun x hx => (h2 x hx).ro i, h3⟩
set_option maxHeartbeats 2000000 in
theorem cRecv {h : H} {d : CId} {po : Option (Nat × Nat)} {v : CV} (s : ChS h d po v) (o : COk v) (hN : v.s.N + v.O.length ≤ 10000000) (hNt : v.N ≤ 1000000) {now : Int} (hn0 : -1000000000 ≤ now) (hn1 : now ≤ 1000000000) {g : GV} {p : Option (Nat × Nat)} (gk : ∀ h', Ab.Mod (chAll d po) h h' → SlIs h' p g.body.length false 1 (ints .u8 g.body)) (hseq : inI g.seq) (hm : g.body.length ≤ 100000) :
    ACalls Try.prog 20 [.ptr (some (d.c, 0)), i64 now, .agg (gC (g, p))] h (RecvQ h d po (recvV v now g)) := by
  have hol := o.o
  have hlt : ∀ i, chAll d po i → i < h.next := fun i hi => s.lt hi
  refine ACalls.ro (Q := fun r h' => ∃ (qr qg po' : Option (Nat × Nat)) (G : List GP), r = .tup [.sl qr (recvV v now g).1.1.length, .sl qg G.length] ∧ Rws h' qr (recvV v now g).1.1 ∧ NewSl h h' qg G.length 6 (G.flatMap gC) ∧ (∀ x ∈ G, gOk h' x) ∧ G.map Prod.fst = (recvV v now g).1.2 ∧ ChS h' d po' (recvV v now g).2 ∧ (∀ i, inSl po' i → inSl po i) ∧ Ab.Mod (chAll d po) h h') ?_ (by
    rintro r h' ⟨qr, qg, po', G, rfl, rw', ng, gk', hg, sc, hs, m⟩
    obtain ⟨i, a1, a2, a3⟩ := ng.freeze m
    have hGL : G.length = (recvV v now g).1.2.length := by
      have := congrArg List.length hg
      simpa using this
    refine ⟨i, qr, qg, po', by rw [hGL], rw'.ro i, ⟨G, by rw [← hGL]; exact a2, fun x hx => (gk' x hx).ro i, hg⟩, sc.ro (fun k => ?_), fun i hi => .inl (hs i hi), a3⟩
    have : i < h.next := hlt i (k.elim .inl (fun k => .inr (hs i k)))
    omega)
  have mP := Mod.push none_ h (.row true 6 (gC (g, p)))
  have gm : (h.push (.row true 6 (gC (g, p)))).obj h.next = some (.row true 6 (gC (g, p))) := H.obj_push_new _ _
  have s1 := s.old mP
  have nay : recvB v g = true → ∀ hh, ChS hh d po v → Ab.Mod none_ h hh → ∃ (qr qg po' : Option (Nat × Nat)) (G : List GP), V.tup [.sl none 0, .sl none 0] = .tup [.sl qr (recvV v now g).1.1.length, .sl qg G.length] ∧ Rws hh qr (recvV v now g).1.1 ∧ NewSl h hh qg G.length 6 (G.flatMap gC) ∧ (∀ x ∈ G, gOk hh x) ∧ G.map Prod.fst = (recvV v now g).1.2 ∧ ChS hh d po' (recvV v now g).2 ∧ (∀ i, inSl po' i → inSl po i) ∧ Ab.Mod (chAll d po) h hh := fun e hh sc m => by
    have hv : recvV v now g = (([], []), v) := by rw [recvV, if_pos e]
    rw [hv]
    exact ⟨none, none, po, [], rfl, Rws.nil _, NewSl.nil _ _ _, (fun x hx => by cases hx), rfl, sc, fun _ k => k, m.mono (fun _ _ k => k.elim)⟩
  refine call_ Try.func20 rfl rfl (by kernel_rfl) ?_
  conv => whnf
  refine ⟨[0, 1, 2, 3, 4, 5, 6, 7, 8, 9, 10, 11, 12, 13, 14, 15, 16, 17, 18, 19, 20], [0, 1, 3, 7, 15, 7, 39, 103, 231, 511, 1023, 2047, 4095, 8191, 16383, 32767, 65535, 131071, 262143, 524287, 1048575], by kernel_rfl, ?_⟩
  conv => whnf
  refine (hOver s1).mono ?_
  rintro _ h1 ⟨eh, rfl⟩
  subst eh
  cases hov : v.s.ov with
  | true =>
    conv => whnf
    exact nay (by rw [recvB, hov]; rfl) _ s1 mP
  | false =>
  conv => whnf
  refine ⟨_, Cell.mk gm rfl, ?_⟩
  conv => whnf
  refine ⟨_, Cell.mk s1.box rfl, ?_⟩
  conv => whnf
  refine br_mk (fun ha => ?_) (fun ha => ?_)
  · conv => whnf
    have ha : g.conn ≠ v.conn := by simpa using ha
    exact nay (by rw [recvB, decide_eq_true ha]; simp) _ s1 mP
  have ha : g.conn = v.conn := by simpa using ha
  conv => whnf
  refine ⟨_, Cell.mk gm rfl, ?_⟩
  conv => whnf
  have hB : ∀ hk : g.kind = 1 ∨ g.kind = 2, recvB v g = false := fun hk => by
    rw [recvB, hov, decide_eq_false (fun k => k ha)]
    rcases hk with hk | hk <;> rw [hk] <;> rfl
  have hW : 1 ≤ v.s.W ∧ v.s.W ≤ 16 := by simpa [okW] using o.s.ok
  have o2 : SOk (recvS v g) := o.s.ack g.ack
  have hW2 : (recvS v g).W = v.s.W := ackV_W v.s g.ack
  have hN2 : (recvS v g).N = v.s.N := ackV_N v.s g.ack
  refine br_mk (fun hb => ?_) (fun hb => ?_)
  · conv => whnf
    have hb : g.kind ≠ 1 := by simpa using hb
    refine ⟨_, Cell.mk gm rfl, ?_⟩
    conv => whnf
    refine br_mk (fun hc => ?_) (fun hc => ?_)
    · conv => whnf
      have hc : g.kind ≠ 2 := by simpa using hc
      exact nay (by rw [recvB, decide_eq_true hb, decide_eq_true hc]; simp) _ s1 mP
    have hc : g.kind = 2 := by simpa using hc
    conv => whnf
    refine ⟨[0, 1, 2, 3, 4, 5, 6], [0, 1, 3, 7, 0, 16, 63], by kernel_rfl, ?_⟩
    conv => whnf
    refine ⟨_, Cell.mk s1.box rfl, ?_⟩
    conv => whnf
    refine ⟨_, Cell.mk gm rfl, ?_⟩
    conv => whnf
    refine (cAck s1.sd o.s g.ack).mono ?_
    rintro _ h2 ⟨rfl, t2, m2⟩
    have c2 := s1.sender t2 m2 hW2
    have hnd : ¬ d.s.all h.next := fun k => by
      have := hlt _ (.inl (.inl k))
      omega
    have gm2 := m2.get gm (.inl hnd)
    have mo2 : Ab.Mod (chAll d po) h h2 := mP.trans' m2 (fun _ _ k => k.elim) (fun _ _ k => .inl (.inl k))
    conv => whnf
    refine ⟨_, Cell.mk gm2 rfl, ?_⟩
    conv => whnf
    refine br_mk (fun hd => ?_) (fun hd => ?_)
    · exact absurd hd (by rw [show (g, p).1.kind = 2 from hc]; simp)
    conv => whnf
    have hM : recvM v g = { v with s := recvS v g } := by rw [recvM, if_neg hb]
    have oM : COk { v with s := recvS v g } := ⟨o2, by show OkH (recvS v g).W v.N v.C; rw [hW2]; exact o.k, o.n0, o.o, o.ob⟩
    refine (cPays c2 oM (by show (recvS v g).N + (v.O.length : Int) ≤ _; omega) hn0 hn1).mono ?_
    rintro _ h6 ⟨q6, po6, rfl, gr6, c6, hs6, m6⟩
    obtain ⟨G6, x1, x2, x3⟩ := gr6
    have mo6 := mo2.trans' m6 (S2 := chAll d po) (fun _ _ k => k) (fun _ _ k => k)
    have hpl := (pays_ok now v.O o2 o.ob).2.2.2.1
    have x1 : RoSl h6 q6 ((paysV now (recvS v g) v.O).1.map (pg { v with s := recvS v g })).length 6 (G6.flatMap gC) := x1
    rw [List.length_map] at x1
    conv => whnf
    refine ⟨_, _, SlIs.nil _ _ _, x1.is, by rw [show (T.at_ 35).bytes = 64 from rfl]; show (0 + (paysV now (recvS v g) v.O).1.length) * 64 ≤ _; omega, (by show 0 + (paysV now (recvS v g) v.O).1.length ≤ _; omega), fun p7 h7 hs7 hm7 hf7 => ?_⟩
    have n7 := NewSl.app (NewSl.nil h h6 6) hs7 hf7 mo6.next
    rw [List.nil_append, Nat.zero_add] at n7
    have mm : Ab.Mod none_ h6 h7 := hm7.mono (fun i _ k => by obtain ⟨o, k⟩ := k; cases k)
    conv => whnf
    have hv : recvV v now g = (([], (paysV now (recvS v g) v.O).1.map (pg { v with s := recvS v g })), (CV.to { v with s := recvS v g } (paysV now (recvS v g) v.O).2.1 (paysV now (recvS v g) v.O).2.2)) := by rw [recvV, if_neg (by rw [hB (.inr hc)]; simp), if_neg hb, if_neg hb, hM]; rfl
    rw [hv]
    have hGl : (paysV now (recvS v g) v.O).1.length = G6.length := by
      have := congrArg List.length x3
      rw [List.length_map, List.length_map] at this
      exact this.symm
    refine ⟨none, p7, po6, G6, ?_, Rws.nil _, by rw [← hGl]; exact n7, fun x hx => (x2 x hx).get mm, x3, c6.old mm, hs6, mo6.trans' mm (S2 := chAll d po) (fun _ _ k => k) (fun _ _ k => k.elim)⟩
    rw [Nat.zero_add]
    show V.tup [.sl none 0, .sl p7 (paysV now (recvS v g) v.O).1.length] = _
    rw [hGl]
    rfl
  · have hb : g.kind = 1 := by simpa using hb
    conv => whnf
    refine ⟨[0, 1, 2, 3, 4, 5, 6], [0, 1, 3, 7, 0, 16, 63], by kernel_rfl, ?_⟩
    conv => whnf
    refine ⟨_, Cell.mk s1.box rfl, ?_⟩
    conv => whnf
    refine ⟨_, Cell.mk gm rfl, ?_⟩
    conv => whnf
    refine (cAck s1.sd o.s g.ack).mono ?_
    rintro _ h2 ⟨rfl, t2, m2⟩
    have c2 := s1.sender t2 m2 hW2
    have hnd : ¬ d.s.all h.next := fun k => by
      have := hlt _ (.inl (.inl k))
      omega
    have gm2 := m2.get gm (.inl hnd)
    have mo2 : Ab.Mod (chAll d po) h h2 := mP.trans' m2 (fun _ _ k => k.elim) (fun _ _ k => .inl (.inl k))
    conv => whnf
    refine ⟨_, Cell.mk gm2 rfl, ?_⟩
    conv => whnf
    refine br_mk (fun hd => ?_) (fun hd => ?_)
    rotate_left
    · exact absurd hd (by rw [show (g, p).1.kind = 1 from hb]; simp)
    conv => whnf
    have hM : recvM v g = ⟨recvS v g, (tkV (recvS v g).W v.N v.C g.seq g.body).2.2.1, (tkV (recvS v g).W v.N v.C g.seq g.body).2.2.2, v.conn, v.O⟩ := by rw [recvM, if_pos hb]
    have okh : OkH (recvS v g).W v.N v.C := by rw [hW2]; exact o.k
    have okw : okW (recvS v g).W = true := by rw [hW2]; exact o.s.ok
    obtain ⟨oh2, on1, on2, on3⟩ := okh.take (by omega) g.seq g.body
    have hn0' := o.n0
    have gk2 : SlIs h2 p g.body.length false 1 (ints .u8 g.body) := gk h2 mo2
    refine ⟨[0, 1, 2, 3, 4, 5, 6, 7, 8, 9, 10, 11, 12], [0, 1, 3, 7, 0, 16, 0, 64, 255, 511, 1023, 1023, 2047], by kernel_rfl, ?_⟩
    conv => whnf
    refine ⟨_, Cell.mk c2.box rfl, ?_⟩
    conv => whnf
    refine ⟨_, Cell.mk gm2 rfl, ?_⟩
    conv => whnf
    refine ⟨_, Cell.mk gm2 rfl, ?_⟩
    conv => whnf
    refine (take29c c2.tk okw okh o.n0 hNt hseq gk2 hm).mono ?_
    rintro _ h3 ⟨q3, rfl, rw3, t3, m3⟩
    have c3 := c2.taker t3 m3
    have mo3 := mo2.trans' m3 (S2 := chAll d po) (fun _ _ k => k) (fun _ _ k => .inl (k.elim (fun k => .inr (.inr (.inl k))) (fun k => .inr (.inr (.inr k)))))
    conv => whnf
    refine ⟨_, rfl, ?_⟩
    conv => whnf
    refine ⟨_, rfl, ?_⟩
    conv => whnf
    refine ⟨[0, 1, 2, 3, 4, 5, 6, 7, 8, 9, 10, 11], [0, 1, 3, 7, 0, 16, 48, 112, 240, 511, 1023, 2047], by kernel_rfl, ?_⟩
    conv => whnf
    refine ⟨_, Cell.mk c3.box rfl, ?_⟩
    conv => whnf
    refine ⟨_, Cell.mk c3.box rfl, ?_⟩
    conv => whnf
    refine (next32c c3.tk).mono ?_
    rintro _ h4 ⟨eh, rfl⟩
    subst eh
    conv => whnf
    refine ⟨⟨_, Cell.mk c3.box rfl, rfl⟩, ?_⟩
    conv => whnf
    have oM : COk ⟨recvS v g, (tkV (recvS v g).W v.N v.C g.seq g.body).2.2.1, (tkV (recvS v g).W v.N v.C g.seq g.body).2.2.2, v.conn, v.O⟩ := ⟨o2, oh2, by show 0 ≤ (tkV (recvS v g).W v.N v.C g.seq g.body).2.2.1; omega, o.o, o.ob⟩
    have c3 : ChS h4 d po ⟨recvS v g, (tkV (recvS v g).W v.N v.C g.seq g.body).2.2.1, (tkV (recvS v g).W v.N v.C g.seq g.body).2.2.2, v.conn, v.O⟩ := c3
    have hv : recvV v now g = (((tkV (recvS v g).W v.N v.C g.seq g.body).2.1, [⟨v.conn, 2, 0, (recvM v g).N, 0, []⟩] ++ (paysV now (recvM v g).s v.O).1.map (pg (recvM v g))), (recvM v g).to (paysV now (recvM v g).s v.O).2.1 (paysV now (recvM v g).s v.O).2.2) := by rw [recvV, if_neg (by rw [hB (.inl hb)]; simp), if_pos hb, if_pos hb]
    rw [hM] at hv
    rw [hv]
    have rw3 : Rws h4 q3 (tkV (recvS v g).W v.N v.C g.seq g.body).2.1 := rw3
    obtain ⟨ga, hga⟩ : ∃ ga : GP, ga = (⟨v.conn, 2, 0, (tkV (recvS v g).W v.N v.C g.seq g.body).2.2.1, 0, []⟩, none) := ⟨_, rfl⟩
    have mQ := Mod.push none_ h4 (.row true 6 [i64 v.conn, i64 2, i64 0, i64 (tkV (recvS v g).W v.N v.C g.seq g.body).2.2.1, i64 0, .sl none 0])
    have nQ : SlIs (h4.push (.row true 6 [i64 v.conn, i64 2, i64 0, i64 (tkV (recvS v g).W v.N v.C g.seq g.body).2.2.1, i64 0, .sl none 0])) (some (h4.next, 0)) 1 true 6 [i64 v.conn, i64 2, i64 0, i64 (tkV (recvS v g).W v.N v.C g.seq g.body).2.2.1, i64 0, .sl none 0] := SlIs.row (n := 1) (H.obj_push_new _ _) rfl
    have hn4 := mo3.next
    have hqn : ¬ chAll d po h4.next := fun k => by
      have := hlt _ k
      omega
    refine (cPays (c3.old mQ) oM (by show (recvS v g).N + (v.O.length : Int) ≤ _; omega) hn0 hn1).mono ?_
    rintro _ h6 ⟨q6, po6, rfl, gr6, c6, hs6, m6⟩
    obtain ⟨G6, x1, x2, x3⟩ := gr6
    have nQ6 := nQ.get m6 (fun i o e => .inl (fun k => by
      injection e with e
      injection e with e _
      exact hqn (by rw [e]; exact k)))
    have mo6 := (mo3.trans' mQ (S2 := chAll d po) (fun _ _ k => k) (fun _ _ k => k.elim)).trans' m6 (S2 := chAll d po) (fun _ _ k => k) (fun _ _ k => k)
    have hpl := (pays_ok now v.O o2 o.ob).2.2.2.1
    have x1 : RoSl h6 q6 ((paysV now (recvS v g) v.O).1.map (pg ⟨recvS v g, (tkV (recvS v g).W v.N v.C g.seq g.body).2.2.1, (tkV (recvS v g).W v.N v.C g.seq g.body).2.2.2, v.conn, v.O⟩)).length 6 (G6.flatMap gC) := x1
    rw [List.length_map] at x1
    conv => whnf
    refine ⟨_, _, nQ6, x1.is, by rw [show (T.at_ 35).bytes = 64 from rfl]; show (1 + (paysV now (recvS v g) v.O).1.length) * 64 ≤ _; omega, (by show 1 + (paysV now (recvS v g) v.O).1.length ≤ _; omega), fun p7 h7 hs7 hm7 hf7 => ?_⟩
    have mm : Ab.Mod (one h4.next) h6 h7 := hm7.mono (fun i _ k => by
      obtain ⟨o, k⟩ := k
      injection k with k
      injection k with k _
      exact k.symm)
    have hGl : (paysV now (recvS v g) v.O).1.length = G6.length := by
      have := congrArg List.length x3
      rw [List.length_map, List.length_map] at this
      exact this.symm
    have hgc : [i64 v.conn, i64 2, i64 0, i64 (tkV (recvS v g).W v.N v.C g.seq g.body).2.2.1, i64 0, .sl none 0] ++ G6.flatMap gC = (ga :: G6).flatMap gC := by
      rw [hga]
      rfl
    have n7 : NewSl h h7 p7 (ga :: G6).length 6 ((ga :: G6).flatMap gC) := by
      rw [List.length_cons, ← hGl, Nat.add_comm, ← hgc]
      refine ⟨hs7, fun i o e => ?_⟩
      rcases hf7 i o e with k | k
      · rw [e] at k
        injection k with k
        injection k with k _
        omega
      · have := mo6.next
        omega
    conv => whnf
    refine ⟨q3, p7, po6, ga :: G6, ?_, ((rw3.get mQ).get m6).get mm, n7, fun x hx => ?_, ?_, c6.get mm (fun i hi k => ?_), hs6, mo6.trans' mm (S2 := chAll d po) (fun _ _ k => k) (fun i hi k => ?_)⟩
    · show V.tup [.sl q3 (tkV (recvS v g).W v.N v.C g.seq g.body).2.1.length, .sl p7 (1 + (paysV now (recvS v g) v.O).1.length)] = _
      rw [hGl, Nat.add_comm]
      rfl
    · rcases List.mem_cons.1 hx with rfl | hx
      · rw [hga]
        exact RoSl.nil _ _ _
      · exact (x2 x hx).get mm
    · rw [List.map_cons, x3, hga]
      rfl
    · have e : i = h4.next := k
      have := hlt i (hi.elim .inl (fun k => .inr (hs6 i k)))
      omega
    · have e : i = h4.next := k
      omega
end Go.Proofs.Ytoljllfbabahpaa
