/- V1: several texts in one. -/
import Derived.Test.YtoljllfbabahpaaU31
import Derived.Test.YtoljllfbabahpaaU22
set_option linter.unusedVariables false
/-! Channels: the document's: a new one, a datagram, what is paid. -/
namespace Go.Proofs.Ytoljllfbabahpaa
open Go Go.Ab
structure RCId where
  s : RId
  c : Nat
  t : Nat
def RCId.all (d : RCId) : Nat → Prop := fun i => d.s.all i ∨ i = d.c ∨ i = d.t
structure RChS (h : H) (d : RCId) (v : CV) : Prop where
  box : ∃ po, h.obj d.c = some (.row true 4 [i64 v.conn, .ptr (some (d.s.g, 0)), .ptr (some (d.t, 0)), .sl po v.O.length]) ∧ Rws h po v.O
  sd : RSdC h d.s v.s
  tk : RTkC h d.t v.s.W v.N v.C
  sep : ¬ d.s.all d.c ∧ ¬ d.s.all d.t ∧ d.c ≠ d.t
theorem RChS.get {Z : Nat → Prop} {h h' : H} {d : RCId} {v : CV} (s : RChS h d v) (m : Ab.Mod Z h h') (hz : ∀ i, d.all i → ¬ Z i) : RChS h' d v := by
  obtain ⟨⟨po, h1, h2⟩, h3, h4, h5⟩ := s
  exact ⟨⟨po, m.get h1 (.inl (hz _ (.inr (.inl rfl)))), h2.get m⟩, h3.get m (fun i hi => hz i (.inl hi)), h4.get m (hz _ (.inr (.inr rfl))), h5⟩
theorem RChS.old {h h' : H} {d : RCId} {v : CV} (s : RChS h d v) (m : Ab.Mod none_ h h') : RChS h' d v := s.get m (fun _ _ k => k)
theorem RChS.lt {h : H} {d : RCId} {v : CV} (s : RChS h d v) {i : Nat} (hi : d.all i) : i < h.next := by
  rcases hi with hi | rfl | rfl
  · exact s.sd.lt hi
  · obtain ⟨po, h1, _⟩ := s.box
    exact h.lt _ _ h1
  · exact s.tk.lt
theorem RSdC.ro {h : H} {d : RId} {v : SV} (s : RSdC h d v) {i : Nat} (hi : ¬ d.all i) : RSdC (h.ro i) d v := by
  obtain ⟨S, h1, h2⟩ := s
  exact ⟨S, h1.ro (fun e => hi (.inl e.symm)) (fun e => hi (.inr e.symm)), h2⟩
theorem RTkC.ro {h : H} {g : Nat} {W N : Int} {C : Hd} (s : RTkC h g W N C) {i : Nat} (hg : g ≠ i) : RTkC (h.ro i) g W N C := by
  obtain ⟨S, h1, h2⟩ := s
  exact ⟨S, h1.ro hg, h2⟩
theorem RChS.ro {h : H} {d : RCId} {v : CV} (s : RChS h d v) {i : Nat} (hi : ¬ d.all i) : RChS (h.ro i) d v := by
  obtain ⟨⟨po, h1, h2⟩, h3, h4, h5⟩ := s
  exact ⟨⟨po, by rw [H.ro_ne _ (fun e => hi (.inr (.inl e.symm))), h1], h2.ro i⟩, h3.ro (fun k => hi (.inl k)), h4.ro (fun e => hi (.inr (.inr e.symm))), h5⟩
theorem RChS.sender {h h' : H} {d : RCId} {v : CV} (s : RChS h d v) {sv : SV} (t : RSdC h' d.s sv) (m : Ab.Mod d.s.all h h') (hW : sv.W = v.s.W) : RChS h' d { v with s := sv } := by
  obtain ⟨⟨po, h1, h2⟩, h3, h4, h5⟩ := s
  exact ⟨⟨po, m.get h1 (.inl h5.1), h2.get m⟩, t, by show RTkC h' d.t sv.W v.N v.C; rw [hW]; exact h4.get m h5.2.1, h5⟩
theorem RChS.taker {h h' : H} {d : RCId} {v : CV} (s : RChS h d v) {N : Int} {C : Hd} (t : RTkC h' d.t v.s.W N C) (m : Ab.Mod (one d.t) h h') : RChS h' d { v with N := N, C := C } := by
  obtain ⟨⟨po, h1, h2⟩, h3, h4, h5⟩ := s
  exact ⟨⟨po, m.get h1 (.inl (fun k => h5.2.2 k)), h2.get m⟩, h3.get m (fun i hi k => h5.2.1 (by have : i = d.t := k; rw [← this]; exact hi)), t, h5⟩
theorem rCheck (h : H) (c : Cfg) : ACalls Try.prog 57 [.agg c.cells] h (fun r h' => r = i64 (if okCfg c then 0 else 1) ∧ Ab.Mod none_ h h') := by
  have mP := Mod.push none_ h (.row true 6 c.cells)
  have gm : (h.push (.row true 6 c.cells)).obj h.next = some (.row true 6 c.cells) := H.obj_push_new _ _
  refine call_ Try.func57 rfl rfl (by kernel_rfl) ?_
  conv => whnf
  refine ⟨_, Cell.mk gm rfl, ?_⟩
  conv => whnf
  refine (within68 _ c.sess 1 16).mono ?_
  rintro _ h1 ⟨eh, rfl⟩
  subst eh
  cases e1 : inR c.sess 1 16 with
  | false =>
    conv => whnf
    exact ⟨by rw [okCfg, e1]; simp, mP⟩
  | true =>
  conv => whnf
  refine ⟨_, Cell.mk gm rfl, ?_⟩
  conv => whnf
  refine (within68 _ c.win 1 16).mono ?_
  rintro _ h2 ⟨eh, rfl⟩
  subst eh
  cases e2 : inR c.win 1 16 with
  | false =>
    conv => whnf
    exact ⟨by rw [okCfg, e2]; simp, mP⟩
  | true =>
  conv => whnf
  refine ⟨_, Cell.mk gm rfl, ?_⟩
  conv => whnf
  refine (within68 _ c.retry 0 20).mono ?_
  rintro _ h3 ⟨eh, rfl⟩
  subst eh
  cases e3 : inR c.retry 0 20 with
  | false =>
    conv => whnf
    exact ⟨by rw [okCfg, e3]; simp, mP⟩
  | true =>
  conv => whnf
  refine ⟨_, Cell.mk gm rfl, ?_⟩
  conv => whnf
  refine (within68 _ c.base 1 1000).mono ?_
  rintro _ h4 ⟨eh, rfl⟩
  subst eh
  cases e4 : inR c.base 1 1000 with
  | false =>
    conv => whnf
    exact ⟨by rw [okCfg, e4]; simp, mP⟩
  | true =>
  conv => whnf
  refine ⟨_, Cell.mk gm rfl, ?_⟩
  conv => whnf
  refine ⟨_, Cell.mk gm rfl, ?_⟩
  conv => whnf
  refine (within68 _ c.cap c.base 1000).mono ?_
  rintro _ h5 ⟨eh, rfl⟩
  subst eh
  cases e5 : inR c.cap c.base 1000 with
  | false =>
    conv => whnf
    exact ⟨by rw [okCfg, e5]; simp, mP⟩
  | true =>
  conv => whnf
  refine ⟨_, Cell.mk gm rfl, ?_⟩
  conv => whnf
  refine (within68 _ c.idle 1 1000).mono ?_
  rintro _ h6 ⟨eh, rfl⟩
  subst eh
  cases e6 : inR c.idle 1 1000 with
  | false =>
    conv => whnf
    exact ⟨by rw [okCfg, e6]; simp, mP⟩
  | true =>
  conv => whnf
  exact ⟨by rw [okCfg, e1, e2, e3, e4, e5, e6]; rfl, mP⟩
theorem rMay (h : H) (x : Int) : ACalls Try.prog 76 [i64 x] h (fun r h' => h' = h ∧ r = .bool (inR x 1 2147483648)) := by
  refine call_ Try.func76 rfl rfl (by kernel_rfl) ?_
  conv => whnf
  refine (within68 _ x 1 2147483648).mono ?_
  rintro _ h2 ⟨eh, rfl⟩
  subst eh
  conv => whnf
  exact ⟨rfl, rfl⟩
def NewRC (c : Cfg) (conn : Int) (h : H) (r : V) (h' : H) : Prop :=
  (okCh c conn = false ∧ r = .ptr none ∧ Ab.Mod none_ h h') ∨ (okCh c conn = true ∧ ∃ d : RCId, r = .ptr (some (d.c, 0)) ∧ RChS h' d (CV.new c conn) ∧ (∀ i, d.all i → h.next ≤ i) ∧ Ab.Mod none_ h h')
theorem rcNew (h : H) (c : Cfg) (conn : Int) : ACalls Try.prog 58 [.agg c.cells, i64 conn] h (fun r h' => NewRC c conn h r h') := by
  have mP := Mod.push none_ h (.row true 6 c.cells)
  have gm : (h.push (.row true 6 c.cells)).obj h.next = some (.row true 6 c.cells) := H.obj_push_new _ _
  refine call_ Try.func58 rfl rfl (by kernel_rfl) ?_
  conv => whnf
  refine ⟨c.cells, Cells.mk gm (Nat.le_of_ble_eq_true rfl) rfl, ?_⟩
  conv => whnf
  refine (rCheck _ c).mono ?_
  rintro _ h1 ⟨rfl, m1⟩
  have g1 := m1.get gm (.inl (fun k => k))
  have mo1 := mod_none mP m1
  cases ec : okCfg c with
  | false =>
    conv => whnf
    exact .inl ⟨by rw [okCh, ec]; rfl, rfl, mo1⟩
  | true =>
  conv => whnf
  refine (rMay _ conn).mono ?_
  rintro _ h2 ⟨eh, rfl⟩
  subst eh
  cases en : inR conn 1 2147483648 with
  | false =>
    conv => whnf
    exact .inl ⟨by rw [okCh, ec, en]; rfl, rfl, mo1⟩
  | true =>
  simp only [okCfg, Bool.and_eq_true] at ec
  obtain ⟨⟨⟨⟨⟨c1, c2⟩, c3⟩, c4⟩, c5⟩, c6⟩ := ec
  have okc : okCh c conn = true := by
    rw [okCh, okCfg, c1, c2, c3, c4, c5, c6, en]
    rfl
  have b3 := inR_iff.1 c3
  have b4 := inR_iff.1 c4
  have b5 := inR_iff.1 c5
  have okt : okT c.base c.cap c.retry = true := by
    rw [okT_iff]
    omega
  conv => whnf
  refine ⟨[0, 1, 2, 3, 4, 5, 6, 7, 8, 11, 12, 9, 10, 13, 14, 15, 16], [0, 0, 2, 0, 8, 0, 32, 0, 128, 504, 1022, 0, 2048, 8190, 16383, 32767, 65535], by kernel_rfl, ?_⟩
  conv => whnf
  refine ⟨_, Cell.mk g1 rfl, ?_⟩
  conv => whnf
  refine ⟨_, Cell.mk g1 rfl, ?_⟩
  conv => whnf
  refine ⟨_, Cell.mk g1 rfl, ?_⟩
  conv => whnf
  refine ⟨_, Cell.mk g1 rfl, ?_⟩
  conv => whnf
  refine ⟨_, Cell.mk g1 rfl, ?_⟩
  conv => whnf
  refine (new36 _ c.base c.cap c.retry).mono ?_
  rintro _ h3 q
  rcases q with ⟨e, _⟩ | ⟨_, tg, rfl, t1, ht1, m3⟩
  · rw [okt] at e
    cases e
  have g3 := m3.get g1 (.inl (fun k => k))
  conv => whnf
  refine ⟨⟨_, Cell.mk g3 rfl, rfl⟩, ?_⟩
  conv => whnf
  refine ⟨⟨_, Cell.mk g3 rfl, rfl⟩, ?_⟩
  conv => whnf
  have t1lt := t1.lt
  refine (rNew t1 c.win).mono ?_
  rintro _ h4 q
  rcases q with ⟨e, _⟩ | ⟨_, sg, rfl, s1, hg0, m4⟩
  · rw [show okW c.win = true from c2] at e
    cases e
  have g4 := m4.get g3 (.inl (fun k => k))
  have s1lt := s1.lt
  conv => whnf
  refine ⟨⟨_, Cell.mk g4 rfl, rfl⟩, ?_⟩
  conv => whnf
  refine (new28 _ c.win).mono ?_
  rintro _ h5 q
  rcases q with ⟨e, _⟩ | ⟨_, tk, rfl, k1, hk1, m5⟩
  · rw [show okW c.win = true from c2] at e
    cases e
  have k1lt := k1.lt
  have s5 : RSdC h5 ⟨sg, tg⟩ ⟨c.win, 0, false, [], c.base, c.cap, c.retry, []⟩ := ⟨[], s1.get m5 (fun k => k) (fun k => k), rfl⟩
  conv => whnf
  have m6 := Mod.push none_ h5 (.row true 4 [i64 conn, .ptr (some (sg, 0)), .ptr (some (tk, 0)), .sl none 0])
  have e1 := mo1.next
  have e3 := m3.next
  have e4 := m4.next
  have e5 := m5.next
  refine .inr ⟨okc, ⟨⟨sg, tg⟩, h5.next, tk⟩, rfl, ⟨⟨none, H.obj_push_new _ _, Rws.nil _⟩, s5.old m6, RTkC.old ⟨[], k1, rfl⟩ m6, ?_⟩, fun i hi => ?_, mod_none (mod_none (mod_none (mod_none mo1 m3) m4) m5) m6⟩
  · refine ⟨fun k => ?_, fun k => ?_, ?_⟩
    · rcases k with k | k
      · have : h5.next = sg := k
        omega
      · have : h5.next = tg := k
        omega
    · rcases k with k | k
      · have : tk = sg := k
        omega
      · have : tk = tg := k
        omega
    · show h5.next ≠ tk
      omega
  · rcases hi with (hi | hi) | hi | hi
    · have : i = sg := hi
      omega
    · have : i = tg := hi
      omega
    · have : i = h5.next := hi
      omega
    · have : i = tk := hi
      omega
theorem rData {h : H} {d : RCId} {v : CV} (s : RChS h d v) (o : SOk v.s) (seq : Int) :
    ACalls Try.prog 93 [.ptr (some (d.c, 0)), i64 seq] h (fun r h' => ∃ p, r = .agg (gC (dataV v seq, p)) ∧ gOk h' (dataV v seq, p) ∧ Ab.Mod none_ h h') := by
  refine call_ Try.func93 rfl rfl (by kernel_rfl) ?_
  conv => whnf
  obtain ⟨gm, _, _⟩ := lay_row (h := h) (sz := 6) [i64 0, i64 0, i64 0, i64 0, i64 0, .sl none 0] []
  have mP := Mod.push none_ h (.row true 6 [i64 0, i64 0, i64 0, i64 0, i64 0, .sl none 0])
  have s1 := s.old mP
  obtain ⟨po, bx, _⟩ := s1.box
  refine ⟨_, Cell.mk bx rfl, ?_⟩
  conv => whnf
  refine (rBodyC s1.sd o seq).mono ?_
  rintro _ h2 ⟨eh, q, rfl, b2⟩
  subst eh
  conv => whnf
  refine ⟨_, rfl, ?_⟩
  conv => whnf
  refine ⟨_, rfl, ?_⟩
  conv => whnf
  refine ⟨[0, 1, 2, 3, 4, 5, 6, 7, 8, 9, 10, 11, 12, 13, 14], [0, 1, 3, 7, 0, 0, 32, 96, 224, 480, 992, 2016, 0, 8191, 16383], by kernel_rfl, ?_⟩
  conv => whnf
  refine ⟨_, Cell.mk bx rfl, ?_⟩
  conv => whnf
  refine ⟨_, Cell.mk bx rfl, ?_⟩
  conv => whnf
  refine ⟨_, s1.tk.n, ?_⟩
  conv => whnf
  refine ⟨_, _, gm, Nat.le_of_ble_eq_true rfl, ?_⟩
  conv => whnf
  have gS : ((h.push (.row true 6 [i64 0, i64 0, i64 0, i64 0, i64 0, .sl none 0])).set h.next (.row true 6 (gC (dataV v seq, q)))).obj h.next = some (.row true 6 (gC (dataV v seq, q))) := H.obj_set_same gm
  have mS : Ab.Mod (one h.next) (h.push (.row true 6 [i64 0, i64 0, i64 0, i64 0, i64 0, .sl none 0])) ((h.push (.row true 6 [i64 0, i64 0, i64 0, i64 0, i64 0, .sl none 0])).set h.next (.row true 6 (gC (dataV v seq, q)))) := Mod.set rfl gm rfl
  refine ⟨gC (dataV v seq, q), Cells.mk gS (Nat.le_of_ble_eq_true rfl) rfl, ?_⟩
  conv => whnf
  exact ⟨q, rfl, b2.get mS, mP.trans' mS (S2 := none_) (fun _ _ k => k) (fun i hi k => by
    have : i = h.next := k
    omega)⟩
def RPaysQ (h : H) (d : RCId) (v : CV) (now : Int) (r : V) (h' : H) : Prop :=
  ∃ q, r = .sl q (paysV now v.s v.O).1.length ∧ Grams h' q ((paysV now v.s v.O).1.map (pg v)) ∧ RChS h' d (v.to (paysV now v.s v.O).2.1 (paysV now v.s v.O).2.2) ∧ Ab.Mod d.all h h'
theorem Rws.tail {h : H} {po : Option (Nat × Nat)} {b : List Int} {O : List (List Int)} (s : Rws h po (b :: O)) : Rws h (slp po (1 * 1)) O := by
  obtain ⟨G, g1, g2, g3⟩ := s
  cases G with
  | nil => cases g3
  | cons x G =>
    have g3 : x.2 :: G.map Prod.snd = b :: O := g3
    injection g3 with g3 g4
    have hk : (1 : Nat) ≤ (b :: O).length := by rw [List.length_cons]; omega
    have c := g1.cut (l := 1) (m := (b :: O).length) hk (Nat.le_refl _)
    have e1 : (b :: O).length - 1 = O.length := rfl
    have e2 : ((x :: G).flatMap slC).drop (1 * 1) = G.flatMap slC := rfl
    have hGl : G.length = O.length := by rw [← g4]; simp
    rw [e1, e2, List.take_of_length_le (by rw [flat_length slC_len, hGl]; exact Nat.le_refl _)] at c
    exact ⟨G, c, fun y hy => g2 y (List.mem_cons_of_mem _ hy), g4⟩
set_option maxHeartbeats 1000000 in
theorem rPays {h : H} {d : RCId} {v : CV} (s : RChS h d v) (o : COk v) (hN : v.s.N + v.O.length ≤ 100000000) {now : Int} (hn0 : -1000000000 ≤ now) (hn1 : now ≤ 1000000000) :
    ACalls Try.prog 90 [.ptr (some (d.c, 0)), i64 now] h (RPaysQ h d v now) := by
  have hol := o.o
  have hlt : ∀ i, d.all i → i < h.next := fun i hi => s.lt hi
  refine ACalls.ro (Q := fun r h' => ∃ (q : Option (Nat × Nat)) (sv : SV) (O' : List (List Int)) (L : List (Int × List Int)) (G : List GP), paysV now v.s v.O = (L, sv, O') ∧ r = .sl q G.length ∧ NewSl h h' q G.length 6 (G.flatMap gC) ∧ (∀ x ∈ G, gOk h' x) ∧ G.map Prod.fst = L.map (pg v) ∧ RChS h' d (v.to sv O') ∧ Ab.Mod d.all h h') ?_ (by
    rintro r h' ⟨q, sv, O', L, G, e, rfl, ng, gk, hg, sc, m⟩
    obtain ⟨i, a1, a2, a3⟩ := ng.freeze m
    have hGL : G.length = L.length := by
      have := congrArg List.length hg
      simpa using this
    refine ⟨i, ?_⟩
    unfold RPaysQ
    rw [e]
    refine ⟨q, by show V.sl q G.length = V.sl q L.length; rw [hGL], ⟨G, ?_, fun x hx => (gk x hx).ro i, hg⟩, sc.ro (fun k => ?_), a3⟩
    · show RoSl _ q (L.map (pg v)).length 6 _
      rw [List.length_map, ← hGL]
      exact a2
    · have : i < h.next := hlt i k
      omega)
  refine call_ Try.func90 rfl rfl (by kernel_rfl) ?_
  conv => whnf
  refine ⟨fun env hh => ∃ (L : List (Int × List Int)) (G : List GP) (qg : Option (Nat × Nat)) (sv : SV) (O' : List (List Int)), paysV now v.s v.O = (L ++ (paysV now sv O').1, (paysV now sv O').2) ∧ G.map Prod.fst = L.map (pg v) ∧ NewSl h hh qg G.length 6 (G.flatMap gC) ∧ (∀ x ∈ G, gOk hh x) ∧ RChS hh d (v.to sv O') ∧ SOk sv ∧ sv.W = v.s.W ∧ sv.N + O'.length = v.s.N + v.O.length ∧ (∀ b ∈ O', b.length ≤ 100000) ∧ Ab.Mod d.all h hh ∧ G.length + O'.length = v.O.length ∧ env = [(5, .sl qg G.length), (0, .ptr (some (d.c, 0))), (1, i64 now)],
    fun env _ => match get env 5 with
      | .sl _ n => v.O.length - n
      | _ => 0, ⟨_, Forget.cons rfl (Forget.cons rfl (Forget.cons rfl (Forget.nil _))), [], [], none, v.s, v.O, rfl, rfl, NewSl.nil _ _ _, (fun x hx => by cases hx), s, o.s, rfl, rfl, o.ob, mod_refl _ _, by simp, rfl⟩, ?_⟩
  clear s
  rintro _ hh ⟨L, G, qg, sv, O', hp, hG, ng, gk, s, os, hW, hn, hob, mo, hlen, rfl⟩
  have done : paysV now sv O' = ([], sv, O') → ∃ (q : Option (Nat × Nat)) (sv : SV) (O' : List (List Int)) (L : List (Int × List Int)) (G' : List GP), paysV now v.s v.O = (L, sv, O') ∧ V.sl qg G.length = .sl q G'.length ∧ NewSl h hh q G'.length 6 (G'.flatMap gC) ∧ (∀ x ∈ G', gOk hh x) ∧ G'.map Prod.fst = L.map (pg v) ∧ RChS hh d (v.to sv O') ∧ Ab.Mod d.all h hh := fun e => by
    rw [e, List.append_nil] at hp
    exact ⟨qg, sv, O', L, G, hp, rfl, ng, gk, hG, s, mo⟩
  obtain ⟨po, bx, rw0⟩ := s.box
  conv => whnf
  refine ⟨_, Cell.mk bx rfl, ?_⟩
  conv => whnf
  cases O' with
  | nil =>
    conv => whnf
    exact done rfl
  | cons b O2 =>
  refine br_mk (fun ha => ?_) (fun ha => ?_)
  rotate_left
  · exact absurd ha (by
      have : (((b :: O2).length : Nat) : Int) > 0 := by rw [List.length_cons]; omega
      show ¬ decide ((((b :: O2).length : Nat) : Int) > 0) = false
      rw [decide_eq_true this]
      simp)
  conv => whnf
  refine ⟨_, Cell.mk bx rfl, ?_⟩
  conv => whnf
  refine (rRoomC s.sd os).mono ?_
  rintro _ h1 ⟨eh, rfl⟩
  subst eh
  conv => whnf
  refine br_mk (fun hb0 => ?_) (fun hb0 => ?_)
  rotate_left
  · conv => whnf
    have hb : ¬ roomV sv.W sv.ov sv.C.length > 0 := of_decide_eq_false hb0
    exact done (by rw [paysV, if_neg (by unfold roomOf; omega)])
  have hb : 0 < roomOf sv := of_decide_eq_true hb0
  conv => whnf
  refine ⟨[0, 1, 2, 3, 4, 5, 6, 7, 8, 9, 10, 11, 12, 13, 14, 15, 16], [0, 1, 3, 7, 0, 0, 32, 96, 224, 480, 992, 2047, 4095, 8191, 8191, 16383, 65535], by kernel_rfl, ?_⟩
  conv => whnf
  refine ⟨_, Cell.mk bx rfl, ?_⟩
  conv => whnf
  refine ⟨_, Cell.mk bx rfl, ?_⟩
  conv => whnf
  have rwT := Rws.tail rw0
  have rw0' : Rws h1 po (b :: O2) := rw0
  obtain ⟨i3, c3, px, w1, w2, hxb⟩ := rw0'.cell (j := 0) (by simp)
  have hxb : RoSl h1 px b.length 1 (ints .u8 b) := hxb
  refine ⟨i3, c3, 0, w1, rfl, (by show 0 < (b :: O2).length; rw [List.length_cons]; omega), ?_⟩
  conv => whnf
  refine ⟨_, w2, ?_⟩
  conv => whnf
  have hxl := hob b (by simp)
  obtain ⟨z1, z2, z3, z4⟩ := send_room os hb now b
  have hnx : sv.N + ((O2.length : Int) + 1) = v.s.N + v.O.length := by
    rw [List.length_cons] at hn
    omega
  have hlx : G.length + (O2.length + 1) = v.O.length := by
    rw [List.length_cons] at hlen
    omega
  refine (rSendC (v := sv) s.sd os (by omega) hn0 hn1 hxb.is hxl).mono ?_
  rintro _ h5 ⟨rfl, s5, m5⟩
  rw [z1]
  have o5 := os.send now (body := b) hxl
  have hpO : paysV now sv (b :: O2) = ((sv.N, b) :: (paysV now (sendV sv now b).2 O2).1, (paysV now (sendV sv now b).2 O2).2) := by rw [paysV, if_pos hb]
  generalize (sendV sv now b).2 = sv2 at s5 z2 z3 z4 o5 hpO
  have nsep := s.sep
  have box5 := m5.get bx (.inl nsep.1)
  have tk5 := s.tk.get m5 nsep.2.1
  have gk5 : ∀ y ∈ G, gOk h5 y := fun y hy => (gk y hy).get m5
  have ng5 := ng.1.get m5 (fun i o e => .inl (fun k => by
    have := ng.2 i o e
    have := hlt i (.inl k)
    omega))
  have mo5 := mo.trans' m5 (S2 := d.all) (fun _ _ k => k) (fun _ _ k => .inl k)
  conv => whnf
  refine ⟨_, rfl, ?_⟩
  conv => whnf
  refine ⟨_, rfl, ?_⟩
  conv => whnf
  refine ⟨_, Cell.mk box5 rfl, ?_⟩
  conv => whnf
  refine ⟨⟨_, (rw0'.get m5).choose_spec.1.is⟩, 1, rfl, (by show 1 ≤ (b :: O2).length; rw [List.length_cons]; omega), Nat.le_refl _, ?_⟩
  conv => whnf
  refine ⟨_, _, box5, Nat.le_of_ble_eq_true rfl, ?_⟩
  conv => whnf
  have box6 : (h5.set d.c (.row true 4 [i64 v.conn, .ptr (some (d.s.g, 0)), .ptr (some (d.t, 0)), .sl (slp po (1 * 1)) O2.length])).obj d.c = some (.row true 4 [i64 v.conn, .ptr (some (d.s.g, 0)), .ptr (some (d.t, 0)), .sl (slp po (1 * 1)) O2.length]) := H.obj_set_same box5
  have m6 : Ab.Mod (one d.c) h5 (h5.set d.c (.row true 4 [i64 v.conn, .ptr (some (d.s.g, 0)), .ptr (some (d.t, 0)), .sl (slp po (1 * 1)) O2.length])) := Mod.set rfl box5 rfl
  have c6 : RChS (h5.set d.c (.row true 4 [i64 v.conn, .ptr (some (d.s.g, 0)), .ptr (some (d.t, 0)), .sl (slp po (1 * 1)) O2.length])) d (v.to sv2 O2) := by
    refine ⟨⟨_, box6, (rwT.get m5).get m6⟩, s5.get m6 (fun i hi k => nsep.1 (by have : i = d.c := k; rw [← this]; exact hi)), ?_, nsep⟩
    show RTkC _ d.t sv2.W v.N v.C
    rw [z4]
    exact tk5.get m6 (fun k => nsep.2.2 (Eq.symm k))
  have ng6 := ng5.get m6 (fun i o e => .inl (fun k => by
    have : i = d.c := k
    have := ng.2 i o e
    have := hlt d.c (.inr (.inl rfl))
    omega))
  have mo6 := mo5.trans' m6 (S2 := d.all) (fun _ _ k => k) (fun _ _ k => .inr (.inl k))
  refine (rData c6 o5 sv.N).mono ?_
  rintro _ h7 ⟨pp, rfl, gp, m7⟩
  have c7 := c6.old m7
  have ng7 : NewSl h h7 qg G.length 6 (G.flatMap gC) := ⟨SlIs.old ng6 m7 (fun _ _ k => k), ng.2⟩
  have mo7 := mo6.trans' m7 (S2 := d.all) (fun _ _ k => k) (fun _ _ k => k.elim)
  have hpg : dataV (v.to sv2 O2) sv.N = pg v (sv.N, b) := by
    show (⟨v.conn, 1, sv.N, v.N, 0, bodyV sv2.C sv.N⟩ : GV) = _
    rw [z2]
    rfl
  rw [hpg] at gp ⊢
  conv => whnf
  obtain ⟨y1, y2, y3⟩ := app1 ng7 mo7 (gC (pg v (sv.N, b), pp)) rfl
  refine ⟨_, _, y1, y2, by rw [show (T.at_ 35).bytes = 64 from rfl]; omega, by omega, fun qg2 hY hs2 hm2 hf2 => ?_⟩
  obtain ⟨ng8, mo8, my⟩ := y3 qg2 hY hs2 hm2 hf2
  have e6 : G.flatMap gC ++ gC (pg v (sv.N, b), pp) = (G ++ [(pg v (sv.N, b), pp)]).flatMap gC := by rw [List.flatMap_append]; simp
  have e7 : G.length + 1 = (G ++ [(pg v (sv.N, b), pp)]).length := by simp
  rw [e6, e7] at ng8
  conv => whnf
  rw [e7]
  have hq8 : ∀ i, inSl qg i → h.next ≤ i := fun i ⟨o, e⟩ => ng.2 i o e
  refine ⟨_, Forget.cons rfl (Forget.cons rfl (Forget.cons rfl (Forget.nil _))), ⟨L ++ [(sv.N, b)], G ++ [(pg v (sv.N, b), pp)], qg2, sv2, O2, ?_, by rw [List.map_append, List.map_append, hG]; rfl, ng8, fun y hy => ?_, c7.get my (fun i hi k => ?_), o5, z4.trans hW, by omega, fun c hc => hob c (List.mem_cons_of_mem _ hc), mo8, by rw [← e7]; omega, rfl⟩, ?_⟩
  · rw [hp, hpO]
    simp
  · rcases List.mem_append.1 hy with hy | hy
    · exact (((gk5 y hy).get m6).get m7).get my
    · have : y = (pg v (sv.N, b), pp) := by simpa using hy
      subst this
      exact gp.get my
  · have := hq8 i k
    have : i < h.next := hlt i hi
    omega
  · show v.O.length - (G ++ [(pg v (sv.N, b), pp)]).length < v.O.length - G.length
    rw [← e7]
    omega
end Go.Proofs.Ytoljllfbabahpaa
/-! Channels: the document's: what is pushed, what comes, and time. -/
namespace Go.Proofs.Ytoljllfbabahpaa
open Go Go.Ab
/-- from here on row i is written no more -/
theorem froz {P : Go.Program} {f : Nat} {args : List V} {h : H} {Q : V → H → Prop} (i : Nat) (c : ACalls P f args (h.ro i) Q) : ACalls P f args h Q :=
  ⟨c.1, fun ρ w vs r d v => (c.2 ρ w vs (r.ro i) d v).mono fun e w' ⟨x, h', ρ', u, e1, q, k1, k2, k3, s⟩ =>
    ⟨x, h', ρ', u, e1, q, k1, k2, k3, ⟨s.ext, s.os, s.tape, s.output, s.size, s.next, fun b hb hn => s.frame b hb (fun j ob l h1 h2 h3 => by
      obtain ⟨ob0, k1, k2, _⟩ := H.ro_old h1
      exact hn j ob0 l k1 (k2 h2) h3), fun j ob l h1 h2 h3 => by
      rcases s.own j ob l h1 h2 h3 with ⟨k, ok, lk, a, b, c, d⟩ | q
      · obtain ⟨ob0, k1, k2, _⟩ := H.ro_old a
        exact .inl ⟨k, ob0, lk, k1, k2 b, c, d⟩
      · exact .inr q⟩⟩⟩
def RPushQ (h : H) (d : RCId) (R : (List GV × Int) × CV) (r : V) (h' : H) : Prop :=
  ∃ q, r = .tup [.sl q R.1.1.length, i64 R.1.2] ∧ Grams h' q R.1.1 ∧ RChS h' d R.2 ∧ Ab.Mod d.all h h'
def RRecvQ (h : H) (d : RCId) (R : (List (List Int) × List GV) × CV) (r : V) (h' : H) : Prop :=
  ∃ qr qg, r = .tup [.sl qr R.1.1.length, .sl qg R.1.2.length] ∧ Rws h' qr R.1.1 ∧ Grams h' qg R.1.2 ∧ RChS h' d R.2 ∧ Ab.Mod d.all h h'
theorem RSdC.ov {h : H} {d : RId} {v : SV} (s : RSdC h d v) : Cell h d.g 4 (.bool v.ov) := by
  obtain ⟨S, ⟨⟨p, h1, _⟩, _⟩, _⟩ := s
  exact Cell.mk h1 rfl
set_option maxHeartbeats 1000000 in
theorem rPush {h : H} {d : RCId} {v : CV} (s : RChS h d v) (o : COk v) (hN : v.s.N + v.O.length ≤ 10000000) {now : Int} (hn0 : -1000000000 ≤ now) (hn1 : now ≤ 1000000000) {q : Option (Nat × Nat)} {m : Nat} {body : List Int} (nm : SlIs h q m false 1 (ints .u8 body)) (hm : m ≤ 100000) :
    ACalls Try.prog 59 [.ptr (some (d.c, 0)), i64 now, .sl q m] h (RPushQ h d (pushV v now body)) := by
  have hml := slo_len nm
  have hol := o.o
  have hlt : ∀ i, d.all i → i < h.next := fun i hi => s.lt hi
  obtain ⟨po, bx, rw0⟩ := s.box
  refine call_ Try.func59 rfl rfl (by kernel_rfl) ?_
  conv => whnf
  refine ⟨_, Cell.mk bx rfl, ?_⟩
  conv => whnf
  refine ⟨_, s.sd.ov, ?_⟩
  cases hov : v.s.ov with
  | true =>
    conv => whnf
    have hv : pushV v now body = (([], 6), v) := by rw [pushV, if_pos hov]
    rw [hv]
    exact ⟨none, rfl, Grams.nil _, s, mod_refl _ _⟩
  | false =>
  conv => whnf
  refine ⟨_, Cell.mk bx rfl, ?_⟩
  conv => whnf
  refine br_mk (fun hf => ?_) (fun hf => ?_)
  · conv => whnf
    have hf : 64 ≤ v.O.length := by
      have : (v.O.length : Int) ≥ 64 := by simpa using hf
      omega
    have hv : pushV v now body = (([], 5), v) := by rw [pushV, if_neg (by rw [hov]; simp), if_pos hf]
    rw [hv]
    exact ⟨none, rfl, Grams.nil _, s, mod_refl _ _⟩
  have hf : ¬ 64 ≤ v.O.length := by
    have : ¬ (v.O.length : Int) ≥ 64 := by simpa using hf
    omega
  have hv : pushV v now body = (((paysV now v.s (v.O ++ [body])).1.map (pg v), 0), v.to (paysV now v.s (v.O ++ [body])).2.1 (paysV now v.s (v.O ++ [body])).2.2) := by rw [pushV, if_neg (by rw [hov]; simp), if_neg hf]
  rw [hv]
  conv => whnf
  have mP := Mod.push none_ h (.row true 1 [])
  refine ⟨_, Cell.mk (mP.get bx (.inl (fun k => k))) rfl, ?_⟩
  conv => whnf
  obtain ⟨G, g1, g2, g3⟩ := rw0
  obtain ⟨y1, y2, y3⟩ := app0 (h0 := h) g1.is
  refine ⟨_, _, y1, y2, by rw [show (T.at_ 33).bytes = 24 from rfl]; omega, by omega, fun p1 h1 hs1 hm1 hf1 => ?_⟩
  obtain ⟨n1, mo1⟩ := y3 p1 h1 hs1 hm1 hf1
  conv => whnf
  rw [Nat.zero_add v.O.length]
  obtain ⟨z1, z2, z3⟩ := app0 (h0 := h) (SlIs.old nm mo1 (fun _ _ k => k))
  refine ⟨_, _, z1, z2, by rw [show (T.at_ 5).bytes = 1 from rfl]; omega, by omega, fun p2 h2 hs2 hm2 hf2 => ?_⟩
  obtain ⟨n2, mo2⟩ := z3 p2 h2 hs2 hm2 hf2
  conv => whnf
  rw [Nat.zero_add m]
  have mo12 := mod_none mo1 mo2
  obtain ⟨x1, x2, x3⟩ := app1 (NewSl.kept n1 mo2) mo12 [.sl p2 m] rfl
  refine ⟨_, _, x1, x2, by rw [show (T.at_ 33).bytes = 24 from rfl]; omega, by omega, fun p3 h3 hs3 hm3 hf3 => ?_⟩
  obtain ⟨n3, mo3, my3⟩ := x3 p3 h3 hs3 hm3 hf3
  conv => whnf
  have bx3 := mo3.get bx (.inl (fun k => k))
  refine ⟨_, _, bx3, Nat.le_of_ble_eq_true rfl, ?_⟩
  conv => whnf
  have n2' : NewSl h h3 p2 m 1 (ints .u8 body) := ⟨n2.1.get my3 (fun i o e => .inl (fun k => by
    have a1 := n2.2 i o e
    have a2 := SlIs.own_lt n1.1 k
    omega)), fun i o e => by
    have a1 := n2.2 i o e
    have a2 := mo1.next
    omega⟩
  have hdc : d.c < h.next := hlt d.c (.inr (.inl rfl))
  change ACalls Try.prog 90 [.ptr (some (d.c, 0)), i64 now] (h3.set d.c (.row true 4 [i64 v.conn, .ptr (some (d.s.g, 0)), .ptr (some (d.t, 0)), .sl p3 (v.O.length + 1)])) _
  generalize hbx : Ab.Obj.row true 4 [i64 v.conn, .ptr (some (d.s.g, 0)), .ptr (some (d.t, 0)), .sl p3 (v.O.length + 1)] = bo
  have bx5 : (h3.set d.c bo).obj d.c = some bo := H.obj_set_same bx3
  have m5 : Ab.Mod (one d.c) h3 (h3.set d.c bo) := Mod.set rfl bx3 rfl
  have n3k := NewSl.keep n3 m5 (fun i k => by have : i = d.c := k; omega)
  have n2k := NewSl.keep n2' m5 (fun i k => by have : i = d.c := k; omega)
  have mo5 : Ab.Mod d.all h (h3.set d.c bo) := mo3.trans' m5 (S2 := d.all) (fun _ _ k => k.elim) (fun _ _ k => .inr (.inl k))
  obtain ⟨i, a1, a2, a3⟩ := NR.freeze (.inl n3k) mo5
  obtain ⟨j, b1, b2, b3⟩ := ((NR.ro (.inl n2k) i : NR h ((h3.set d.c bo).ro i) p2 m 1 (ints .u8 body))).freeze a3
  refine froz i (froz j ?_)
  have s3 := s.get mo3 (fun i _ k => k)
  obtain ⟨_, sd3, tk3, sep3⟩ := s3
  have hni : ∀ k, d.all k → k ≠ i ∧ k ≠ j := fun k hk => by
    have := hlt k hk
    omega
  have c5 : RChS (((h3.set d.c bo).ro i).ro j) d (v.to v.s (v.O ++ [body])) := by
    refine ⟨⟨p3, ?_, G ++ [(p2, body)], ?_, fun x hx => ?_, ?_⟩, RSdC.ro (RSdC.ro (sd3.get m5 (fun k hk e => sep3.1 (by have : k = d.c := e; rw [← this]; exact hk))) (fun k => (hni i (.inl k)).1 rfl)) (fun k => (hni j (.inl k)).2 rfl), RTkC.ro (RTkC.ro (tk3.get m5 (fun e => sep3.2.2 (Eq.symm e))) (hni d.t (.inr (.inr rfl))).1) (hni d.t (.inr (.inr rfl))).2, sep3⟩
    · rw [H.ro_ne _ (hni d.c (.inr (.inl rfl))).2, H.ro_ne _ (hni d.c (.inr (.inl rfl))).1, bx5, ← hbx]
      show _ = some (Ab.Obj.row true 4 [i64 v.conn, .ptr (some (d.s.g, 0)), .ptr (some (d.t, 0)), .sl p3 (v.O ++ [body]).length])
      rw [List.length_append]
      rfl
    · show RoSl _ p3 (v.O ++ [body]).length 1 _
      rw [List.length_append, List.flatMap_append]
      have e1 : ([(p2, body)] : List Bd).flatMap slC = [.sl p2 m] := by
        show [V.sl p2 body.length] = _
        rw [hml]
      rw [e1]
      exact a2.ro j
    · rcases List.mem_append.1 hx with hx | hx
      · exact (((((g2 x hx).get mo3).get m5).ro i).ro j)
      · have : x = (p2, body) := by simpa using hx
        subst this
        show RoSl _ p2 body.length 1 (ints .u8 body)
        rw [← hml]
        exact b2
    · rw [List.map_append, g3]
      rfl
  have o5 : COk (v.to v.s (v.O ++ [body])) := ⟨o.s, o.k, o.n0, by show (v.O ++ [body]).length ≤ 1000; rw [List.length_append]; show v.O.length + 1 ≤ 1000; omega, fun c hc => by
    rcases List.mem_append.1 hc with hc | hc
    · exact o.ob c hc
    · have : c = body := by simpa using hc
      rw [this]
      omega⟩
  refine (rPays c5 o5 (by
    show v.s.N + ((v.O ++ [body]).length : Int) ≤ 100000000
    rw [List.length_append]
    show v.s.N + ((v.O.length + 1 : Nat) : Int) ≤ 100000000
    omega) hn0 hn1).mono ?_
  rintro _ h6 ⟨q6, rfl, gr6, c6, m6⟩
  conv => whnf
  refine ⟨q6, ?_, gr6, c6, b3.trans' m6 (S2 := d.all) (fun _ _ k => k) (fun _ _ k => k)⟩
  show V.tup [.sl q6 (paysV now v.s (v.O ++ [body])).1.length, i64 0] = V.tup [.sl q6 ((paysV now v.s (v.O ++ [body])).1.map (pg v)).length, i64 0]
  rw [List.length_map]
end Go.Proofs.Ytoljllfbabahpaa
/-! Channels: the document's: what comes, and time. -/
namespace Go.Proofs.Ytoljllfbabahpaa
open Go Go.Ab
set_option maxHeartbeats 2000000 in
theorem rRecv {h : H} {d : RCId} {v : CV} (s : RChS h d v) (o : COk v) (hN : v.s.N + v.O.length ≤ 10000000) (hNt : v.N ≤ 1000000) {now : Int} (hn0 : -1000000000 ≤ now) (hn1 : now ≤ 1000000000) {g : GV} {p : Option (Nat × Nat)} (gk : ∀ h', Ab.Mod d.all h h' → SlIs h' p g.body.length false 1 (ints .u8 g.body)) (hseq : inI g.seq) (hm : g.body.length ≤ 100000) :
    ACalls Try.prog 60 [.ptr (some (d.c, 0)), i64 now, .agg (gC (g, p))] h (RRecvQ h d (recvV v now g)) := by
  have hol := o.o
  have hlt : ∀ i, d.all i → i < h.next := fun i hi => s.lt hi
  refine ACalls.ro (Q := fun r h' => ∃ (qr qg : Option (Nat × Nat)) (G : List GP), r = .tup [.sl qr (recvV v now g).1.1.length, .sl qg G.length] ∧ Rws h' qr (recvV v now g).1.1 ∧ NewSl h h' qg G.length 6 (G.flatMap gC) ∧ (∀ x ∈ G, gOk h' x) ∧ G.map Prod.fst = (recvV v now g).1.2 ∧ RChS h' d (recvV v now g).2 ∧ Ab.Mod d.all h h') ?_ (by
    rintro r h' ⟨qr, qg, G, rfl, rw', ng, gk', hg, sc, m⟩
    obtain ⟨i, a1, a2, a3⟩ := ng.freeze m
    have hGL : G.length = (recvV v now g).1.2.length := by
      have := congrArg List.length hg
      simpa using this
    refine ⟨i, qr, qg, by rw [hGL], rw'.ro i, ⟨G, by rw [← hGL]; exact a2, fun x hx => (gk' x hx).ro i, hg⟩, sc.ro (fun k => ?_), a3⟩
    have : i < h.next := hlt i k
    omega)
  have mP := Mod.push none_ h (.row true 6 (gC (g, p)))
  have gm : (h.push (.row true 6 (gC (g, p)))).obj h.next = some (.row true 6 (gC (g, p))) := H.obj_push_new _ _
  have s1 := s.old mP
  obtain ⟨po, bx, _⟩ := s1.box
  have nay : recvB v g = true → ∃ (qr qg : Option (Nat × Nat)) (G : List GP), V.tup [.sl none 0, .sl none 0] = .tup [.sl qr (recvV v now g).1.1.length, .sl qg G.length] ∧ Rws (h.push (.row true 6 (gC (g, p)))) qr (recvV v now g).1.1 ∧ NewSl h (h.push (.row true 6 (gC (g, p)))) qg G.length 6 (G.flatMap gC) ∧ (∀ x ∈ G, gOk (h.push (.row true 6 (gC (g, p)))) x) ∧ G.map Prod.fst = (recvV v now g).1.2 ∧ RChS (h.push (.row true 6 (gC (g, p)))) d (recvV v now g).2 ∧ Ab.Mod d.all h (h.push (.row true 6 (gC (g, p)))) := fun e => by
    have hv : recvV v now g = (([], []), v) := by rw [recvV, if_pos e]
    rw [hv]
    exact ⟨none, none, [], rfl, Rws.nil _, NewSl.nil _ _ _, (fun x hx => by cases hx), rfl, s1, mP.mono (fun _ _ k => k.elim)⟩
  refine call_ Try.func60 rfl rfl (by kernel_rfl) ?_
  conv => whnf
  refine ⟨[0, 1, 2, 3, 4, 5, 6, 7, 8, 9, 10, 11, 12, 13, 14, 15, 16, 17, 18, 19, 20, 21, 22, 23, 24, 25], [0, 1, 0, 4, 12, 28, 63, 127, 255, 511, 1023, 2047, 4095, 8191, 16383, 32767, 65535, 131071, 262143, 524287, 1048575, 2097151, 4194303, 8388607, 16777215, 33554431], by kernel_rfl, ?_⟩
  conv => whnf
  refine ⟨_, Cell.mk gm rfl, ?_⟩
  conv => whnf
  refine ⟨_, Cell.mk bx rfl, ?_⟩
  conv => whnf
  refine br_mk (fun ha => ?_) (fun ha => ?_)
  · conv => whnf
    have ha : g.conn ≠ v.conn := by simpa using ha
    exact nay (by rw [recvB, decide_eq_true ha]; simp)
  conv => whnf
  have ha : g.conn = v.conn := by simpa using ha
  refine ⟨_, Cell.mk gm rfl, ?_⟩
  conv => whnf
  have W2 : ∀ K : Prop, (∀ hb : g.kind = 1 ∨ g.kind = 2, v.s.ov = false → recvB v g = false → K) → True := fun _ _ => trivial
  refine br_mk (fun hb => ?_) (fun hb => ?_)
  · conv => whnf
    have hb : g.kind ≠ 1 := by simpa using hb
    refine ⟨_, Cell.mk gm rfl, ?_⟩
    conv => whnf
    refine br_mk (fun hc => ?_) (fun hc => ?_)
    · conv => whnf
      have hc : g.kind ≠ 2 := by simpa using hc
      exact nay (by rw [recvB, decide_eq_true hb, decide_eq_true hc]; simp)
    have hc : g.kind = 2 := by simpa using hc
    conv => whnf
    refine ⟨_, Cell.mk bx rfl, ?_⟩
    conv => whnf
    refine ⟨_, s1.sd.ov, ?_⟩
    cases hov : v.s.ov with
    | true =>
      conv => whnf
      exact nay (by rw [recvB, hov]; rfl)
    | false =>
    conv => whnf
    have hB : recvB v g = false := by rw [recvB, hov, ha, hc]; simp
    have hW2 : (recvS v g).W = v.s.W := ackV_W v.s g.ack
    have hN2 : (recvS v g).N = v.s.N := ackV_N v.s g.ack
    have o2 : SOk (recvS v g) := o.s.ack g.ack
    have hW : 1 ≤ v.s.W ∧ v.s.W ≤ 16 := by simpa [okW] using o.s.ok
    refine ⟨[0, 1, 2, 3, 4, 5, 6], [0, 1, 3, 7, 0, 16, 63], by kernel_rfl, ?_⟩
    conv => whnf
    refine ⟨_, Cell.mk bx rfl, ?_⟩
    conv => whnf
    refine ⟨_, Cell.mk gm rfl, ?_⟩
    conv => whnf
    refine (rAckC s1.sd o.s g.ack).mono ?_
    rintro _ h2 ⟨rfl, t2, m2⟩
    have c2 := s1.sender t2 m2 hW2
    have hnd : ¬ d.s.all h.next := fun k => by
      have := hlt _ (.inl k)
      omega
    have gm2 := m2.get gm (.inl hnd)
    have mo2 : Ab.Mod d.all h h2 := mP.trans' m2 (fun _ _ k => k.elim) (fun _ _ k => .inl k)
    conv => whnf
    refine ⟨_, Cell.mk gm2 rfl, ?_⟩
    conv => whnf
    refine br_mk (fun hd => ?_) (fun hd => ?_)
    · exact absurd hd (by rw [show (g, p).1.kind = 2 from hc]; simp)
    conv => whnf
    have hM : recvM v g = { v with s := recvS v g } := by rw [recvM, if_neg hb]
    have oM : COk { v with s := recvS v g } := ⟨o2, by show OkH (recvS v g).W v.N v.C; rw [hW2]; exact o.k, o.n0, o.o, o.ob⟩
    have hv : recvV v now g = (([], [] ++ (paysV now (recvM v g).s v.O).1.map (pg (recvM v g))), (recvM v g).to (paysV now (recvM v g).s v.O).2.1 (paysV now (recvM v g).s v.O).2.2) := by rw [recvV, if_neg (by rw [hB]; simp), if_neg hb, if_neg hb]
    rw [hM] at hv
    rw [hv]
    refine (rPays c2 oM (by show (recvS v g).N + (v.O.length : Int) ≤ _; omega) hn0 hn1).mono ?_
    rintro _ h6 ⟨q6, rfl, gr6, c6, m6⟩
    obtain ⟨G6, x1, x2, x3⟩ := gr6
    have mo6 := mo2.trans' m6 (S2 := d.all) (fun _ _ k => k) (fun _ _ k => k)
    have hpl := (pays_ok now v.O o2 o.ob).2.2.2.1
    have x1 : RoSl h6 q6 ((paysV now (recvS v g) v.O).1.map (pg { v with s := recvS v g })).length 6 (G6.flatMap gC) := x1
    rw [List.length_map] at x1
    have hGl : (paysV now (recvS v g) v.O).1.length = G6.length := by
      have := congrArg List.length x3
      rw [List.length_map, List.length_map] at this
      exact this.symm
    have nq : NewSl h h6 none 0 6 [] := NewSl.nil _ _ _
    conv => whnf
    refine ⟨_, _, nq.1, x1.is, by rw [show (T.at_ 35).bytes = 64 from rfl]; show (0 + (paysV now (recvS v g) v.O).1.length) * 64 ≤ _; omega, (by show 0 + (paysV now (recvS v g) v.O).1.length ≤ _; omega), fun p7 h7 hs7 hm7 hf7 => ?_⟩
    obtain ⟨ng8, mo8⟩ := appN nq mo6 p7 h7 hs7 hm7 hf7
    have ng8 : NewSl h h7 p7 (0 + (paysV now (recvS v g) v.O).1.length) 6 ([] ++ G6.flatMap gC) := ng8
    rw [Nat.zero_add, hGl, List.nil_append] at ng8
    conv => whnf
    refine ⟨none, p7, G6, ?_, Rws.nil _, ng8, fun x hx => (x2 x hx).get hm7, by rw [x3]; rfl, c6.get hm7 (fun i hi k => ?_), mo8⟩
    · show V.tup [.sl none 0, .sl p7 (0 + (paysV now (recvS v g) v.O).1.length)] = _
      rw [Nat.zero_add, hGl]
      rfl
    · obtain ⟨o', k⟩ := k
      cases k
  · have hb : g.kind = 1 := by simpa using hb
    conv => whnf
    refine ⟨_, Cell.mk bx rfl, ?_⟩
    conv => whnf
    refine ⟨_, s1.sd.ov, ?_⟩
    cases hov : v.s.ov with
    | true =>
      conv => whnf
      exact nay (by rw [recvB, hov]; rfl)
    | false =>
    conv => whnf
    have hB : recvB v g = false := by rw [recvB, hov, ha, hb]; simp
    have hW2 : (recvS v g).W = v.s.W := ackV_W v.s g.ack
    have hN2 : (recvS v g).N = v.s.N := ackV_N v.s g.ack
    have o2 : SOk (recvS v g) := o.s.ack g.ack
    have hW : 1 ≤ v.s.W ∧ v.s.W ≤ 16 := by simpa [okW] using o.s.ok
    refine ⟨[0, 1, 2, 3, 4, 5, 6], [0, 1, 3, 7, 0, 16, 63], by kernel_rfl, ?_⟩
    conv => whnf
    refine ⟨_, Cell.mk bx rfl, ?_⟩
    conv => whnf
    refine ⟨_, Cell.mk gm rfl, ?_⟩
    conv => whnf
    refine (rAckC s1.sd o.s g.ack).mono ?_
    rintro _ h2 ⟨rfl, t2, m2⟩
    have c2 := s1.sender t2 m2 hW2
    have hnd : ¬ d.s.all h.next := fun k => by
      have := hlt _ (.inl k)
      omega
    have gm2 := m2.get gm (.inl hnd)
    have mo2 : Ab.Mod d.all h h2 := mP.trans' m2 (fun _ _ k => k.elim) (fun _ _ k => .inl k)
    conv => whnf
    refine ⟨_, Cell.mk gm2 rfl, ?_⟩
    conv => whnf
    refine br_mk (fun hd => ?_) (fun hd => ?_)
    rotate_left
    · exact absurd hd (by rw [show (g, p).1.kind = 1 from hb]; simp)
    conv => whnf
    have hM : recvM v g = ⟨recvS v g, (tkV (recvS v g).W v.N v.C g.seq g.body).2.2.1, (tkV (recvS v g).W v.N v.C g.seq g.body).2.2.2, v.conn, v.O⟩ := by rw [recvM, if_pos hb]
    have okh : OkH (recvS v g).W v.N v.C := by rw [hW2]; exact o.k
    have okw : okW (recvS v g).W = true := by rw [hW2]; exact o.s.ok
    obtain ⟨oh2, on1, on2, on3⟩ := okh.take (by omega) g.seq g.body
    have hn0' := o.n0
    have gk2 : SlIs h2 p g.body.length false 1 (ints .u8 g.body) := gk h2 mo2
    obtain ⟨po2, bx2, _⟩ := c2.box
    refine ⟨[0, 1, 2, 3, 4, 5, 6, 7, 8, 9, 10, 11, 12], [0, 1, 3, 7, 0, 16, 0, 64, 255, 511, 1023, 1023, 2047], by kernel_rfl, ?_⟩
    conv => whnf
    refine ⟨_, Cell.mk bx2 rfl, ?_⟩
    conv => whnf
    refine ⟨_, Cell.mk gm2 rfl, ?_⟩
    conv => whnf
    refine ⟨_, Cell.mk gm2 rfl, ?_⟩
    conv => whnf
    refine (take30c c2.tk okw okh o.n0 hNt hseq gk2 hm).mono ?_
    rintro _ h3 ⟨q3, rfl, rw3, t3, m3⟩
    have c3 := c2.taker t3 m3
    have mo3 := mo2.trans' m3 (S2 := d.all) (fun _ _ k => k) (fun _ _ k => .inr (.inr k))
    obtain ⟨po3, bx3, _⟩ := c3.box
    conv => whnf
    refine ⟨_, rfl, ?_⟩
    conv => whnf
    refine ⟨_, rfl, ?_⟩
    conv => whnf
    refine ⟨[0, 1, 2, 3, 4, 5, 6, 7, 8, 9, 10, 11, 12, 13, 14, 15], [0, 0, 2, 6, 14, 0, 32, 96, 224, 480, 992, 2016, 4094, 8190, 16383, 32767], by kernel_rfl, ?_⟩
    conv => whnf
    refine ⟨_, Cell.mk bx3 rfl, ?_⟩
    conv => whnf
    refine ⟨_, Cell.mk bx3 rfl, ?_⟩
    conv => whnf
    refine ⟨_, c3.tk.n, ?_⟩
    conv => whnf
    have oM : COk ⟨recvS v g, (tkV (recvS v g).W v.N v.C g.seq g.body).2.2.1, (tkV (recvS v g).W v.N v.C g.seq g.body).2.2.2, v.conn, v.O⟩ := ⟨o2, oh2, by show 0 ≤ (tkV (recvS v g).W v.N v.C g.seq g.body).2.2.1; omega, o.o, o.ob⟩
    have c3 : RChS h3 d ⟨recvS v g, (tkV (recvS v g).W v.N v.C g.seq g.body).2.2.1, (tkV (recvS v g).W v.N v.C g.seq g.body).2.2.2, v.conn, v.O⟩ := c3
    have hv : recvV v now g = (((tkV (recvS v g).W v.N v.C g.seq g.body).2.1, [⟨v.conn, 2, 0, (recvM v g).N, 0, []⟩] ++ (paysV now (recvM v g).s v.O).1.map (pg (recvM v g))), (recvM v g).to (paysV now (recvM v g).s v.O).2.1 (paysV now (recvM v g).s v.O).2.2) := by rw [recvV, if_neg (by rw [hB]; simp), if_pos hb, if_pos hb]
    rw [hM] at hv
    rw [hv]
    have rw3 : Rws h3 q3 (tkV (recvS v g).W v.N v.C g.seq g.body).2.1 := rw3
    obtain ⟨ga, hga⟩ : ∃ ga : GP, ga = (⟨v.conn, 2, 0, (tkV (recvS v g).W v.N v.C g.seq g.body).2.2.1, 0, []⟩, none) := ⟨_, rfl⟩
    have nq : NewSl h h3 none 0 6 [] := NewSl.nil _ _ _
    obtain ⟨y1, y2, y3⟩ := app1 nq mo3 [i64 v.conn, i64 2, i64 0, i64 (tkV (recvS v g).W v.N v.C g.seq g.body).2.2.1, i64 0, .sl none 0] rfl
    refine ⟨_, _, y1, y2, by decide, by decide, fun p5 h5 hs5 hm5 hf5 => ?_⟩
    obtain ⟨n5, mo5, my⟩ := y3 p5 h5 hs5 hm5 hf5
    have n5 : NewSl h h5 p5 1 6 [i64 v.conn, i64 2, i64 0, i64 (tkV (recvS v g).W v.N v.C g.seq g.body).2.2.1, i64 0, .sl none 0] := n5
    have c5 := c3.get my (fun i _ ⟨o', k⟩ => by cases k)
    conv => whnf
    refine (rPays c5 oM (by show (recvS v g).N + (v.O.length : Int) ≤ _; omega) hn0 hn1).mono ?_
    rintro _ h6 ⟨q6, rfl, gr6, c6, m6⟩
    obtain ⟨G6, x1, x2, x3⟩ := gr6
    have n6 : NewSl h h6 p5 1 6 [i64 v.conn, i64 2, i64 0, i64 (tkV (recvS v g).W v.N v.C g.seq g.body).2.2.1, i64 0, .sl none 0] := ⟨n5.1.get m6 (fun i o' e => .inl (fun k => by
      have := hlt i k
      have := n5.2 i o' e
      omega)), n5.2⟩
    have mo6 := mo5.trans' m6 (S2 := d.all) (fun _ _ k => k) (fun _ _ k => k)
    have hpl := (pays_ok now v.O o2 o.ob).2.2.2.1
    have x1 : RoSl h6 q6 ((paysV now (recvS v g) v.O).1.map (pg ⟨recvS v g, (tkV (recvS v g).W v.N v.C g.seq g.body).2.2.1, (tkV (recvS v g).W v.N v.C g.seq g.body).2.2.2, v.conn, v.O⟩)).length 6 (G6.flatMap gC) := x1
    rw [List.length_map] at x1
    have hGl : (paysV now (recvS v g) v.O).1.length = G6.length := by
      have := congrArg List.length x3
      rw [List.length_map, List.length_map] at this
      exact this.symm
    conv => whnf
    refine ⟨_, _, n6.1, x1.is, by rw [show (T.at_ 35).bytes = 64 from rfl]; show (1 + (paysV now (recvS v g) v.O).1.length) * 64 ≤ _; omega, (by show 1 + (paysV now (recvS v g) v.O).1.length ≤ _; omega), fun p7 h7 hs7 hm7 hf7 => ?_⟩
    obtain ⟨ng8, mo8⟩ := appN n6 mo6 p7 h7 hs7 hm7 hf7
    have hgc : [i64 v.conn, i64 2, i64 0, i64 (tkV (recvS v g).W v.N v.C g.seq g.body).2.2.1, i64 0, .sl none 0] ++ G6.flatMap gC = (ga :: G6).flatMap gC := by
      rw [hga]
      rfl
    have ng8 : NewSl h h7 p7 (ga :: G6).length 6 ((ga :: G6).flatMap gC) := by
      rw [List.length_cons, ← hGl, Nat.add_comm, ← hgc]
      exact ng8
    conv => whnf
    refine ⟨q3, p7, ga :: G6, ?_, ((rw3.get my).get m6).get hm7, ng8, fun x hx => ?_, ?_, c6.get hm7 (fun i hi k => ?_), mo8⟩
    · show V.tup [.sl q3 (tkV (recvS v g).W v.N v.C g.seq g.body).2.1.length, .sl p7 (1 + (paysV now (recvS v g) v.O).1.length)] = _
      rw [hGl, Nat.add_comm]
      rfl
    · rcases List.mem_cons.1 hx with rfl | hx
      · rw [hga]
        exact RoSl.nil _ _ _
      · exact (x2 x hx).get hm7
    · rw [List.map_cons, x3, hga]
      rfl
    · obtain ⟨o', k⟩ := k
      have := n5.2 i o' k
      have := hlt i hi
      omega
set_option maxHeartbeats 2000000 in
theorem rPass {h : H} {d : RCId} {v : CV} (s : RChS h d v) (o : COk v) (hN : v.s.N + v.O.length ≤ 10000000) {now : Int} (hn0 : -1000000000 ≤ now) (hn1 : now ≤ 1000000000) :
    ACalls Try.prog 63 [.ptr (some (d.c, 0)), i64 now] h (RPushQ h d (passV v now)) := by
  have hol := o.o
  have hlt : ∀ i, d.all i → i < h.next := fun i hi => s.lt hi
  obtain ⟨w1, w2, w3, w4⟩ := againV_W v.s now
  have wl := again_len o.s now
  refine ACalls.ro (Q := fun r h' => ∃ (q : Option (Nat × Nat)) (G : List GP), r = .tup [.sl q G.length, i64 (passV v now).1.2] ∧ NewSl h h' q G.length 6 (G.flatMap gC) ∧ (∀ x ∈ G, gOk h' x) ∧ G.map Prod.fst = (passV v now).1.1 ∧ RChS h' d (passV v now).2 ∧ Ab.Mod d.all h h') ?_ (by
    rintro r h' ⟨q, G, rfl, ng, gk, hg, sc, m⟩
    obtain ⟨i, a1, a2, a3⟩ := ng.freeze m
    have hGL : G.length = (passV v now).1.1.length := by
      have := congrArg List.length hg
      simpa using this
    refine ⟨i, q, by rw [hGL], ⟨G, by rw [← hGL]; exact a2, fun x hx => (gk x hx).ro i, hg⟩, sc.ro (fun k => ?_), a3⟩
    have : i < h.next := hlt i k
    omega)
  refine call_ Try.func63 rfl rfl (by kernel_rfl) ?_
  conv => whnf
  obtain ⟨po, bx, _⟩ := s.box
  refine ⟨_, Cell.mk bx rfl, ?_⟩
  conv => whnf
  refine (rAgainC s.sd o.s hn0 hn1).mono ?_
  rintro _ h2 ⟨qa, rfl, ra, t2, m2⟩
  have c2 : RChS h2 d (passM v now) := s.sender t2 m2 w1
  have mo2 : Ab.Mod d.all h h2 := m2.mono (fun _ _ k => .inl k)
  conv => whnf
  refine ⟨_, rfl, ?_⟩
  conv => whnf
  refine ⟨_, rfl, ?_⟩
  conv => whnf
  rcases w3 with w3 | w3
  rotate_left
  · rw [w3]
    conv => whnf
    have hv : passV v now = (([], 6), passM v now) := by rw [passV, if_neg (by rw [w3]; decide), w3]
    rw [hv]
    exact ⟨none, [], rfl, NewSl.nil _ _ _, (fun x hx => by cases hx), rfl, c2, mo2⟩
  have hv : passV v now = (((againV v.s now).1.1.map (dataV (passM v now)) ++ (paysV now (passM v now).s v.O).1.map (pg (passM v now)), 0), (passM v now).to (paysV now (passM v now).s v.O).2.1 (paysV now (passM v now).s v.O).2.2) := by rw [passV, if_pos w3]
  rw [w3]
  have oM : SOk (passM v now).s := o.s.again now
  have cM : COk (passM v now) := ⟨oM, by show OkH (againV v.s now).2.W v.N v.C; rw [w1]; exact o.k, o.n0, o.o, o.ob⟩
  have hMN : (passM v now).s.N = v.s.N := w2
  generalize hl : (againV v.s now).1.1 = l at ra hv wl
  conv => whnf
  refine ⟨fun env hh => ∃ (k : Nat) (zk : Int) (G : List GP) (qg : Option (Nat × Nat)), k ≤ l.length ∧ zk = k ∧ G.length = k ∧ G.map Prod.fst = (l.take k).map (dataV (passM v now)) ∧ NewSl h hh qg k 6 (G.flatMap gC) ∧ (∀ x ∈ G, gOk hh x) ∧ RChS hh d (passM v now) ∧ RoSl hh qa l.length 1 (ints .i64 l) ∧ Ab.Mod d.all h hh ∧ env = [(9, i64 zk), (8, .sl qg k), (6, .sl qa l.length), (0, .ptr (some (d.c, 0))), (1, i64 now)],
    fun env _ => match get env 9 with
      | .int _ z => ((l.length : Int) - z).toNat
      | _ => 0, ⟨_, Forget.cons rfl (Forget.cons rfl (Forget.cons rfl (Forget.cons rfl (Forget.cons rfl (Forget.nil _))))), 0, _, [], none, Nat.zero_le _, rfl, rfl, rfl, NewSl.nil _ _ _, (fun x hx => by cases hx), c2, ra, mo2, rfl⟩, ?_⟩
  clear c2 ra mo2 t2 m2 s
  rintro _ hh ⟨k, zk, G, qg, hk, rfl, hGk, hG, ng, gk, c2, ra, mo, rfl⟩
  conv => whnf
  refine br_mk (fun hx => ?_) (fun hx => ?_)
  · conv => whnf
    have hx : k < l.length := by simpa using hx
    obtain ⟨i1, c1, x1, x2⟩ := slo_get ra.is hx
    refine ⟨i1, c1, k, x1, rfl, hx, ?_⟩
    conv => whnf
    refine ⟨_, x2, ?_⟩
    conv => whnf
    refine (rData c2 oM (l.getD k 0)).mono ?_
    rintro _ h7 ⟨pp, rfl, gp, m7⟩
    have c7 := c2.old m7
    have ng7 : NewSl h h7 qg k 6 (G.flatMap gC) := ⟨SlIs.old ng.1 m7 (fun _ _ k => k), ng.2⟩
    have mo7 := mo.trans' m7 (S2 := d.all) (fun _ _ k => k) (fun _ _ k => k.elim)
    conv => whnf
    obtain ⟨y1, y2, y3⟩ := app1 ng7 mo7 (gC (dataV (passM v now) (l.getD k 0), pp)) rfl
    refine ⟨_, _, y1, y2, by rw [show (T.at_ 35).bytes = 64 from rfl]; omega, by omega, fun qg2 hY hs2 hm2 hf2 => ?_⟩
    obtain ⟨ng8, mo8, my⟩ := y3 qg2 hY hs2 hm2 hf2
    have e6 : G.flatMap gC ++ gC (dataV (passM v now) (l.getD k 0), pp) = (G ++ [(dataV (passM v now) (l.getD k 0), pp)]).flatMap gC := by rw [List.flatMap_append]; simp
    rw [e6] at ng8
    conv => whnf
    rw [succ_i64 hx (by omega)]
    have hq8 : ∀ i, inSl qg i → h.next ≤ i := fun i ⟨o, e⟩ => ng.2 i o e
    refine ⟨_, Forget.cons rfl (Forget.cons rfl (Forget.cons rfl (Forget.cons rfl (Forget.cons rfl (Forget.nil _))))), ⟨k + 1, _, G ++ [(dataV (passM v now) (l.getD k 0), pp)], qg2, hx, rfl, by simp [hGk], ?_, ng8, fun y hy => ?_, c7.get my (fun i hi k => ?_), (ra.get m7).get my, mo8, rfl⟩, ?_⟩
    · rw [List.map_append, hG, take_snoc_ hx, List.map_append]
      rfl
    · rcases List.mem_append.1 hy with hy | hy
      · exact ((gk y hy).get m7).get my
      · have : y = (dataV (passM v now) (l.getD k 0), pp) := by simpa using hy
        subst this
        exact gp.get my
    · have := hq8 i k
      have : i < h.next := hlt i hi
      omega
    · show ((l.length : Int) - ((k + 1 : Nat) : Int)).toNat < ((l.length : Int) - (k : Int)).toNat
      omega
  conv => whnf
  have hx : k = l.length := by
    have : ¬ k < l.length := by simpa using hx
    omega
  subst hx
  rw [List.take_length] at hG
  refine (rPays c2 cM (by show (passM v now).s.N + (v.O.length : Int) ≤ _; omega) hn0 hn1).mono ?_
  rintro _ h6 ⟨q6, rfl, gr6, c6, m6⟩
  obtain ⟨G6, x1, x2, x3⟩ := gr6
  have hq8 : ∀ i, inSl qg i → h.next ≤ i := fun i ⟨o, e⟩ => ng.2 i o e
  have ng6 : NewSl h h6 qg l.length 6 (G.flatMap gC) := ⟨ng.1.get m6 (fun i o e => .inl (fun k => by
    have := hlt i k
    have := ng.2 i o e
    omega)), ng.2⟩
  have mo6 := mo.trans' m6 (S2 := d.all) (fun _ _ k => k) (fun _ _ k => k)
  have hpl := (pays_ok now v.O oM o.ob).2.2.2.1
  have x1 : RoSl h6 q6 ((paysV now (passM v now).s v.O).1.map (pg (passM v now))).length 6 (G6.flatMap gC) := x1
  rw [List.length_map] at x1
  have hGl : (paysV now (passM v now).s v.O).1.length = G6.length := by
    have := congrArg List.length x3
    rw [List.length_map, List.length_map] at this
    exact this.symm
  conv => whnf
  refine ⟨_, _, ng6.1, x1.is, by rw [show (T.at_ 35).bytes = 64 from rfl]; show (l.length + (paysV now (passM v now).s v.O).1.length) * 64 ≤ _; omega, (by show l.length + (paysV now (passM v now).s v.O).1.length ≤ _; omega), fun p7 h7 hs7 hm7 hf7 => ?_⟩
  obtain ⟨ng8, mo8⟩ := appN ng6 mo6 p7 h7 hs7 hm7 hf7
  have hln : l.length + (paysV now (passM v now).s v.O).1.length = (G ++ G6).length := by rw [List.length_append, hGk, hGl]
  have ng8 : NewSl h h7 p7 (l.length + (paysV now (passM v now).s v.O).1.length) 6 (G.flatMap gC ++ G6.flatMap gC) := ng8
  rw [hln, ← List.flatMap_append] at ng8
  conv => whnf
  rw [hv]
  refine ⟨p7, G ++ G6, ?_, ng8, fun x hx => ?_, ?_, c6.get hm7 (fun i hi k => ?_), mo8⟩
  · rw [← hln]
    rfl
  · rcases List.mem_append.1 hx with hx | hx
    · exact ((gk x hx).get m6).get hm7
    · exact (x2 x hx).get hm7
  · rw [List.map_append, hG, x3]
    rfl
  · have := hq8 i k
    have := hlt i hi
    omega
end Go.Proofs.Ytoljllfbabahpaa
/-! Channels' values: octets, and how far they count. -/
namespace Go.Proofs.Ytoljllfbabahpaa
open Go Go.Ab
def OctH (C : Hd) : Prop := ∀ x ∈ C, Oct x.2
theorem OctH.ins {C : Hd} (s : OctH C) {b : List Int} (hb : Oct b) (k : Int) : OctH (insS C k b) := fun x hx => by
  rw [insS, List.mem_append, List.mem_cons] at hx
  rcases hx with hx | rfl | hx
  · exact s x (List.mem_filter.1 hx).1
  · exact hb
  · exact s x (List.mem_filter.1 hx).1
theorem OctH.send {v : SV} (s : OctH v.C) {b : List Int} (hb : Oct b) (now : Int) : OctH (sendV v now b).2.C := by
  unfold sendV
  split
  · exact s
  · split
    · exact s
    · exact s.ins hb v.N
theorem OctH.ack {v : SV} (s : OctH v.C) (a : Int) : OctH (ackV v a).2.C := by
  unfold ackV
  split
  · exact s
  · exact fun x hx => s x (List.mem_filter.1 hx).1
theorem OctH.again {v : SV} (s : OctH v.C) (a : Int) : OctH (againV v a).2.C := by
  unfold againV
  split
  · exact s
  · split <;> exact s
theorem OctH.body {v : SV} (s : OctH v.C) (o : SOk v) (x : Int) : Oct (bodyV v.C x) := by
  unfold bodyV
  cases e : sget v.C x with
  | none => exact fun y hy => by cases hy
  | some w => exact s (x, w) ((sget_mem o.asc.nodup).1 e)
/-- all bodies are octets -/
structure OV (v : CV) : Prop where
  c : OctH v.s.C
  t : OctH v.C
  o : ∀ b ∈ v.O, Oct b
/-- a datagram that may be handed in -/
structure GO (g : GV) : Prop where
  oct : Oct g.body
  seq : inI g.seq
  len : g.body.length ≤ 100000
theorem chn_got {β : Type} {P : β → Prop} : ∀ (N : Int) (C : List (Int × β)), (∀ x ∈ C, P x.2) → (∀ b ∈ (chn N C).1, P b) ∧ (∀ x ∈ (chn N C).2.2, P x.2)
  | N, [], _ => ⟨(fun b hb => by cases hb), (fun x hx => by cases hx)⟩
  | N, p :: C, h => by
    rw [chn]
    by_cases e : p.1 = N
    · rw [if_pos e]
      obtain ⟨i1, i2⟩ := chn_got (P := P) (N + 1) C (fun x hx => h x (List.mem_cons_of_mem _ hx))
      refine ⟨fun b hb => ?_, i2⟩
      rcases List.mem_cons.1 hb with rfl | hb
      · exact h p (by simp)
      · exact i1 b hb
    · rw [if_neg e]
      exact ⟨(fun b hb => by cases hb), h⟩
theorem tk_oct {W N : Int} {C : Hd} (s : OctH C) (seq : Int) {b : List Int} (hb : Oct b) : (∀ c ∈ (tkV W N C seq b).2.1, Oct c) ∧ OctH (tkV W N C seq b).2.2.2 := by
  unfold tkV
  split
  · exact chn_got N _ (s.ins hb seq)
  · exact ⟨(fun c hc => by cases hc), s⟩
theorem i64_in' {k : Int} (h0 : 0 ≤ k) (h1 : k ≤ 100000000) : inI k := i64_in (by omega) (by omega)
theorem pays_oct (now : Int) : ∀ (O : List (List Int)) {s : SV}, SOk s → OctH s.C → (∀ b ∈ O, b.length ≤ 100000) → (∀ b ∈ O, Oct b) → s.N + O.length ≤ 100000000 → OctH (paysV now s O).2.1.C ∧ (∀ b ∈ (paysV now s O).2.2, Oct b) ∧ ∀ x ∈ (paysV now s O).1, Oct x.2 ∧ inI x.1 ∧ x.2.length ≤ 100000
  | [], s, o, hc, _, ho, hn => ⟨hc, ho, (fun x hx => by cases hx)⟩
  | b :: O, s, o, hc, hl, ho, hn => by
    have hlc : (b :: O).length = O.length + 1 := rfl
    have hn0 := o.n0
    by_cases hr : 0 < roomOf s
    · obtain ⟨_, _, z3, z4⟩ := send_room o hr now b
      obtain ⟨i1, i2, i3⟩ := pays_oct now O (o.send now (body := b) (hl b (by simp))) (hc.send (ho b (by simp)) now) (fun c hc => hl c (List.mem_cons_of_mem _ hc)) (fun c hc => ho c (List.mem_cons_of_mem _ hc)) (by omega)
      rw [paysV, if_pos hr]
      refine ⟨i1, i2, fun x hx => ?_⟩
      rcases List.mem_cons.1 hx with rfl | hx
      · exact ⟨ho b (by simp), i64_in' hn0 (by show s.N ≤ _; omega), hl b (by simp)⟩
      · exact i3 x hx
    · rw [paysV, if_neg hr]
      exact ⟨hc, ho, (fun x hx => by cases hx)⟩
/-- how many went, and go -/
def CV.cnt (v : CV) : Int := v.s.N + v.O.length
theorem push_ov {v : CV} (o : COk v) (c : OV v) (hN : v.cnt ≤ 10000000) (now : Int) {b : List Int} (hb : Oct b) (hl : b.length ≤ 100000) : OV (pushV v now b).2 ∧ (∀ g ∈ (pushV v now b).1.1, GO g) ∧ (pushV v now b).2.cnt ≤ v.cnt + 1 ∧ (pushV v now b).2.N = v.N ∧ (pushV v now b).2.conn = v.conn := by
  unfold CV.cnt at *
  unfold pushV
  split
  · exact ⟨c, (fun g hg => by cases hg), (by show v.s.N + (v.O.length : Int) ≤ _; omega), rfl, rfl⟩
  · split
    · exact ⟨c, (fun g hg => by cases hg), (by show v.s.N + (v.O.length : Int) ≤ _; omega), rfl, rfl⟩
    · have hol : ∀ c ∈ v.O ++ [b], c.length ≤ 100000 := fun c hc => by
        rcases List.mem_append.1 hc with hc | hc
        · exact o.ob c hc
        · have : c = b := by simpa using hc
          rw [this]; exact hl
      have hoo : ∀ c ∈ v.O ++ [b], Oct c := fun d hd => by
        rcases List.mem_append.1 hd with hd | hd
        · exact c.o d hd
        · have : d = b := by simpa using hd
          rw [this]; exact hb
      have hle : (v.O ++ [b]).length = v.O.length + 1 := by simp
      obtain ⟨i1, i2, i3⟩ := pays_oct now (v.O ++ [b]) o.s c.c hol hoo (by rw [hle]; omega)
      obtain ⟨j1, j2, j3, j4, j5⟩ := pays_ok now (v.O ++ [b]) o.s hol
      refine ⟨⟨i1, c.t, i2⟩, fun g hg => ?_, ?_, rfl, rfl⟩
      · obtain ⟨x, hx, rfl⟩ := List.mem_map.1 hg
        exact ⟨(i3 x hx).1, (i3 x hx).2.1, (i3 x hx).2.2⟩
      · show (paysV now v.s (v.O ++ [b])).2.1.N + ((paysV now v.s (v.O ++ [b])).2.2.length : Int) ≤ _
        omega
theorem recv_ov {v : CV} (o : COk v) (c : OV v) (hN : v.cnt ≤ 10000000) (now : Int) {g : GV} (hg : GO g) : OV (recvV v now g).2 ∧ (∀ b ∈ (recvV v now g).1.1, Oct b) ∧ (∀ g' ∈ (recvV v now g).1.2, GO g') ∧ (recvV v now g).2.cnt ≤ v.cnt ∧ (recvV v now g).2.N ≤ v.N + 16 ∧ (recvV v now g).2.conn = v.conn ∧ (recvV v now g).1.1.length ≤ 16 := by
  have hW : 1 ≤ v.s.W ∧ v.s.W ≤ 16 := by simpa [okW] using o.s.ok
  have o2 : SOk (recvS v g) := o.s.ack g.ack
  have hW2 : (recvS v g).W = v.s.W := ackV_W v.s g.ack
  have hN2 : (recvS v g).N = v.s.N := ackV_N v.s g.ack
  have c2 : OctH (recvS v g).C := c.c.ack g.ack
  have okh : OkH (recvS v g).W v.N v.C := by rw [hW2]; exact o.k
  obtain ⟨oh2, on1, on2, on3⟩ := okh.take (by omega) g.seq g.body
  obtain ⟨t1, t2⟩ := tk_oct (W := (recvS v g).W) (N := v.N) c.t g.seq hg.oct
  unfold CV.cnt at *
  obtain ⟨i1, i2, i3⟩ := pays_oct now v.O o2 c2 o.ob c.o (by omega)
  obtain ⟨j1, j2, j3, j4, j5⟩ := pays_ok now v.O o2 o.ob
  unfold recvV
  split
  · exact ⟨c, (fun b hb => by cases hb), (fun b hb => by cases hb), Int.le_refl _, (by show v.N ≤ _; omega), rfl, (by show 0 ≤ 16; omega)⟩
  · rename_i hB
    have hs : (recvM v g).s = recvS v g := by
      unfold recvM
      split <;> rfl
    refine ⟨⟨?_, ?_, ?_⟩, ?_, ?_, ?_, ?_, ?_, ?_⟩
    · show OctH (paysV now (recvM v g).s v.O).2.1.C
      rw [hs]
      exact i1
    · show OctH (recvM v g).C
      unfold recvM
      split
      · exact t2
      · exact c.t
    · show ∀ b ∈ (paysV now (recvM v g).s v.O).2.2, Oct b
      rw [hs]
      exact i2
    · intro b hb
      by_cases hk : g.kind = 1
      · have hb : b ∈ (if g.kind = 1 then (tkV (recvS v g).W v.N v.C g.seq g.body).2.1 else []) := hb
        rw [if_pos hk] at hb
        exact t1 b hb
      · have hb : b ∈ (if g.kind = 1 then (tkV (recvS v g).W v.N v.C g.seq g.body).2.1 else []) := hb
        rw [if_neg hk] at hb
        cases hb
    · intro x hx
      have hx : x ∈ (if g.kind = 1 then [(⟨v.conn, 2, 0, (recvM v g).N, 0, []⟩ : GV)] else []) ++ (paysV now (recvM v g).s v.O).1.map (pg (recvM v g)) := hx
      rcases List.mem_append.1 hx with hx | hx
      · by_cases hk : g.kind = 1
        · rw [if_pos hk] at hx
          have : x = ⟨v.conn, 2, 0, (recvM v g).N, 0, []⟩ := by simpa using hx
          rw [this]
          exact ⟨(fun y hy => by cases hy), i64_in' (Int.le_refl _) (by show (0 : Int) ≤ _; decide), Nat.zero_le _⟩
        · rw [if_neg hk] at hx
          cases hx
      · rw [hs] at hx
        obtain ⟨y, hy, rfl⟩ := List.mem_map.1 hx
        exact ⟨(i3 y hy).1, (i3 y hy).2.1, (i3 y hy).2.2⟩
    · show (paysV now (recvM v g).s v.O).2.1.N + ((paysV now (recvM v g).s v.O).2.2.length : Int) ≤ _
      rw [hs]
      omega
    · show (recvM v g).N ≤ _
      unfold recvM
      split
      · show (tkV (recvS v g).W v.N v.C g.seq g.body).2.2.1 ≤ _
        omega
      · show v.N ≤ _
        omega
    · show (recvM v g).conn = v.conn
      unfold recvM
      split <;> rfl
    · show (if g.kind = 1 then (tkV (recvS v g).W v.N v.C g.seq g.body).2.1 else []).length ≤ 16
      split
      · omega
      · exact Nat.zero_le _
theorem pass_ov {v : CV} (o : COk v) (c : OV v) (hN : v.cnt ≤ 10000000) (now : Int) : OV (passV v now).2 ∧ (∀ g ∈ (passV v now).1.1, GO g) ∧ (passV v now).2.cnt ≤ v.cnt ∧ (passV v now).2.N = v.N ∧ (passV v now).2.conn = v.conn := by
  obtain ⟨w1, w2, _, _⟩ := againV_W v.s now
  have o2 : SOk (passM v now).s := o.s.again now
  have c2 : OctH (passM v now).s.C := c.c.again now
  have w2 : (passM v now).s.N = v.s.N := w2
  unfold CV.cnt at *
  obtain ⟨i1, i2, i3⟩ := pays_oct now v.O o2 c2 o.ob c.o (by omega)
  obtain ⟨j1, j2, j3, j4, j5⟩ := pays_ok now v.O o2 o.ob
  unfold passV
  split
  · refine ⟨⟨i1, c.t, i2⟩, fun g hg => ?_, ?_, rfl, rfl⟩
    · rcases List.mem_append.1 hg with hg | hg
      · obtain ⟨x, hx, rfl⟩ := List.mem_map.1 hg
        have hk : x ∈ keys v.s.C := by
          unfold againV at hx
          by_cases h1 : v.s.ov = true
          · rw [if_pos h1] at hx
            cases hx
          · rw [if_neg h1] at hx
            split at hx
            · have hx : x ∈ agS v.s.R now v.s.TS := hx
              obtain ⟨y, hy, rfl⟩ := List.mem_map.1 hx
              exact o.s.tk _ (List.mem_map.2 ⟨y, (List.mem_filter.1 hy).1, rfl⟩)
            · cases hx
        have hkb := o.s.kb x hk
        have hob := o.o
        refine ⟨c2.body o2 x, i64_in' hkb.1 (by show x ≤ _; omega), ?_⟩
        show (bodyV (passM v now).s.C x).length ≤ 100000
        unfold bodyV
        cases e : sget (passM v now).s.C x with
        | none => exact Nat.zero_le _
        | some w => exact o2.bl (x, w) ((sget_mem o2.asc.nodup).1 e)
      · obtain ⟨y, hy, rfl⟩ := List.mem_map.1 hg
        exact ⟨(i3 y hy).1, (i3 y hy).2.1, (i3 y hy).2.2⟩
    · show (paysV now (passM v now).s v.O).2.1.N + ((paysV now (passM v now).s v.O).2.2.length : Int) ≤ _
      omega
  · exact ⟨⟨c2, c.t, c.o⟩, (fun g hg => by cases hg), (by show (passM v now).s.N + (v.O.length : Int) ≤ _; omega), rfl, rfl⟩
theorem new_ov (c : Cfg) (conn : Int) : OV (CV.new c conn) := ⟨(fun x hx => by cases hx), (fun x hx => by cases hx), (fun x hx => by cases hx)⟩
end Go.Proofs.Ytoljllfbabahpaa
