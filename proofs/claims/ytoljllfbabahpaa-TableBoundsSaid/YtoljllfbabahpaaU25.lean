/- Channels: what is owed is paid. -/
import Derived.Test.YtoljllfbabahpaaU24
set_option linter.unusedVariables false
namespace Go.Proofs.Ytoljllfbabahpaa
open Go Go.Ab
theorem SlIs.tail {h : H} {p : Option (Nat × Nat)} {n sz : Nat} {own : Bool} {cs : List V} (s : SlIs h p n own sz cs) {l : Nat} (hl : l ≤ n) : SlIs h (slp p (l * sz)) (n - l) own sz (cs.drop (l * sz)) := by
  obtain ⟨h1, h2⟩ := s
  have hm : l * sz + (n - l) * sz = n * sz := by
    rw [← Nat.add_mul]
    congr 1
    omega
  refine ⟨by rw [List.length_drop, h1]; omega, ?_⟩
  rcases h2 with ⟨rfl, h2⟩ | ⟨i, o, o', r, rfl, e2, e3, e4, e5⟩
  · refine .inl ⟨by omega, ?_⟩
    rcases h2 with rfl | h2
    · exact .inl rfl
    · exact .inr h2
  · refine .inr ⟨i, o + l * sz, o', r, rfl, e2, e3, by omega, ?_⟩
    rw [← e5, List.drop_take, List.drop_drop]
    congr 1
    omega
theorem inSl_slp {p : Option (Nat × Nat)} {k i : Nat} : inSl (slp p k) i ↔ inSl p i := by
  cases p with
  | none => exact Iff.rfl
  | some x => exact ⟨fun ⟨o, e⟩ => ⟨x.2, by injection e with e; injection e with e _; subst e; rfl⟩, fun ⟨o, e⟩ => ⟨x.2 + k, by injection e with e; subst e; rfl⟩⟩
theorem TkC.ro {h : H} {g mi : Nat} {W N : Int} {C : Hd} (s : TkC h g mi W N C) {i : Nat} (hg : g ≠ i) (hm : mi ≠ i) : TkC (h.ro i) g mi W N C := by
  obtain ⟨S, h1, h2⟩ := s
  exact ⟨S, h1.ro hg hm, h2⟩
theorem SdC.ro {h : H} {d : SId} {v : SV} (s : SdC h d v) {i : Nat} (hi : ¬ d.all i) : SdC (h.ro i) d v := by
  obtain ⟨S, h1, h2⟩ := s
  exact ⟨S, h1.ro (fun e => hi (.inl e.symm)) (fun e => hi (.inr (.inl e.symm))) (fun e => hi (.inr (.inr (.inl e.symm)))) (fun e => hi (.inr (.inr (.inr e.symm)))), h2⟩
theorem OwS.ro {h : H} {po : Option (Nat × Nat)} {O : List (List Int)} (s : OwS h po O) {i : Nat} (hi : ¬ inSl po i) : OwS (h.ro i) po O := by
  obtain ⟨G, h1, h2, h3⟩ := s
  exact ⟨G, SlIs.ro_ne h1 (fun j o e k => hi ⟨o, by rw [e, k]⟩), fun x hx => (h2 x hx).ro i, h3⟩
theorem ChS.ro {h : H} {d : CId} {po : Option (Nat × Nat)} {v : CV} (s : ChS h d po v) {i : Nat} (hi : ¬ chAll d po i) : ChS (h.ro i) d po v :=
  ⟨by rw [H.ro_ne _ (fun e => hi (.inl (.inr (.inl e.symm)))), s.box], s.sd.ro (fun k => hi (.inl (.inl k))), s.tk.ro (fun e => hi (.inl (.inr (.inr (.inl e.symm))))) (fun e => hi (.inl (.inr (.inr (.inr e.symm))))), s.ow.ro (fun k => hi (.inr k)), s.sepo, s.sep⟩
def roomOf (s : SV) : Int := roomV s.W s.ov s.C.length
def paysV (now : Int) : SV → List (List Int) → List (Int × List Int) × SV × List (List Int)
  | s, [] => ([], s, [])
  | s, b :: O => if 0 < roomOf s then ((s.N, b) :: (paysV now (sendV s now b).2 O).1, (paysV now (sendV s now b).2 O).2) else ([], s, b :: O)
theorem send_room {s : SV} (o : SOk s) (hr : 0 < roomOf s) (now : Int) (b : List Int) : (sendV s now b).1 = (s.N, 0) ∧ bodyV (sendV s now b).2.C s.N = b ∧ (sendV s now b).2.N = s.N + 1 ∧ (sendV s now b).2.W = s.W := by
  unfold roomOf roomV at hr
  by_cases hov : s.ov = true
  · rw [if_pos hov] at hr
    omega
  rw [if_neg hov] at hr
  have hv : sendV s now b = ((s.N, 0), { s with N := s.N + 1, C := insS s.C s.N b, TS := insS s.TS s.N (now + waitV s.B s.M 0, 0) }) := by rw [sendV, if_neg hov, if_neg (by omega)]
  rw [hv]
  refine ⟨rfl, ?_, rfl, rfl⟩
  show bodyV (insS s.C s.N b) s.N = b
  rw [bodyV, insS_get o.asc, if_pos rfl]
  rfl
def pg (v : CV) (x : Int × List Int) : GV := ⟨v.conn, 1, x.1, v.N, 0, x.2⟩
/-- v, its sender and what is owed being so -/
def CV.to (v : CV) (s : SV) (O : List (List Int)) : CV := { v with s := s, O := O }
def PaysQ (h : H) (d : CId) (po : Option (Nat × Nat)) (v : CV) (now : Int) (r : V) (h' : H) : Prop :=
  ∃ q po', r = .sl q (paysV now v.s v.O).1.length ∧ Grams h' q ((paysV now v.s v.O).1.map (pg v)) ∧ ChS h' d po' (v.to (paysV now v.s v.O).2.1 (paysV now v.s v.O).2.2) ∧ (∀ i, inSl po' i → inSl po i) ∧ Ab.Mod (chAll d po) h h'
set_option maxHeartbeats 1000000 in
theorem cPays {h : H} {d : CId} {po : Option (Nat × Nat)} {v : CV} (s : ChS h d po v) (o : COk v) (hN : v.s.N + v.O.length ≤ 100000000) {now : Int} (hn0 : -1000000000 ≤ now) (hn1 : now ≤ 1000000000) :
    ACalls Try.prog 70 [.ptr (some (d.c, 0)), i64 now] h (PaysQ h d po v now) := by
  have hol := o.o
  have hlt : ∀ i, chAll d po i → i < h.next := fun i hi => s.lt hi
  refine ACalls.ro (Q := fun r h' => ∃ (q po' : Option (Nat × Nat)) (sv : SV) (O' : List (List Int)) (L : List (Int × List Int)) (G : List GP), paysV now v.s v.O = (L, sv, O') ∧ r = .sl q G.length ∧ NewSl h h' q G.length 6 (G.flatMap gC) ∧ (∀ x ∈ G, gOk h' x) ∧ G.map Prod.fst = L.map (pg v) ∧ ChS h' d po' (v.to sv O') ∧ (∀ i, inSl po' i → inSl po i) ∧ Ab.Mod (chAll d po) h h') ?_ (by
    rintro r h' ⟨q, po', sv, O', L, G, e, rfl, ng, gk, hg, sc, hs, m⟩
    obtain ⟨i, a1, a2, a3⟩ := ng.freeze m
    have hGL : G.length = L.length := by
      have := congrArg List.length hg
      simpa using this
    refine ⟨i, ?_⟩
    unfold PaysQ
    rw [e]
    refine ⟨q, po', by show V.sl q G.length = V.sl q L.length; rw [hGL], ⟨G, ?_, fun x hx => (gk x hx).ro i, hg⟩, sc.ro (fun k => ?_), hs, a3⟩
    · show RoSl _ q (L.map (pg v)).length 6 _
      rw [List.length_map, ← hGL]
      exact a2
    · have : i < h.next := hlt i (k.elim .inl (fun k => .inr (hs i k)))
      omega)
  refine call_ Try.func70 rfl rfl (by kernel_rfl) ?_
  conv => whnf
  refine ⟨fun env hh => ∃ (L : List (Int × List Int)) (G : List GP) (qg : Option (Nat × Nat)) (sv : SV) (O' : List (List Int)) (po' : Option (Nat × Nat)), paysV now v.s v.O = (L ++ (paysV now sv O').1, (paysV now sv O').2) ∧ G.map Prod.fst = L.map (pg v) ∧ NewSl h hh qg G.length 6 (G.flatMap gC) ∧ (∀ x ∈ G, gOk hh x) ∧ ChS hh d po' (v.to sv O') ∧ SOk sv ∧ sv.W = v.s.W ∧ sv.N + O'.length = v.s.N + v.O.length ∧ (∀ b ∈ O', b.length ≤ 100000) ∧ (∀ i, inSl po' i → inSl po i) ∧ Ab.Mod (chAll d po) h hh ∧ G.length + O'.length = v.O.length ∧ env = [(4, .sl qg G.length), (0, .ptr (some (d.c, 0))), (1, i64 now)],
    fun env _ => match get env 4 with
      | .sl _ n => v.O.length - n
      | _ => 0, ⟨_, Forget.cons rfl (Forget.cons rfl (Forget.cons rfl (Forget.nil _))), [], [], none, v.s, v.O, po, rfl, rfl, NewSl.nil _ _ _, (fun x hx => by cases hx), s, o.s, rfl, rfl, o.ob, fun _ k => k, mod_refl _ _, by simp, rfl⟩, ?_⟩
  clear s
  rintro _ hh ⟨L, G, qg, sv, O', po', hp, hG, ng, gk, s, os, hW, hn, hob, hsub, mo, hlen, rfl⟩
  have done : paysV now sv O' = ([], sv, O') → ∃ (q po' : Option (Nat × Nat)) (sv : SV) (O' : List (List Int)) (L : List (Int × List Int)) (G' : List GP), paysV now v.s v.O = (L, sv, O') ∧ V.sl qg G.length = .sl q G'.length ∧ NewSl h hh q G'.length 6 (G'.flatMap gC) ∧ (∀ x ∈ G', gOk hh x) ∧ G'.map Prod.fst = L.map (pg v) ∧ ChS hh d po' (v.to sv O') ∧ (∀ i, inSl po' i → inSl po i) ∧ Ab.Mod (chAll d po) h hh := fun e => by
    rw [e, List.append_nil] at hp
    exact ⟨qg, po', sv, O', L, G, hp, rfl, ng, gk, hG, s, hsub, mo⟩
  conv => whnf
  refine ⟨_, Cell.mk s.box rfl, ?_⟩
  conv => whnf
  cases O' with
  | nil =>
    conv => whnf
    exact done rfl
  | cons b O2 =>
  refine br_mk (fun ha => ?_) (fun ha => ?_)
  rotate_left
  · exact absurd ha (by
      have : (((b :: O2).length : Nat) : Int) > 0 := by rw [List.length_cons]; omega
      show ¬ decide ((((b :: O2).length : Nat) : Int) > 0) = false
      rw [decide_eq_true this]
      simp)
  conv => whnf
  refine ⟨_, Cell.mk s.box rfl, ?_⟩
  conv => whnf
  refine (cRoom s.sd os).mono ?_
  rintro _ h1 ⟨eh, rfl⟩
  subst eh
  conv => whnf
  refine br_mk (fun hb0 => ?_) (fun hb0 => ?_)
  rotate_left
  · conv => whnf
    have hb : ¬ roomV sv.W sv.ov sv.C.length > 0 := of_decide_eq_false hb0
    exact done (by rw [paysV, if_neg (by unfold roomOf; omega)])
  have hb : 0 < roomOf sv := of_decide_eq_true hb0
  conv => whnf
  refine ⟨[0, 1, 2, 3, 4, 5, 6, 7, 8, 9, 10, 11, 12, 13, 14, 15, 16], [0, 1, 3, 7, 0, 0, 32, 96, 224, 480, 992, 2047, 4095, 8191, 8191, 16383, 65535], by kernel_rfl, ?_⟩
  conv => whnf
  refine ⟨_, Cell.mk s.box rfl, ?_⟩
  conv => whnf
  refine ⟨_, Cell.mk s.box rfl, ?_⟩
  conv => whnf
  obtain ⟨GO, g1, g2, g3⟩ := s.ow
  cases GO with
  | nil => cases g3
  | cons x GO =>
  have g3 : x.2 :: GO.map Prod.snd = b :: O2 := g3
  injection g3 with g3 g4
  subst g3
  have hOl : (x.2 :: O2).length = (x :: GO).length := by rw [← g4]; simp
  have g1 : SlIs h1 po' (x.2 :: O2).length true 1 ((x :: GO).flatMap slC) := g1
  obtain ⟨i3, c3, w1, w2, w3⟩ := sls_get slC_len g1 hOl (j := 0) (by simp)
  have v0 := w3 0 (slV x) rfl
  refine ⟨i3, c3, 0, w1, rfl, (by show 0 < (x.2 :: O2).length; rw [List.length_cons]; omega), ?_⟩
  conv => whnf
  refine ⟨_, v0, ?_⟩
  conv => whnf
  have hxb : bOk h1 x := g2 x (by simp)
  have hxl := hob x.2 (by simp)
  obtain ⟨z1, z2, z3, z4⟩ := send_room os hb now x.2
  have hnx : sv.N + ((O2.length : Int) + 1) = v.s.N + v.O.length := by
    rw [List.length_cons] at hn
    omega
  have hlx : G.length + (O2.length + 1) = v.O.length := by
    rw [List.length_cons] at hlen
    omega
  refine (cSendR (v := sv) s.sd os (by omega) hn0 hn1 hxb hxl).mono ?_
  rintro _ h5 ⟨rfl, s5, m5⟩
  rw [z1]
  have o5 := os.send now (body := x.2) hxl
  have hpO : paysV now sv (x.2 :: O2) = ((sv.N, x.2) :: (paysV now (sendV sv now x.2).2 O2).1, (paysV now (sendV sv now x.2).2 O2).2) := by rw [paysV, if_pos hb]
  generalize (sendV sv now x.2).2 = sv2 at s5 z2 z3 z4 o5 hpO
  have nsep := s.sep
  have nsepo := s.sepo
  have box5 := m5.get s.box (.inl nsep.1)
  have tk5 := s.tk.get m5 nsep.2.1 nsep.2.2.1
  have ow5 : SlIs h5 po' (x.2 :: O2).length true 1 ((x :: GO).flatMap slC) := g1.get m5 (fun i o e => .inl (fun k => nsepo i ⟨o, e⟩ (.inl k)))
  have gO5 : ∀ y ∈ GO, bOk h5 y := fun y hy => (g2 y (List.mem_cons_of_mem _ hy)).get m5
  have gk5 : ∀ y ∈ G, gOk h5 y := fun y hy => (gk y hy).get m5
  have hsl := fun i (hi : chAll d po' i) => s.lt hi
  have ng5 := ng.1.get m5 (fun i o e => .inl (fun k => by
    have := ng.2 i o e
    have := hlt i (.inl (.inl k))
    omega))
  have mo5 := mo.trans' m5 (S2 := chAll d po) (fun _ _ k => k) (fun _ _ k => .inl (.inl k))
  conv => whnf
  refine ⟨_, rfl, ?_⟩
  conv => whnf
  refine ⟨_, rfl, ?_⟩
  conv => whnf
  refine ⟨_, Cell.mk box5 rfl, ?_⟩
  conv => whnf
  refine ⟨⟨_, ow5.weak⟩, 1, rfl, (by show 1 ≤ (x.2 :: O2).length; rw [List.length_cons]; omega), Nat.le_refl _, ?_⟩
  conv => whnf
  refine ⟨_, _, box5, Nat.le_of_ble_eq_true rfl, ?_⟩
  conv => whnf
  have box6 : (h5.set d.c (.row true 4 [.ptr (some (d.s.g, 0)), i64 v.conn, .ptr (some (d.t, 0)), .sl (slp po' (1 * 1)) O2.length])).obj d.c = some (.row true 4 [.ptr (some (d.s.g, 0)), i64 v.conn, .ptr (some (d.t, 0)), .sl (slp po' (1 * 1)) O2.length]) := H.obj_set_same box5
  have m6 : Ab.Mod (one d.c) h5 (h5.set d.c (.row true 4 [.ptr (some (d.s.g, 0)), i64 v.conn, .ptr (some (d.t, 0)), .sl (slp po' (1 * 1)) O2.length])) := Mod.set rfl box5 rfl
  have ow6 := SlIs.tail (ow5.get m6 (fun i o e => .inl (fun k => nsepo i ⟨o, e⟩ (.inr (.inl k))))) (l := 1) (by rw [List.length_cons]; omega)
  have es6 : ((x :: GO).flatMap slC).drop (1 * 1) = GO.flatMap slC := rfl
  have el6 : (x.2 :: O2).length - 1 = O2.length := rfl
  rw [es6, el6] at ow6
  have c6 : ChS (h5.set d.c (.row true 4 [.ptr (some (d.s.g, 0)), i64 v.conn, .ptr (some (d.t, 0)), .sl (slp po' (1 * 1)) O2.length])) d (slp po' (1 * 1)) (v.to sv2 O2) := by
    refine ⟨box6, s5.get m6 (fun i hi k => nsep.1 (by have : i = d.c := k; rw [← this]; exact hi)), ?_, ⟨GO, ow6, fun y hy => (gO5 y hy).get m6, g4⟩, fun i hi => nsepo i (inSl_slp.1 hi), nsep⟩
    show TkC _ d.t d.tm sv2.W v.N v.C
    rw [z4]
    exact tk5.get m6 (fun k => nsep.2.2.2.1 (Eq.symm k)) (fun k => nsep.2.2.2.2 (Eq.symm k))
  have ng6 := ng5.get m6 (fun i o e => .inl (fun k => by
    have : i = d.c := k
    have := ng.2 i o e
    have := hlt d.c (.inl (.inr (.inl rfl)))
    omega))
  have mo6 := mo5.trans' m6 (S2 := chAll d po) (fun _ _ k => k) (fun _ _ k => .inl (.inr (.inl k)))
  refine (cData c6 o5 sv.N).mono ?_
  rintro _ h7 ⟨pp, rfl, gp, m7⟩
  have c7 := c6.old m7
  have ng7 : NewSl h h7 qg G.length 6 (G.flatMap gC) := ⟨SlIs.old ng6 m7 (fun _ _ k => k), ng.2⟩
  have mo7 := mo6.trans' m7 (S2 := chAll d po) (fun _ _ k => k) (fun _ _ k => k.elim)
  have hpg : dataV (v.to sv2 O2) sv.N = pg v (sv.N, x.2) := by
    show (⟨v.conn, 1, sv.N, v.N, 0, bodyV sv2.C sv.N⟩ : GV) = _
    rw [z2]
    rfl
  rw [hpg] at gp ⊢
  conv => whnf
  obtain ⟨y1, y2, y3⟩ := app1 ng7 mo7 (gC (pg v (sv.N, x.2), pp)) rfl
  refine ⟨_, _, y1, y2, by rw [show (T.at_ 35).bytes = 64 from rfl]; omega, by omega, fun qg2 hY hs2 hm2 hf2 => ?_⟩
  obtain ⟨ng8, mo8, my⟩ := y3 qg2 hY hs2 hm2 hf2
  have e6 : G.flatMap gC ++ gC (pg v (sv.N, x.2), pp) = (G ++ [(pg v (sv.N, x.2), pp)]).flatMap gC := by rw [List.flatMap_append]; simp
  have e7 : G.length + 1 = (G ++ [(pg v (sv.N, x.2), pp)]).length := by simp
  rw [e6, e7] at ng8
  conv => whnf
  rw [e7]
  have hq8 : ∀ i, inSl qg i → h.next ≤ i := fun i ⟨o, e⟩ => ng.2 i o e
  refine ⟨_, Forget.cons rfl (Forget.cons rfl (Forget.cons rfl (Forget.nil _))), ⟨L ++ [(sv.N, x.2)], G ++ [(pg v (sv.N, x.2), pp)], qg2, sv2, O2, slp po' (1 * 1), ?_, by rw [List.map_append, List.map_append, hG]; rfl, ng8, fun y hy => ?_, c7.get my (fun i hi k => ?_), o5, z4.trans hW, by omega, fun c hc => hob c (List.mem_cons_of_mem _ hc), fun i hi => hsub i (inSl_slp.1 hi), mo8, by rw [← e7]; omega, rfl⟩, ?_⟩
  · rw [hp, hpO]
    simp
  · rcases List.mem_append.1 hy with hy | hy
    · exact (((gk5 y hy).get m6).get m7).get my
    · have : y = (pg v (sv.N, x.2), pp) := by simpa using hy
      subst this
      exact gp.get my
  · have := hq8 i k
    have : i < h.next := hlt i (hi.elim .inl (fun hi => .inr (hsub i (inSl_slp.1 hi))))
    omega
  · show v.O.length - (G ++ [(pg v (sv.N, x.2), pp)]).length < v.O.length - G.length
    rw [← e7]
    omega
end Go.Proofs.Ytoljllfbabahpaa
