/- Channels: time passes. -/
import Derived.Test.YtoljllfbabahpaaU28
set_option linter.unusedVariables false
namespace Go.Proofs.Ytoljllfbabahpaa
open Go Go.Ab
def passM (v : CV) (now : Int) : CV := { v with s := (againV v.s now).2 }
def passV (v : CV) (now : Int) : (List GV × Int) × CV :=
  if (againV v.s now).1.2 = 0 then (((againV v.s now).1.1.map (dataV (passM v now)) ++ (paysV now (passM v now).s v.O).1.map (pg (passM v now)), 0), (passM v now).to (paysV now (passM v now).s v.O).2.1 (paysV now (passM v now).s v.O).2.2)
  else (([], (againV v.s now).1.2), passM v now)
theorem againV_W (s : SV) (now : Int) : (againV s now).2.W = s.W ∧ (againV s now).2.N = s.N ∧ ((againV s now).1.2 = 0 ∨ (againV s now).1.2 = 6) ∧ (s.ov = true → (againV s now) = (([], 6), s)) := by
  unfold againV
  by_cases h1 : s.ov = true
  · rw [if_pos h1]
    exact ⟨rfl, rfl, .inr rfl, fun _ => rfl⟩
  · rw [if_neg h1]
    split
    · exact ⟨rfl, rfl, .inl rfl, fun h => absurd h h1⟩
    · exact ⟨rfl, rfl, .inr rfl, fun h => absurd h h1⟩
theorem again_len {s : SV} (o : SOk s) (now : Int) : (againV s now).1.1.length ≤ 16 := by
  have := o.small
  unfold againV
  split
  · simp
  · split
    · exact Nat.le_trans (agS_le _ _ _) this.2
    · simp
theorem pass_cok {v : CV} (o : COk v) (now : Int) : COk (passV v now).2 := by
  have hol := o.o
  obtain ⟨w1, w2, _, _⟩ := againV_W v.s now
  have oM : COk (passM v now) := ⟨o.s.again now, by show OkH (againV v.s now).2.W v.N v.C; rw [w1]; exact o.k, o.n0, o.o, o.ob⟩
  unfold passV
  split
  · obtain ⟨i1, i2, i3, i4, i5⟩ := pays_ok now v.O oM.s o.ob
    refine ⟨i1, ?_, oM.n0, ?_, fun c hc => o.ob c (i3 c hc)⟩
    · show OkH (paysV now (passM v now).s v.O).2.1.W (passM v now).N (passM v now).C
      rw [i2]
      exact oM.k
    · show (paysV now (passM v now).s v.O).2.2.length ≤ 1000
      omega
  · exact oM
theorem pass0 (h : H) (now : Int) : ACalls Try.prog 62 [.ptr none, i64 now] h (fun r h' => h' = h ∧ r = .tup [.sl none 0, i64 6]) := by
  refine call_ Try.func62 rfl rfl (by kernel_rfl) ?_
  conv => whnf
  refine (hOver0 h).mono ?_
  rintro _ h1 ⟨eh, rfl⟩
  subst eh
  conv => whnf
  exact ⟨rfl, rfl⟩
set_option maxHeartbeats 2000000 in
theorem cPass {h : H} {d : CId} {po : Option (Nat × Nat)} {v : CV} (s : ChS h d po v) (o : COk v) (hN : v.s.N + v.O.length ≤ 10000000) {now : Int} (hn0 : -1000000000 ≤ now) (hn1 : now ≤ 1000000000) :
    ACalls Try.prog 62 [.ptr (some (d.c, 0)), i64 now] h (PushQ h d po (passV v now)) := by
  have hol := o.o
  have hlt : ∀ i, chAll d po i → i < h.next := fun i hi => s.lt hi
  obtain ⟨w1, w2, w3, w4⟩ := againV_W v.s now
  have wl := again_len o.s now
  refine ACalls.ro (Q := fun r h' => ∃ (q po' : Option (Nat × Nat)) (G : List GP), r = .tup [.sl q G.length, i64 (passV v now).1.2] ∧ NewSl h h' q G.length 6 (G.flatMap gC) ∧ (∀ x ∈ G, gOk h' x) ∧ G.map Prod.fst = (passV v now).1.1 ∧ ChS h' d po' (passV v now).2 ∧ (∀ i, inSl po' i → inSl po i) ∧ Ab.Mod (chAll d po) h h') ?_ (by
    rintro r h' ⟨q, po', G, rfl, ng, gk, hg, sc, hs, m⟩
    obtain ⟨i, a1, a2, a3⟩ := ng.freeze m
    have hGL : G.length = (passV v now).1.1.length := by
      have := congrArg List.length hg
      simpa using this
    refine ⟨i, q, po', by rw [hGL], ⟨G, by rw [← hGL]; exact a2, fun x hx => (gk x hx).ro i, hg⟩, sc.ro (fun k => ?_), fun i hi => .inl (hs i hi), a3⟩
    have : i < h.next := hlt i (k.elim .inl (fun k => .inr (hs i k)))
    omega)
  have nay : ∀ e : Int, (againV v.s now).1.2 = e → e ≠ 0 → ∀ hh, ChS hh d po (passM v now) → Ab.Mod (chAll d po) h hh → ∃ (q po' : Option (Nat × Nat)) (G : List GP), V.tup [.sl none 0, i64 e] = .tup [.sl q G.length, i64 (passV v now).1.2] ∧ NewSl h hh q G.length 6 (G.flatMap gC) ∧ (∀ x ∈ G, gOk hh x) ∧ G.map Prod.fst = (passV v now).1.1 ∧ ChS hh d po' (passV v now).2 ∧ (∀ i, inSl po' i → inSl po i) ∧ Ab.Mod (chAll d po) h hh := fun e he hne hh sc m => by
    have hv : passV v now = (([], e), passM v now) := by rw [passV, if_neg (by rw [he]; exact hne), he]
    rw [hv]
    exact ⟨none, po, [], rfl, NewSl.nil _ _ _, (fun x hx => by cases hx), rfl, sc, fun _ k => k, m⟩
  refine call_ Try.func62 rfl rfl (by kernel_rfl) ?_
  conv => whnf
  refine (hOver s).mono ?_
  rintro _ h1 ⟨eh, rfl⟩
  rw [eh]
  clear eh h1
  cases hov : v.s.ov with
  | true =>
    conv => whnf
    have e6 := w4 hov
    refine nay 6 (by rw [e6]) (by decide) _ ?_ (mod_refl _ _)
    have : passM v now = v := by rw [passM, e6]
    rw [this]
    exact s
  | false =>
  conv => whnf
  refine ⟨_, Cell.mk s.box rfl, ?_⟩
  conv => whnf
  refine (cAgain s.sd o.s hn0 hn1).mono ?_
  rintro _ h2 ⟨qa, rfl, ra, t2, m2⟩
  have c2 : ChS h2 d po (passM v now) := s.sender t2 m2 w1
  have mo2 : Ab.Mod (chAll d po) h h2 := m2.mono (fun _ _ k => .inl (.inl k))
  conv => whnf
  refine ⟨_, rfl, ?_⟩
  conv => whnf
  refine ⟨_, rfl, ?_⟩
  conv => whnf
  rcases w3 with w3 | w3
  rotate_left
  · rw [w3]
    conv => whnf
    exact nay 6 w3 (by decide) _ c2 mo2
  have hv : passV v now = (((againV v.s now).1.1.map (dataV (passM v now)) ++ (paysV now (passM v now).s v.O).1.map (pg (passM v now)), 0), (passM v now).to (paysV now (passM v now).s v.O).2.1 (paysV now (passM v now).s v.O).2.2) := by rw [passV, if_pos w3]
  rw [w3]
  have oM : SOk (passM v now).s := o.s.again now
  have cM : COk (passM v now) := ⟨oM, by show OkH (againV v.s now).2.W v.N v.C; rw [w1]; exact o.k, o.n0, o.o, o.ob⟩
  have hMN : (passM v now).s.N = v.s.N := w2
  generalize hl : (againV v.s now).1.1 = l at ra hv wl
  clear nay
  conv => whnf
  refine ⟨fun env hh => ∃ (k : Nat) (zk : Int) (G : List GP) (qg : Option (Nat × Nat)), k ≤ l.length ∧ zk = k ∧ G.length = k ∧ G.map Prod.fst = (l.take k).map (dataV (passM v now)) ∧ NewSl h hh qg k 6 (G.flatMap gC) ∧ (∀ x ∈ G, gOk hh x) ∧ ChS hh d po (passM v now) ∧ RoSl hh qa l.length 1 (ints .i64 l) ∧ Ab.Mod (chAll d po) h hh ∧ env = [(25, i64 zk), (4, .sl qg k), (24, i64 l.length), (23, .sl qa l.length), (0, .ptr (some (d.c, 0))), (1, i64 now)],
    fun env _ => match get env 25 with
      | .int _ z => ((l.length : Int) - z).toNat
      | _ => 0, ⟨_, Forget.cons rfl (Forget.cons rfl (Forget.cons rfl (Forget.cons rfl (Forget.cons rfl (Forget.cons rfl (Forget.nil _)))))), 0, _, [], none, Nat.zero_le _, rfl, rfl, rfl, NewSl.nil _ _ _, (fun x hx => by cases hx), c2, ra, mo2, rfl⟩, ?_⟩
  clear c2 ra mo2 t2 m2 s
  rintro _ hh ⟨k, zk, G, qg, hk, rfl, hGk, hG, ng, gk, c2, ra, mo, rfl⟩
  conv => whnf
  refine br_mk (fun hx => ?_) (fun hx => ?_)
  · conv => whnf
    have hx : k < l.length := by simpa using hx
    obtain ⟨i1, c1, x1, x2⟩ := slo_get ra.is hx
    refine ⟨i1, c1, k, x1, rfl, hx, ?_⟩
    conv => whnf
    refine ⟨_, x2, ?_⟩
    conv => whnf
    refine (cData c2 oM (l.getD k 0)).mono ?_
    rintro _ h7 ⟨pp, rfl, gp, m7⟩
    have c7 := c2.old m7
    have ng7 : NewSl h h7 qg k 6 (G.flatMap gC) := ⟨SlIs.old ng.1 m7 (fun _ _ k => k), ng.2⟩
    have mo7 := mo.trans' m7 (S2 := chAll d po) (fun _ _ k => k) (fun _ _ k => k.elim)
    conv => whnf
    obtain ⟨y1, y2, y3⟩ := app1 ng7 mo7 (gC (dataV (passM v now) (l.getD k 0), pp)) rfl
    refine ⟨_, _, y1, y2, by rw [show (T.at_ 35).bytes = 64 from rfl]; omega, by omega, fun qg2 hY hs2 hm2 hf2 => ?_⟩
    obtain ⟨ng8, mo8, my⟩ := y3 qg2 hY hs2 hm2 hf2
    have e6 : G.flatMap gC ++ gC (dataV (passM v now) (l.getD k 0), pp) = (G ++ [(dataV (passM v now) (l.getD k 0), pp)]).flatMap gC := by rw [List.flatMap_append]; simp
    rw [e6] at ng8
    conv => whnf
    rw [succ_i64 hx (by omega)]
    have hq8 : ∀ i, inSl qg i → h.next ≤ i := fun i ⟨o, e⟩ => ng.2 i o e
    refine ⟨_, Forget.cons rfl (Forget.cons rfl (Forget.cons rfl (Forget.cons rfl (Forget.cons rfl (Forget.cons rfl (Forget.nil _)))))), ⟨k + 1, _, G ++ [(dataV (passM v now) (l.getD k 0), pp)], qg2, hx, rfl, by simp [hGk], ?_, ng8, fun y hy => ?_, c7.get my (fun i hi k => ?_), (ra.get m7).get my, mo8, rfl⟩, ?_⟩
    · rw [List.map_append, hG, take_snoc_ hx, List.map_append]
      rfl
    · rcases List.mem_append.1 hy with hy | hy
      · exact ((gk y hy).get m7).get my
      · have : y = (dataV (passM v now) (l.getD k 0), pp) := by simpa using hy
        subst this
        exact gp.get my
    · have := hq8 i k
      have : i < h.next := hlt i hi
      omega
    · show ((l.length : Int) - ((k + 1 : Nat) : Int)).toNat < ((l.length : Int) - (k : Int)).toNat
      omega
  conv => whnf
  have hx : k = l.length := by
    have : ¬ k < l.length := by simpa using hx
    omega
  subst hx
  rw [List.take_length] at hG
  refine (cPays c2 cM (by show (passM v now).s.N + (v.O.length : Int) ≤ _; omega) hn0 hn1).mono ?_
  rintro _ h6 ⟨q6, po6, rfl, gr6, c6, hs6, m6⟩
  obtain ⟨G6, x1, x2, x3⟩ := gr6
  have hq8 : ∀ i, inSl qg i → h.next ≤ i := fun i ⟨o, e⟩ => ng.2 i o e
  have ng6 : NewSl h h6 qg l.length 6 (G.flatMap gC) := ⟨ng.1.get m6 (fun i o e => .inl (fun k => by
    have := hlt i k
    have := ng.2 i o e
    omega)), ng.2⟩
  have mo6 := mo.trans' m6 (S2 := chAll d po) (fun _ _ k => k) (fun _ _ k => k)
  have hpl := (pays_ok now v.O oM o.ob).2.2.2.1
  have x1 : RoSl h6 q6 ((paysV now (passM v now).s v.O).1.map (pg (passM v now))).length 6 (G6.flatMap gC) := x1
  rw [List.length_map] at x1
  have hGl : (paysV now (passM v now).s v.O).1.length = G6.length := by
    have := congrArg List.length x3
    rw [List.length_map, List.length_map] at this
    exact this.symm
  conv => whnf
  refine ⟨_, _, ng6.1, x1.is, by rw [show (T.at_ 35).bytes = 64 from rfl]; show (l.length + (paysV now (passM v now).s v.O).1.length) * 64 ≤ _; omega, (by show l.length + (paysV now (passM v now).s v.O).1.length ≤ _; omega), fun p7 h7 hs7 hm7 hf7 => ?_⟩
  obtain ⟨ng8, mo8⟩ := appN ng6 mo6 p7 h7 hs7 hm7 hf7
  have hln : l.length + (paysV now (passM v now).s v.O).1.length = (G ++ G6).length := by rw [List.length_append, hGk, hGl]
  have ng8 : NewSl h h7 p7 (l.length + (paysV now (passM v now).s v.O).1.length) 6 (G.flatMap gC ++ G6.flatMap gC) := ng8
  rw [hln, ← List.flatMap_append] at ng8
  conv => whnf
  rw [hv]
  refine ⟨p7, po6, G ++ G6, ?_, ng8, fun x hx => ?_, ?_, c6.get hm7 (fun i hi k => ?_), hs6, mo8⟩
  · rw [← hln]
    rfl
  · rcases List.mem_append.1 hx with hx | hx
    · exact ((gk x hx).get m6).get hm7
    · exact (x2 x hx).get hm7
  · rw [List.map_append, hG, x3]
    rfl
  · have := hq8 i k
    have := hlt i (hi.elim .inl (fun k => .inr (hs6 i k)))
    omega
end Go.Proofs.Ytoljllfbabahpaa
