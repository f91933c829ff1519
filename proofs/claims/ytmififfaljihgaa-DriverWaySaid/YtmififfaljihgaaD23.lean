/- DriverWay: its walk. -/
import Derived.Test.YtmififfaljihgaaD22
set_option linter.unusedVariables false
namespace Go.Proofs.Ytmififfaljihgaa
open Go Go.Ab
/-- the message of a way -/
def rtM (pw : Option (Nat × Nat)) (W : List Int) : Msg := ⟨5, 0, 0, pw, W, 7, 0, 0, 0, 0⟩
theorem rtM_enc {pw : Option (Nat × Nat)} {W : List Int} (hl : W.length ≤ 30) (hw : ∀ x ∈ W, 0 ≤ x ∧ x < 400) : Enc (encB (rtM pw W)) (rtM pw W) ∧ (encB (rtM pw W)).length ≤ 200 := by
  have ok : encOk (rtM pw W) = true := by
    have f2 : fitP (W.map fun v => (2, v)) = true := by
      rw [fitP, List.all_map]
      refine List.all_eq_true.2 (fun x hx => ?_)
      have := hw x hx
      exact decide_eq_true ⟨this.1, by show x < 2 ^ (8 * 2); have e : ((2 : Int) ^ (8 * 2)) = 65536 := rfl; omega⟩
    have f : fitP (parts (rtM pw W)) = true := by
      have e : parts (rtM pw W) = [(1, 5), (5, 7)] ++ ([(2, (W.length : Int))] ++ W.map fun v => (2, v)) := rfl
      rw [e, fitP_append, fitP_append, f2, Bool.and_true, show fitP [(1, 5), (5, 7)] = true by decide +kernel, Bool.true_and]
      simp only [fitP, List.all_cons, List.all_nil, Bool.and_true, decide_eq_true_eq]
      exact ⟨by omega, by show (W.length : Int) < 2 ^ (8 * 2); have e : ((2 : Int) ^ (8 * 2)) = 65536 := rfl; omega⟩
    have k : knd (rtM pw W) = true := by
      show (true && (false || decide (W.length ≤ 512))) = true
      rw [decide_eq_true (show W.length ≤ 512 by omega)]
      rfl
    rw [encOk, f, k]
    rfl
  have e : encB (rtM pw W) = bytesP (parts (rtM pw W)) := by rw [encB, ok, if_pos rfl]
  refine ⟨⟨⟨fun k => absurd rfl k, fun _ => ⟨rfl, rfl, rfl, rfl⟩, fun _ => rfl, fun _ _ _ => rfl⟩, ok, e.symm, lo0, hi0⟩, ?_⟩
  rw [e]
  have e2 : bytesP (parts (rtM pw W)) = be 5 1 ++ (be 7 5 ++ (be (W.length : Int) 2 ++ bytesP (W.map fun v => (2, v)))) := rfl
  rw [e2, List.length_append, List.length_append, List.length_append, be_length, be_length, be_length, bytesP_length, List.map_map]
  have e3 : (W.map ((fun x : Nat × Int => x.1) ∘ fun v => (2, v))) = W.map (fun _ => 2) := rfl
  rw [e3, List.map_const', List.sum_replicate_nat]
  omega
/-- its datagram -/
theorem rtG_of {b : List Int} (hb : b.length ≤ 200) (p : Option (Nat × Nat)) : gEncOk ⟨1, 1, 0, 1, 0, p, b⟩ = true ∧ gOf (encG ⟨1, 1, 0, 1, 0, p, b⟩) = some ⟨1, 1, 0, 1, 0, b⟩ := by
  have ok : gEncOk ⟨1, 1, 0, 1, 0, p, b⟩ = true := by
    have f : fitP (gparts ⟨1, 1, 0, 1, 0, p, b⟩) = true := by
      show fitP [(4, 1), (4, 0), (4, 1)] = true
      decide +kernel
    have l : (gpay ⟨1, 1, 0, 1, 0, p, b⟩).length ≤ 2000 := by
      have e2 : gpay ⟨1, 1, 0, 1, 0, p, b⟩ = (be 1 4 ++ (be 0 4 ++ (be 1 4 ++ []))) ++ b := rfl
      rw [e2]
      simp [be_length]
      omega
    rw [gEncOk, f, decide_eq_true l]
    rfl
  exact ⟨ok, by rw [gOf_encG ok]; rfl⟩
/-- a new connection that was answered -/
def CV.two (c : Cfg) (k : Int) : CV := ⟨⟨c.win, 1, false, [], c.base, c.cap, c.retry, []⟩, 1, [], k, []⟩
theorem recv_one {c : Cfg} (hw : 1 ≤ c.win) (k now t : Int) (x b : List Int) : recvV (CV.one c k t x) now ⟨k, 1, 0, 1, 0, b⟩ = (([b], [⟨k, 2, 0, 1, 0, []⟩]), CV.two c k) := by
  have hs : recvS (CV.one c k t x) ⟨k, 1, 0, 1, 0, b⟩ = (CV.two c k).s := rfl
  have hB : recvB (CV.one c k t x) ⟨k, 1, 0, 1, 0, b⟩ = false := by
    rw [recvB]
    show (false || decide (k ≠ k) || _) = false
    rw [decide_eq_false (fun h => h rfl)]
    rfl
  have hm : mayC c.win 0 0 [] = true := by
    unfold mayC
    rw [decide_eq_true (Int.le_refl 0), decide_eq_true (show (0 : Int) < 0 + c.win by omega)]
    rfl
  have ht : tkV c.win 0 [] 0 b = (true, [b], 1, []) := by
    rw [tkV, if_pos hm]
    show (true, chn 0 [(0, b)]) = _
    rw [chn_yes]
    rfl
  have ht2 : tkV (CV.two c k).s.W (CV.one c k t x).N (CV.one c k t x).C 0 b = (true, [b], 1, []) := ht
  rw [recvV, if_neg (by rw [hB]; decide)]
  unfold recvM
  rw [hs, if_pos rfl, if_pos rfl, if_pos rfl]
  simp only [ht2]
  rfl
theorem paysV_ov (now : Int) : ∀ (O : List (List Int)) (s : SV), s.ov = false → (paysV now s O).2.1.ov = false
  | [], s, h => h
  | b :: O, s, h => by
    rw [paysV]
    split
    · refine paysV_ov now O (sendV s now b).2 ?_
      unfold sendV
      rw [if_neg (by rw [h]; decide)]
      split
      · exact h
      · exact h
    · exact h
theorem push_code {cv : CV} (h : cv.s.ov = false) (now : Int) (b : List Int) : ((pushV cv now b).1.2 = 0 ∨ (pushV cv now b).1.2 = 5) ∧ (pushV cv now b).2.s.ov = false := by
  unfold pushV
  rw [if_neg (by rw [h]; decide)]
  split
  · exact ⟨.inr rfl, h⟩
  · exact ⟨.inl rfl, paysV_ov now _ _ h⟩
theorem repD_live (v : DV) (p : Int) : (repD v p).live = v.live ∧ (repD v p).pos = p := by
  unfold repD
  split
  · exact ⟨rfl, rfl⟩
  · split
    · exact ⟨rfl, rfl⟩
    · exact ⟨rfl, rfl⟩
theorem ro_tail {h : H} {p : Option (Nat × Nat)} {x : Int} {l : List Int} (b2 : RoSl h p (x :: l).length 1 (ints .i64 (x :: l))) : RoSl h (slp p (1 * 1)) l.length 1 (ints .i64 l) := by
  have := b2.cut (show 1 ≤ (x :: l).length by simp) (Nat.le_refl _)
  have e : ((ints .i64 (x :: l)).drop (1 * 1)).take (((x :: l).length - 1) * 1) = ints .i64 l := by
    rw [ints_drop, List.take_of_length_le (by rw [ints_length, List.length_drop]; omega)]
    simp
  rw [e] at this
  exact this
set_option maxHeartbeats 8000000 in
theorem way4 {h : H} {p0 p1 p2 : Option (Nat × Nat)} {n0 n1 n2 : Nat} {l0 l1 l2 : List Int} (a0 : RoSl h p0 n0 1 (ints .i64 l0)) (a1 : RoSl h p1 n1 1 (ints .i64 l1)) (a2 : RoSl h p2 n2 1 (ints .i64 l2)) : ACalls Try.prog 4 [.sl p0 n0, .sl p1 n1, .sl p2 n2] h (fun r _ => r = .bool true) := by
  have hl1 := slo_len a1.is
  have hl2 := slo_len a2.is
  refine call_ Try.func4 rfl rfl (by kernel_rfl) ?_
  conv => whnf
  refine br_mk (fun ha => ?_) (fun ha => ?_)
  · conv => whnf
    refine (awake6 h).mono ?_
    rintro _ h1 rfl
    conv => whnf
  conv => whnf
  have ha : ¬ ((n0 : Int) > 20) := by simpa using ha
  refine br_mk (fun hb => ?_) (fun hb => ?_)
  · conv => whnf
    refine (awake6 h).mono ?_
    rintro _ h1 rfl
    conv => whnf
  conv => whnf
  have hb : ¬ ((n1 : Int) > 30) := by simpa using hb
  refine br_mk (fun hc => ?_) (fun hc => ?_)
  · conv => whnf
    refine (awake6 h).mono ?_
    rintro _ h1 rfl
    conv => whnf
  conv => whnf
  have hc : ¬ ((n2 : Int) > 30) := by simpa using hc
  refine (small8 a0.is (by omega)).mono ?_
  rintro _ h1 ⟨c, rfl, ok, m1⟩
  conv => whnf
  refine (dNew h1 c).mono ?_
  rintro _ h2 (⟨q, _⟩ | ⟨_, di, rfl, s2, _, m2⟩)
  · rw [ok] at q
    cases q
  conv => whnf
  refine ⟨_, rfl, ?_⟩
  conv => whnf
  refine ⟨_, rfl, ?_⟩
  conv => whnf
  have okc : okCh c 1 = true := by
    rw [okCh, ok]
    rfl
  have cg1 := one_cg okc 0 (encB_oct (openM 500 0)) (openM_len 500 0)
  refine (dStart s2.b ok ⟨Int.le_refl 0, (by decide : (0 : Int) ≤ 1000000)⟩ (now := 0) (by decide) (by decide) 500 0 (fun b => push_len (new_cok okc) _ _) (openM_len 500 0)).mono ?_
  rintro _ h3 (⟨q, _⟩ | ⟨_, _, d, q3, po, rfl, rw3, s3, hn3, m3⟩)
  · exact absurd q (by decide)
  have eS : startR (DV.new c) 0 500 0 = (([⟨1, 1, 0, 0, 0, encB (openM 500 0)⟩], 0), CV.one c 1 0 (encB (openM 500 0))) := startR_one (v := DV.new c) ok 0 500 0
  rw [eS] at s3
  have s3 : DrS h3 di d po (startD (DV.new c) 500) (CV.one c 1 0 (encB (openM 500 0))) := s3
  have a1 := ((a1.get m1).get m2).get m3
  have a2 := ((a2.get m1).get m2).get m3
  obtain ⟨W, eW⟩ : ∃ W, l1.map (· % 400) = W := ⟨_, rfl⟩
  have lW : W.length = n1 := by rw [← eW, List.length_map, hl1]
  have hW : ∀ x ∈ W, 0 ≤ x ∧ x < 400 := fun x hx => by
    rw [← eW] at hx
    obtain ⟨y, _, rfl⟩ := List.mem_map.1 hx
    exact ⟨Int.emod_nonneg _ (by decide), Int.emod_lt_of_pos _ (by decide)⟩
  have hlt3 : ∀ i, drAll di d po i → i < h3.next := fun i hi => s3.lt hi
  clear m1 m2 m3 s2 rw3 hn3
  conv => whnf
  refine ⟨fun env hh => ∃ (j : Nat) (z : Int) (pw : Option (Nat × Nat)), j ≤ n1 ∧ z = j ∧ NewSl h3 hh pw j 1 (ints .i64 (W.take j)) ∧ Ab.Mod none_ h3 hh ∧ env = [(10, i64 z), (9, .sl pw j), (7, .ptr (some (di, 0))), (1, .sl p1 n1), (2, .sl p2 n2)],
    fun env _ => match get env 10 with
      | .int _ z => ((n1 : Int) - z).toNat
      | _ => 0, ⟨_, Forget.cons rfl (Forget.cons rfl (Forget.cons rfl (Forget.cons rfl (Forget.cons rfl (Forget.nil _))))), 0, _, none, Nat.zero_le _, rfl, NewSl.nil _ _ _, mod_refl _ _, rfl⟩, ?_⟩
  rintro _ hh ⟨j, z, pw, hj, rfl, no, mo, rfl⟩
  conv => whnf
  refine br_mk (fun hd => ?_) (fun hd => ?_)
  · have hd : j < n1 := by simpa using hd
    obtain ⟨i1, c1, f1, f2⟩ := slo_get (a1.get mo).is hd
    conv => whnf
    refine ⟨i1, c1, j, f1, rfl, hd, ?_⟩
    conv => whnf
    refine ⟨_, f2, ?_⟩
    conv => whnf
    refine (round19 (m := 400) (by decide) (by decide) _ hh).mono ?_
    rintro _ h5 ⟨eh, rfl⟩
    rw [eh]
    clear eh h5
    conv => whnf
    obtain ⟨y1, y2, y3⟩ := app1 no mo [i64 (l1.getD j 0 % 400)] rfl
    refine ⟨_, _, y1, y2, by rw [show (T.at_ 3).bytes = 8 from rfl]; omega, by omega, fun p' h' hs hm hf => ?_⟩
    obtain ⟨ng, mg, my⟩ := y3 p' h' hs hm hf
    have hjw : j < W.length := by omega
    have e6 : ints .i64 (W.take j) ++ [i64 (l1.getD j 0 % 400)] = ints .i64 (W.take (j + 1)) := by
      rw [List.take_succ_eq_append_getElem hjw]
      have : W[j] = l1.getD j 0 % 400 := by
        subst eW
        simp [List.getD_eq_getElem?_getD, List.getElem?_eq_getElem (show j < l1.length by simpa using hjw)]
      rw [this]
      simp [ints]
    rw [e6] at ng
    conv => whnf
    rw [succ_i64 (n := n1) hd (by omega)]
    refine ⟨_, Forget.cons rfl (Forget.cons rfl (Forget.cons rfl (Forget.cons rfl (Forget.cons rfl (Forget.nil _))))), ⟨j + 1, _, p', hd, rfl, ng, mg, rfl⟩, ?_⟩
    show ((n1 : Int) - ((j + 1 : Nat) : Int)).toNat < ((n1 : Int) - (j : Int)).toNat
    omega
  have hd : ¬ j < n1 := by simpa using hd
  obtain rfl : j = n1 := by omega
  rw [List.take_of_length_le (by omega)] at no
  subst lW
  have s4 := s3.old mo
  have a2 := a2.get mo
  obtain ⟨iw, hiw, rw⟩ := SlIs.freeze no.1
  have s5 := s4.ro (i := iw) (fun k => by
    have h1 := hlt3 iw k
    have h2 := mo.next
    rcases hiw with ⟨o, e⟩ | e
    · have := no.2 iw o e
      omega
    · omega)
  have a2 := a2.ro iw
  clear s3 s4 no hlt3
  obtain ⟨benc, blen⟩ := rtM_enc (pw := pw) (by omega) hW
  have hlW : W.length ≤ 30 := by omega
  conv => whnf
  refine froz iw ((ref42 (rtM pw W) ⟨rw.is, lo0, hi0, by show W.length ≤ 100000; omega⟩).mono ?_)
  rintro _ h5 ⟨q5, rfl, o5, m5⟩
  have s6 := s5.old m5
  have a2 := a2.get m5
  have rw := rw.get m5
  conv => whnf
  refine ⟨_, rfl, ?_⟩
  conv => whnf
  refine ⟨_, rfl, ?_⟩
  conv => whnf
  refine (gref50 ⟨1, 1, 0, 1, 0, q5, encB (rtM pw W)⟩ ⟨o5.is, encB_bts _, by show (encB (rtM pw W)).length ≤ 100000; omega⟩).mono ?_
  rintro _ h6 ⟨q6, rfl, o6, m6⟩
  have s7 := s6.old m6
  have a2 := a2.get m6
  have rw := rw.get m6
  conv => whnf
  refine ⟨_, rfl, ?_⟩
  conv => whnf
  refine ⟨_, rfl, ?_⟩
  conv => whnf
  obtain ⟨rk, ro⟩ := rtG_of blen q5
  refine (dRecv s7 cg1 (show (1 : Int) + ((0 : Nat) : Int) ≤ 1000000 by decide) (show (0 : Int) ≤ 1000000 by decide) (now := 0) (by decide) (by decide) o6.is (encG_bts (encB_bts _)) (Nat.le_trans (encG_len _) (show 21 + (encB (rtM pw W)).length ≤ 800000 by omega)) (fun g => recv_len cg1.ok _ _)).mono ?_
  rw [ro]
  rintro _ h8 ⟨q8, q9, po8, rfl, rw8, ms8, s8, _, m8⟩
  have hR := recv_one (okCfg_win ok) 1 0 0 (encB (openM 500 0)) (encB (rtM pw W))
  have gT := recv_cg cg1 (show (1 : Int) + ((0 : Nat) : Int) ≤ 1000000 by decide) 0 (gg := ⟨1, 1, 0, 1, 0, encB (rtM pw W)⟩) ⟨encB_oct _, i64_in (show (-1000000000 : Int) ≤ 0 by decide) (show (0 : Int) ≤ 1000000000 by decide), by show (encB (rtM pw W)).length ≤ 100000; omega⟩
  rw [hR] at gT
  have gT : CG (CV.two c 1) := gT
  have gv : gotV [encB (rtM pw W)] = [(rtM pw W).bare] := by
    rw [gotV, List.filterMap_cons, mOf_enc benc]
    rfl
  have eX : recvX (startD (DV.new c) 500) ⟨1, 1, 0, 1, 0, encB (rtM pw W)⟩ = true := rfl
  have eO : rcvO (startD (DV.new c) 500) (CV.one c 1 0 (encB (openM 500 0))) 0 (some ⟨1, 1, 0, 1, 0, encB (rtM pw W)⟩) = ([encV ⟨1, 2, 0, 1, 0, []⟩], [(rtM pw W).bare]) := by
    rw [rcvO, if_pos ⟨eX, show ¬ (1 : Int) = 3 by decide⟩, hR]
    show (_, gotV [encB (rtM pw W)]) = _
    rw [gv]
    rfl
  have eD : rcvD (startD (DV.new c) 500) (CV.one c 1 0 (encB (openM 500 0))) 0 (some ⟨1, 1, 0, 1, 0, encB (rtM pw W)⟩) = { startD (DV.new c) 500 with way := W, has := true } := by
    rw [rcvD, if_pos eX, if_neg (show ¬ (1 : Int) = 3 by decide), hR]
    show (gotV [encB (rtM pw W)]).foldl hearD _ = _
    rw [gv]
    rfl
  have eC : rcvC (startD (DV.new c) 500) (CV.one c 1 0 (encB (openM 500 0))) 0 (some ⟨1, 1, 0, 1, 0, encB (rtM pw W)⟩) = CV.two c 1 := by
    rw [rcvC, if_pos ⟨eX, show ¬ (1 : Int) = 3 by decide⟩, hR]
  rw [eD, eC] at s8
  rw [eO]
  have a2 := a2.get m8
  have rw := rw.get m8
  conv => whnf
  refine ⟨_, rfl, ?_⟩
  conv => whnf
  refine ⟨_, rfl, ?_⟩
  conv => whnf
  refine (dWay s8.b (by show W.length ≤ 1000000; omega)).mono ?_
  rintro _ h9 ⟨q10, rfl, o10, m10⟩
  have s9 := s8.old m10
  have a2 := a2.get m10
  have rw := rw.get m10
  have o10 : RoSl h9 q10 W.length 1 (ints .i64 W) := o10
  conv => whnf
  refine ⟨_, rfl, ?_⟩
  conv => whnf
  refine ⟨_, rfl, ?_⟩
  conv => whnf
  refine (ints47 (n := W.length) o10.is rw.is (by omega)).mono ?_
  rintro _ h11 ⟨eh, rfl⟩
  rw [eh]
  clear eh h11
  rw [show (W == W) = true by simp]
  conv => whnf
  refine ⟨fun env hh => ∃ (k : Nat) (z : Int) (b : Bool) (a : Int) (pz : Option (Nat × Nat)) (Wr : List Int) (v : DV) (cv : CV) (pc : Option (Nat × Nat)), k ≤ n2 ∧ z = k ∧ DrS hh di d pc v cv ∧ CG cv ∧ cv.cnt ≤ 1 + k ∧ cv.s.ov = false ∧ RoSl hh pz Wr.length 1 (ints .i64 Wr) ∧ (∀ x ∈ Wr, 0 ≤ x ∧ x < 400) ∧ Wr.length ≤ 30 ∧ v.live = true ∧ v.has = b ∧ v.way = Wr ∧ v.pos = a ∧ (b = false → Wr = []) ∧ RoSl hh p2 n2 1 (ints .i64 l2) ∧ env = [(21, i64 z), (20, .bool b), (19, i64 a), (9, .sl pz Wr.length), (7, .ptr (some (di, 0))), (2, .sl p2 n2)],
    fun env _ => match get env 21 with
      | .int _ z => ((n2 : Int) - z).toNat
      | _ => 0, ⟨_, Forget.cons rfl (Forget.cons rfl (Forget.cons rfl (Forget.cons rfl (Forget.cons rfl (Forget.cons rfl (Forget.nil _)))))), 0, _, true, _, pw, W, _, _, _, Nat.zero_le _, rfl, s9, gT, (show (1 : Int) + ((0 : Nat) : Int) ≤ 1 + ((0 : Nat) : Int) by decide), rfl, rw, hW, hlW, rfl, rfl, rfl, rfl, (fun k => by cases k), a2, rfl⟩, ?_⟩
  clear s9 gT rw a2 s8 s7 s6 s5 rw8 ms8 o10 m10 m8 m6 m5 o5 o6 eO eD eC eX gv hR mo a1 cg1
  rintro _ hh ⟨k, z, b, a, pz, Wr, v, cv, pc, hk, rfl, s, cg, hcnt, hov, rw, hWr, hlr, vl, vb, vw, va, hbW, a2, rfl⟩
  conv => whnf
  refine br_mk (fun hd => ?_) (fun hd => ?_)
  rotate_left
  · conv => whnf
    refine (dFollow s cg (by omega) (now := 0) (by decide) (by decide) (fun b => push_len cg.ok _ _)).mono ?_
    rintro _ h6 (⟨q, rfl, eh⟩ | ⟨_, x, l, ew, q⟩)
    · have hw0 : Wr = [] := by
        rcases q with q | q
        · rw [vl] at q
          cases q
        · rw [← vw]
          exact q
      subst hw0
      cases b with
      | false =>
        conv => whnf
        refine ⟨_, rfl, ?_⟩
        conv => whnf
        refine ⟨_, rfl, ?_⟩
        conv => whnf
        refine (awake6 _).mono ?_
        rintro _ h8 rfl
        conv => whnf
      | true =>
        conv => whnf
        refine ⟨_, rfl, ?_⟩
        conv => whnf
        refine ⟨_, rfl, ?_⟩
        conv => whnf
        refine (awake6 _).mono ?_
        rintro _ h8 rfl
        conv => whnf
    · have hw0 : Wr = x :: l := vw.symm.trans ew
      subst hw0
      cases b with
      | false => cases hbW rfl
      | true =>
      have hx := hWr x (by simp)
      rcases q with ⟨q, _⟩ | ⟨_, q, _⟩ | ⟨_, _, q6, po6, out, v6, rfl, rw6, s6, hp6, m6, alt⟩
      · rw [vl] at q
        cases q
      · rw [show inR x 0 65535 = true from inR_iff.2 ⟨by omega, by omega⟩] at q
        cases q
      obtain ⟨pc1, pc2⟩ := push_code hov 0 (encB (repM x))
      clear alt s6
      obtain ⟨e6, eR⟩ : ∃ e6, (pushV cv 0 (encB (repM x))).1.2 = e6 := ⟨_, rfl⟩
      rw [eR] at pc1 ⊢
      rcases pc1 with rfl | rfl
      · conv => whnf
        refine ⟨_, rfl, ?_⟩
        conv => whnf
        refine ⟨_, rfl, ?_⟩
        conv => whnf
        rw [decide_eq_true (show (((x :: l).length : Int) > 0) by rw [List.length_cons]; omega)]
        conv => whnf
        refine (awake6 _).mono ?_
        rintro _ h8 rfl
        conv => whnf
      · conv => whnf
        refine ⟨_, rfl, ?_⟩
        conv => whnf
        refine ⟨_, rfl, ?_⟩
        conv => whnf
        rw [decide_eq_true (show (((x :: l).length : Int) > 0) by rw [List.length_cons]; omega)]
        conv => whnf
        refine (awake6 _).mono ?_
        rintro _ h8 rfl
        conv => whnf
  have hd : k < n2 := by simpa using hd
  obtain ⟨i1, c1, f1, f2⟩ := slo_get a2.is hd
  obtain ⟨g, eg⟩ : ∃ g, l2.getD k 0 = g := ⟨_, rfl⟩
  rw [eg] at f2
  conv => whnf
  refine ⟨i1, c1, k, f1, rfl, hd, ?_⟩
  conv => whnf
  refine ⟨_, f2, ?_⟩
  conv => whnf
  refine (round19 (m := 400) (by decide) (by decide) _ hh).mono ?_
  rintro _ h5 ⟨eh, rfl⟩
  rw [eh]
  clear eh h5
  have y0 := Int.emod_nonneg g (show (400 : Int) ≠ 0 by decide)
  have y1 := Int.emod_lt_of_pos g (show (0 : Int) < 400 by decide)
  obtain ⟨y, en⟩ : ∃ y, g % 400 = y := ⟨_, rfl⟩
  rw [en] at y0 y1 ⊢
  conv => whnf
  refine ⟨i1, c1, k, f1, rfl, hd, ?_⟩
  conv => whnf
  refine ⟨_, f2, ?_⟩
  conv => whnf
  refine ⟨by decide, ?_⟩
  conv => whnf
  obtain ⟨u, eu⟩ : ∃ u, (g.tmod 3 != 0) = u := ⟨_, rfl⟩
  rw [eu]
  clear eu
  cases b with
  | false =>
    obtain rfl := hbW rfl
    cases u with
    | false =>
      conv => whnf
      refine (dReport s cg (by omega) (now := 0) (by decide) (by decide) y (repM_len y) (fun b => push_len cg.ok _ _)).mono ?_
      rintro _ h6 (⟨q, _⟩ | ⟨_, q, _⟩ | ⟨_, _, q6, po6, out, v6, rfl, rw6, s6, hp6, m6, alt⟩)
      · rw [vl] at q
        cases q
      · rw [show inR y 0 65535 = true from inR_iff.2 ⟨by omega, by omega⟩] at q
        cases q
      obtain ⟨pc1, pc2⟩ := push_code hov 0 (encB (repM y))
      have cg6 := push_cg cg (by omega) 0 (encB_oct (repM y)) (repM_len y)
      have cnt6 := (push_ov cg.ok cg.ov (by omega) 0 (encB_oct (repM y)) (repM_len y)).2.2.1
      obtain ⟨⟨⟨L6, e6⟩, cv6⟩, eR⟩ : ∃ RR, pushV cv 0 (encB (repM y)) = RR := ⟨_, rfl⟩
      rw [eR] at pc1 pc2 cg6 cnt6 s6 alt ⊢
      have pc1 : e6 = 0 ∨ e6 = 5 := pc1
      have pc2 : cv6.s.ov = false := pc2
      have cg6 : CG cv6 := cg6
      have cnt6 : cv6.cnt ≤ cv.cnt + 1 := cnt6
      have s6 : DrS h6 di d po6 v6 cv6 := s6
      have alt : (e6 ≠ 0 ∧ out = [] ∧ v6 = v) ∨ (e6 = 0 ∧ out = L6.map encV ∧ v6 = repD v y) := alt
      rcases alt with ⟨ne, _, _⟩ | ⟨rfl, _, ev6⟩
      · obtain rfl : e6 = 5 := pc1.resolve_left ne
        conv => whnf
        refine ⟨_, rfl, ?_⟩
        conv => whnf
        refine ⟨_, rfl, ?_⟩
        conv => whnf
        refine (awake6 _).mono ?_
        rintro _ h8 rfl
        conv => whnf
      have rw6' := rw.get m6
      have a26 := a2.get m6
      conv => whnf
      refine ⟨_, rfl, ?_⟩
      conv => whnf
      refine ⟨_, rfl, ?_⟩
      conv => whnf
      obtain ⟨t1, t4⟩ := repD_live v y
      rw [← ev6] at t1 t4
      have t1 := t1.trans vl
      have t23 : v6.has = false ∧ v6.way = [] := by
        rw [ev6, repD, if_neg (fun k => by rw [vb] at k; cases k.1)]
        split
        · exact ⟨rfl, rfl⟩
        · exact ⟨vb, vw⟩
      obtain ⟨t2, t3⟩ := t23
      have lW30 : (([] : List Int)).length ≤ 30 := (Nat.zero_le _)
      refine (dWay s6.b (by rw [t3]; omega)).mono ?_
      have t5 : wayOf v6 = ([] : List Int) := by rw [wayOf, t2, t3]; rfl
      rintro _ h7 ⟨q7, rfl, o7, m7⟩
      rw [t5] at o7 ⊢
      rw [t2]
      have s7 := s6.old m7
      have r7 : RoSl h7 (none : Option (Nat × Nat)) (([] : List Int)).length 1 (ints .i64 ([] : List Int)) := RoSl.get (RoSl.nil _ _ _) m7
      have a27 := a26.get m7
      conv => whnf
      refine ⟨_, rfl, ?_⟩
      conv => whnf
      refine ⟨_, rfl, ?_⟩
      conv => whnf
      refine (ints47 (n := (([] : List Int)).length) o7.is r7.is (by omega)).mono ?_
      rintro _ h8 ⟨eh, rfl⟩
      rw [eh]
      clear eh h8
      rw [show (([] : List Int) == ([] : List Int)) = true by simp]
      conv => whnf
      refine (dAt s7.b).mono ?_
      rintro _ h8 ⟨eh, rfl⟩
      rw [eh]
      clear eh h8
      rw [t4]
      conv => whnf
      rw [show (y != y) = false by simp]
      conv => whnf
      rw [succ_i64 (n := n2) hd (by omega)]
      refine ⟨_, Forget.cons rfl (Forget.cons rfl (Forget.cons rfl (Forget.cons rfl (Forget.cons rfl (Forget.cons rfl (Forget.nil _)))))), ⟨k + 1, _, false, _, (none : Option (Nat × Nat)), ([] : List Int), v6, cv6, _, hd, rfl, s7, cg6, by omega, pc2, r7, (fun x hx => by cases hx), (Nat.zero_le _), t1, t2, t3, t4, (fun k => by first | rfl | cases k), a27, rfl⟩, ?_⟩
      show ((n2 : Int) - ((k + 1 : Nat) : Int)).toNat < ((n2 : Int) - (k : Int)).toNat
      omega
    | true =>
      conv => whnf
      refine (dReport s cg (by omega) (now := 0) (by decide) (by decide) y (repM_len y) (fun b => push_len cg.ok _ _)).mono ?_
      rintro _ h6 (⟨q, _⟩ | ⟨_, q, _⟩ | ⟨_, _, q6, po6, out, v6, rfl, rw6, s6, hp6, m6, alt⟩)
      · rw [vl] at q
        cases q
      · rw [show inR y 0 65535 = true from inR_iff.2 ⟨by omega, by omega⟩] at q
        cases q
      obtain ⟨pc1, pc2⟩ := push_code hov 0 (encB (repM y))
      have cg6 := push_cg cg (by omega) 0 (encB_oct (repM y)) (repM_len y)
      have cnt6 := (push_ov cg.ok cg.ov (by omega) 0 (encB_oct (repM y)) (repM_len y)).2.2.1
      obtain ⟨⟨⟨L6, e6⟩, cv6⟩, eR⟩ : ∃ RR, pushV cv 0 (encB (repM y)) = RR := ⟨_, rfl⟩
      rw [eR] at pc1 pc2 cg6 cnt6 s6 alt ⊢
      have pc1 : e6 = 0 ∨ e6 = 5 := pc1
      have pc2 : cv6.s.ov = false := pc2
      have cg6 : CG cv6 := cg6
      have cnt6 : cv6.cnt ≤ cv.cnt + 1 := cnt6
      have s6 : DrS h6 di d po6 v6 cv6 := s6
      have alt : (e6 ≠ 0 ∧ out = [] ∧ v6 = v) ∨ (e6 = 0 ∧ out = L6.map encV ∧ v6 = repD v y) := alt
      rcases alt with ⟨ne, _, _⟩ | ⟨rfl, _, ev6⟩
      · obtain rfl : e6 = 5 := pc1.resolve_left ne
        conv => whnf
        refine ⟨_, rfl, ?_⟩
        conv => whnf
        refine ⟨_, rfl, ?_⟩
        conv => whnf
        refine (awake6 _).mono ?_
        rintro _ h8 rfl
        conv => whnf
      have rw6' := rw.get m6
      have a26 := a2.get m6
      conv => whnf
      refine ⟨_, rfl, ?_⟩
      conv => whnf
      refine ⟨_, rfl, ?_⟩
      conv => whnf
      obtain ⟨t1, t4⟩ := repD_live v y
      rw [← ev6] at t1 t4
      have t1 := t1.trans vl
      have t23 : v6.has = false ∧ v6.way = [] := by
        rw [ev6, repD, if_neg (fun k => by rw [vb] at k; cases k.1)]
        split
        · exact ⟨rfl, rfl⟩
        · exact ⟨vb, vw⟩
      obtain ⟨t2, t3⟩ := t23
      have lW30 : (([] : List Int)).length ≤ 30 := (Nat.zero_le _)
      refine (dWay s6.b (by rw [t3]; omega)).mono ?_
      have t5 : wayOf v6 = ([] : List Int) := by rw [wayOf, t2, t3]; rfl
      rintro _ h7 ⟨q7, rfl, o7, m7⟩
      rw [t5] at o7 ⊢
      rw [t2]
      have s7 := s6.old m7
      have r7 : RoSl h7 (none : Option (Nat × Nat)) (([] : List Int)).length 1 (ints .i64 ([] : List Int)) := RoSl.get (RoSl.nil _ _ _) m7
      have a27 := a26.get m7
      conv => whnf
      refine ⟨_, rfl, ?_⟩
      conv => whnf
      refine ⟨_, rfl, ?_⟩
      conv => whnf
      refine (ints47 (n := (([] : List Int)).length) o7.is r7.is (by omega)).mono ?_
      rintro _ h8 ⟨eh, rfl⟩
      rw [eh]
      clear eh h8
      rw [show (([] : List Int) == ([] : List Int)) = true by simp]
      conv => whnf
      refine (dAt s7.b).mono ?_
      rintro _ h8 ⟨eh, rfl⟩
      rw [eh]
      clear eh h8
      rw [t4]
      conv => whnf
      rw [show (y != y) = false by simp]
      conv => whnf
      rw [succ_i64 (n := n2) hd (by omega)]
      refine ⟨_, Forget.cons rfl (Forget.cons rfl (Forget.cons rfl (Forget.cons rfl (Forget.cons rfl (Forget.cons rfl (Forget.nil _)))))), ⟨k + 1, _, false, _, (none : Option (Nat × Nat)), ([] : List Int), v6, cv6, _, hd, rfl, s7, cg6, by omega, pc2, r7, (fun x hx => by cases hx), (Nat.zero_le _), t1, t2, t3, t4, (fun k => by first | rfl | cases k), a27, rfl⟩, ?_⟩
      show ((n2 : Int) - ((k + 1 : Nat) : Int)).toNat < ((n2 : Int) - (k : Int)).toNat
      omega
  | true =>
    cases u with
    | false =>
      conv => whnf
      refine (dReport s cg (by omega) (now := 0) (by decide) (by decide) y (repM_len y) (fun b => push_len cg.ok _ _)).mono ?_
      rintro _ h6 (⟨q, _⟩ | ⟨_, q, _⟩ | ⟨_, _, q6, po6, out, v6, rfl, rw6, s6, hp6, m6, alt⟩)
      · rw [vl] at q
        cases q
      · rw [show inR y 0 65535 = true from inR_iff.2 ⟨by omega, by omega⟩] at q
        cases q
      obtain ⟨pc1, pc2⟩ := push_code hov 0 (encB (repM y))
      have cg6 := push_cg cg (by omega) 0 (encB_oct (repM y)) (repM_len y)
      have cnt6 := (push_ov cg.ok cg.ov (by omega) 0 (encB_oct (repM y)) (repM_len y)).2.2.1
      obtain ⟨⟨⟨L6, e6⟩, cv6⟩, eR⟩ : ∃ RR, pushV cv 0 (encB (repM y)) = RR := ⟨_, rfl⟩
      rw [eR] at pc1 pc2 cg6 cnt6 s6 alt ⊢
      have pc1 : e6 = 0 ∨ e6 = 5 := pc1
      have pc2 : cv6.s.ov = false := pc2
      have cg6 : CG cv6 := cg6
      have cnt6 : cv6.cnt ≤ cv.cnt + 1 := cnt6
      have s6 : DrS h6 di d po6 v6 cv6 := s6
      have alt : (e6 ≠ 0 ∧ out = [] ∧ v6 = v) ∨ (e6 = 0 ∧ out = L6.map encV ∧ v6 = repD v y) := alt
      rcases alt with ⟨ne, _, _⟩ | ⟨rfl, _, ev6⟩
      · obtain rfl : e6 = 5 := pc1.resolve_left ne
        conv => whnf
        refine ⟨_, rfl, ?_⟩
        conv => whnf
        refine ⟨_, rfl, ?_⟩
        conv => whnf
        refine (awake6 _).mono ?_
        rintro _ h8 rfl
        conv => whnf
      have rw6' := rw.get m6
      have a26 := a2.get m6
      conv => whnf
      refine ⟨_, rfl, ?_⟩
      conv => whnf
      refine ⟨_, rfl, ?_⟩
      conv => whnf
      cases Wr with
      | nil =>
        have hno : ¬ (v.has = true ∧ v.way.head? = some y) := fun k => by
          rw [vw] at k
          cases k.2
        obtain ⟨t1, t4⟩ := repD_live v y
        rw [← ev6] at t1 t4
        have t1 := t1.trans vl
        refine br_mk (fun hna => ?_) (fun hna => ?_)
        · conv => whnf
          have hna : y = a := by simpa using hna
          have t23 : v6.has = true ∧ v6.way = ([] : List Int) := by
            rw [ev6, repD, if_neg hno, if_neg (by rw [va]; exact fun k => k hna)]
            exact ⟨vb, vw⟩
          obtain ⟨t2, t3⟩ := t23
          have lW30 : (([] : List Int)).length ≤ 30 := hlr
          refine (dWay s6.b (by rw [t3]; omega)).mono ?_
          have t5 : wayOf v6 = ([] : List Int) := by rw [wayOf, t2, t3]; rfl
          rintro _ h7 ⟨q7, rfl, o7, m7⟩
          rw [t5] at o7 ⊢
          rw [t2]
          have s7 := s6.old m7
          have r7 : RoSl h7 pz (([] : List Int)).length 1 (ints .i64 ([] : List Int)) := RoSl.get rw6' m7
          have a27 := a26.get m7
          conv => whnf
          refine ⟨_, rfl, ?_⟩
          conv => whnf
          refine ⟨_, rfl, ?_⟩
          conv => whnf
          refine (ints47 (n := (([] : List Int)).length) o7.is r7.is (by omega)).mono ?_
          rintro _ h8 ⟨eh, rfl⟩
          rw [eh]
          clear eh h8
          rw [show (([] : List Int) == ([] : List Int)) = true by simp]
          conv => whnf
          refine (dAt s7.b).mono ?_
          rintro _ h8 ⟨eh, rfl⟩
          rw [eh]
          clear eh h8
          rw [t4]
          conv => whnf
          rw [show (y != y) = false by simp]
          conv => whnf
          rw [succ_i64 (n := n2) hd (by omega)]
          refine ⟨_, Forget.cons rfl (Forget.cons rfl (Forget.cons rfl (Forget.cons rfl (Forget.cons rfl (Forget.cons rfl (Forget.nil _)))))), ⟨k + 1, _, true, _, pz, ([] : List Int), v6, cv6, _, hd, rfl, s7, cg6, by omega, pc2, r7, hWr, hlr, t1, t2, t3, t4, (fun k => by first | rfl | cases k), a27, rfl⟩, ?_⟩
          show ((n2 : Int) - ((k + 1 : Nat) : Int)).toNat < ((n2 : Int) - (k : Int)).toNat
          omega
        · conv => whnf
          have hna : ¬ y = a := by simpa using hna
          have t23 : v6.has = false ∧ v6.way = [] := by
            rw [ev6, repD, if_neg hno, if_pos (by rw [va]; exact hna)]
            exact ⟨rfl, rfl⟩
          obtain ⟨t2, t3⟩ := t23
          have lW30 : (([] : List Int)).length ≤ 30 := (Nat.zero_le _)
          refine (dWay s6.b (by rw [t3]; omega)).mono ?_
          have t5 : wayOf v6 = ([] : List Int) := by rw [wayOf, t2, t3]; rfl
          rintro _ h7 ⟨q7, rfl, o7, m7⟩
          rw [t5] at o7 ⊢
          rw [t2]
          have s7 := s6.old m7
          have r7 : RoSl h7 (none : Option (Nat × Nat)) (([] : List Int)).length 1 (ints .i64 ([] : List Int)) := RoSl.get (RoSl.nil _ _ _) m7
          have a27 := a26.get m7
          conv => whnf
          refine ⟨_, rfl, ?_⟩
          conv => whnf
          refine ⟨_, rfl, ?_⟩
          conv => whnf
          refine (ints47 (n := (([] : List Int)).length) o7.is r7.is (by omega)).mono ?_
          rintro _ h8 ⟨eh, rfl⟩
          rw [eh]
          clear eh h8
          rw [show (([] : List Int) == ([] : List Int)) = true by simp]
          conv => whnf
          refine (dAt s7.b).mono ?_
          rintro _ h8 ⟨eh, rfl⟩
          rw [eh]
          clear eh h8
          rw [t4]
          conv => whnf
          rw [show (y != y) = false by simp]
          conv => whnf
          rw [succ_i64 (n := n2) hd (by omega)]
          refine ⟨_, Forget.cons rfl (Forget.cons rfl (Forget.cons rfl (Forget.cons rfl (Forget.cons rfl (Forget.cons rfl (Forget.nil _)))))), ⟨k + 1, _, false, _, (none : Option (Nat × Nat)), ([] : List Int), v6, cv6, _, hd, rfl, s7, cg6, by omega, pc2, r7, (fun x hx => by cases hx), (Nat.zero_le _), t1, t2, t3, t4, (fun k => by first | rfl | cases k), a27, rfl⟩, ?_⟩
          show ((n2 : Int) - ((k + 1 : Nat) : Int)).toNat < ((n2 : Int) - (k : Int)).toNat
          omega
      | cons x l =>
        rw [decide_eq_true (show (((x :: l).length : Int) > 0) by rw [List.length_cons]; omega)]
        conv => whnf
        obtain ⟨i7, c7, w1, w2⟩ := slo_get rw6'.is (show 0 < (x :: l).length by simp)
        have w2 : Cell h6 i7 (c7 + 0) (i64 x) := w2
        refine ⟨i7, c7, 0, w1, rfl, by simp, ?_⟩
        conv => whnf
        refine ⟨_, w2, ?_⟩
        conv => whnf
        obtain ⟨t1, t4⟩ := repD_live v y
        rw [← ev6] at t1 t4
        have t1 := t1.trans vl
        refine br_mk (fun hxn => ?_) (fun hxn => ?_)
        · have hxn : x = y := eq_of_beq hxn
          have t23 : v6.has = true ∧ v6.way = l := by
            rw [ev6, repD, if_pos ⟨vb, by rw [vw, ← hxn]; rfl⟩]
            exact ⟨vb, by rw [vw]; rfl⟩
          obtain ⟨t2, t3⟩ := t23
          conv => whnf
          refine ⟨⟨_, rw6'.is⟩, 1, rfl, by simp, Nat.le_refl _, ?_⟩
          conv => whnf
          have wt : RoSl h6 (slp pz (1 * 1)) l.length 1 (ints .i64 l) := ro_tail rw6'
          have lW30 : (l).length ≤ 30 := (Nat.le_trans (Nat.le_succ _) hlr)
          refine (dWay s6.b (by rw [t3]; omega)).mono ?_
          have t5 : wayOf v6 = l := by rw [wayOf, t2, t3]; rfl
          rintro _ h7 ⟨q7, rfl, o7, m7⟩
          rw [t5] at o7 ⊢
          rw [t2]
          have s7 := s6.old m7
          have r7 : RoSl h7 (slp pz (1 * 1)) (l).length 1 (ints .i64 l) := RoSl.get wt m7
          have a27 := a26.get m7
          conv => whnf
          refine ⟨_, rfl, ?_⟩
          conv => whnf
          refine ⟨_, rfl, ?_⟩
          conv => whnf
          refine (ints47 (n := (l).length) o7.is r7.is (by omega)).mono ?_
          rintro _ h8 ⟨eh, rfl⟩
          rw [eh]
          clear eh h8
          rw [show (l == l) = true by simp]
          conv => whnf
          refine (dAt s7.b).mono ?_
          rintro _ h8 ⟨eh, rfl⟩
          rw [eh]
          clear eh h8
          rw [t4]
          conv => whnf
          rw [show (y != y) = false by simp]
          conv => whnf
          rw [succ_i64 (n := n2) hd (by omega)]
          refine ⟨_, Forget.cons rfl (Forget.cons rfl (Forget.cons rfl (Forget.cons rfl (Forget.cons rfl (Forget.cons rfl (Forget.nil _)))))), ⟨k + 1, _, true, _, (slp pz (1 * 1)), l, v6, cv6, _, hd, rfl, s7, cg6, by omega, pc2, r7, (fun z hz => hWr z (List.mem_cons_of_mem _ hz)), (Nat.le_trans (Nat.le_succ _) hlr), t1, t2, t3, t4, (fun k => by first | rfl | cases k), a27, rfl⟩, ?_⟩
          show ((n2 : Int) - ((k + 1 : Nat) : Int)).toNat < ((n2 : Int) - (k : Int)).toNat
          omega
        · have hxn : ¬ x = y := fun k => by cases hxn.symm.trans (beq_iff_eq.2 k)
          have hno : ¬ (v.has = true ∧ v.way.head? = some y) := fun k => by
            rw [vw] at k
            exact hxn (Option.some.inj k.2)
          conv => whnf
          refine br_mk (fun hna => ?_) (fun hna => ?_)
          · conv => whnf
            have hna : y = a := by simpa using hna
            have t23 : v6.has = true ∧ v6.way = (x :: l) := by
              rw [ev6, repD, if_neg hno, if_neg (by rw [va]; exact fun k => k hna)]
              exact ⟨vb, vw⟩
            obtain ⟨t2, t3⟩ := t23
            have lW30 : ((x :: l)).length ≤ 30 := hlr
            refine (dWay s6.b (by rw [t3]; omega)).mono ?_
            have t5 : wayOf v6 = (x :: l) := by rw [wayOf, t2, t3]; rfl
            rintro _ h7 ⟨q7, rfl, o7, m7⟩
            rw [t5] at o7 ⊢
            rw [t2]
            have s7 := s6.old m7
            have r7 : RoSl h7 pz ((x :: l)).length 1 (ints .i64 (x :: l)) := RoSl.get rw6' m7
            have a27 := a26.get m7
            conv => whnf
            refine ⟨_, rfl, ?_⟩
            conv => whnf
            refine ⟨_, rfl, ?_⟩
            conv => whnf
            refine (ints47 (n := ((x :: l)).length) o7.is r7.is (by omega)).mono ?_
            rintro _ h8 ⟨eh, rfl⟩
            rw [eh]
            clear eh h8
            rw [show ((x :: l) == (x :: l)) = true by simp]
            conv => whnf
            refine (dAt s7.b).mono ?_
            rintro _ h8 ⟨eh, rfl⟩
            rw [eh]
            clear eh h8
            rw [t4]
            conv => whnf
            rw [show (y != y) = false by simp]
            conv => whnf
            rw [succ_i64 (n := n2) hd (by omega)]
            refine ⟨_, Forget.cons rfl (Forget.cons rfl (Forget.cons rfl (Forget.cons rfl (Forget.cons rfl (Forget.cons rfl (Forget.nil _)))))), ⟨k + 1, _, true, _, pz, (x :: l), v6, cv6, _, hd, rfl, s7, cg6, by omega, pc2, r7, hWr, hlr, t1, t2, t3, t4, (fun k => by first | rfl | cases k), a27, rfl⟩, ?_⟩
            show ((n2 : Int) - ((k + 1 : Nat) : Int)).toNat < ((n2 : Int) - (k : Int)).toNat
            omega
          · conv => whnf
            have hna : ¬ y = a := by simpa using hna
            have t23 : v6.has = false ∧ v6.way = [] := by
              rw [ev6, repD, if_neg hno, if_pos (by rw [va]; exact hna)]
              exact ⟨rfl, rfl⟩
            obtain ⟨t2, t3⟩ := t23
            have lW30 : (([] : List Int)).length ≤ 30 := (Nat.zero_le _)
            refine (dWay s6.b (by rw [t3]; omega)).mono ?_
            have t5 : wayOf v6 = ([] : List Int) := by rw [wayOf, t2, t3]; rfl
            rintro _ h7 ⟨q7, rfl, o7, m7⟩
            rw [t5] at o7 ⊢
            rw [t2]
            have s7 := s6.old m7
            have r7 : RoSl h7 (none : Option (Nat × Nat)) (([] : List Int)).length 1 (ints .i64 ([] : List Int)) := RoSl.get (RoSl.nil _ _ _) m7
            have a27 := a26.get m7
            conv => whnf
            refine ⟨_, rfl, ?_⟩
            conv => whnf
            refine ⟨_, rfl, ?_⟩
            conv => whnf
            refine (ints47 (n := (([] : List Int)).length) o7.is r7.is (by omega)).mono ?_
            rintro _ h8 ⟨eh, rfl⟩
            rw [eh]
            clear eh h8
            rw [show (([] : List Int) == ([] : List Int)) = true by simp]
            conv => whnf
            refine (dAt s7.b).mono ?_
            rintro _ h8 ⟨eh, rfl⟩
            rw [eh]
            clear eh h8
            rw [t4]
            conv => whnf
            rw [show (y != y) = false by simp]
            conv => whnf
            rw [succ_i64 (n := n2) hd (by omega)]
            refine ⟨_, Forget.cons rfl (Forget.cons rfl (Forget.cons rfl (Forget.cons rfl (Forget.cons rfl (Forget.cons rfl (Forget.nil _)))))), ⟨k + 1, _, false, _, (none : Option (Nat × Nat)), ([] : List Int), v6, cv6, _, hd, rfl, s7, cg6, by omega, pc2, r7, (fun x hx => by cases hx), (Nat.zero_le _), t1, t2, t3, t4, (fun k => by first | rfl | cases k), a27, rfl⟩, ?_⟩
            show ((n2 : Int) - ((k + 1 : Nat) : Int)).toNat < ((n2 : Int) - (k : Int)).toNat
            omega
    | true =>
      conv => whnf
      refine br_mk (fun hw => ?_) (fun hw => ?_)
      · conv => whnf
        cases Wr with
        | nil => exact absurd hw (by decide)
        | cons x l =>
        obtain ⟨i3, c3, u1, u2⟩ := slo_get rw.is (show 0 < (x :: l).length by simp)
        have u2 : Cell hh i3 (c3 + 0) (i64 x) := u2
        refine ⟨i3, c3, 0, u1, rfl, by simp, ?_⟩
        conv => whnf
        refine ⟨_, u2, ?_⟩
        have hx := hWr x (by simp)
        conv => whnf
        refine (dReport s cg (by omega) (now := 0) (by decide) (by decide) x (repM_len x) (fun b => push_len cg.ok _ _)).mono ?_
        rintro _ h6 (⟨q, _⟩ | ⟨_, q, _⟩ | ⟨_, _, q6, po6, out, v6, rfl, rw6, s6, hp6, m6, alt⟩)
        · rw [vl] at q
          cases q
        · rw [show inR x 0 65535 = true from inR_iff.2 ⟨by omega, by omega⟩] at q
          cases q
        obtain ⟨pc1, pc2⟩ := push_code hov 0 (encB (repM x))
        have cg6 := push_cg cg (by omega) 0 (encB_oct (repM x)) (repM_len x)
        have cnt6 := (push_ov cg.ok cg.ov (by omega) 0 (encB_oct (repM x)) (repM_len x)).2.2.1
        obtain ⟨⟨⟨L6, e6⟩, cv6⟩, eR⟩ : ∃ RR, pushV cv 0 (encB (repM x)) = RR := ⟨_, rfl⟩
        rw [eR] at pc1 pc2 cg6 cnt6 s6 alt ⊢
        have pc1 : e6 = 0 ∨ e6 = 5 := pc1
        have pc2 : cv6.s.ov = false := pc2
        have cg6 : CG cv6 := cg6
        have cnt6 : cv6.cnt ≤ cv.cnt + 1 := cnt6
        have s6 : DrS h6 di d po6 v6 cv6 := s6
        have alt : (e6 ≠ 0 ∧ out = [] ∧ v6 = v) ∨ (e6 = 0 ∧ out = L6.map encV ∧ v6 = repD v x) := alt
        rcases alt with ⟨ne, _, _⟩ | ⟨rfl, _, ev6⟩
        · obtain rfl : e6 = 5 := pc1.resolve_left ne
          conv => whnf
          refine ⟨_, rfl, ?_⟩
          conv => whnf
          refine ⟨_, rfl, ?_⟩
          conv => whnf
          refine (awake6 _).mono ?_
          rintro _ h8 rfl
          conv => whnf
        have rw6' := rw.get m6
        have a26 := a2.get m6
        conv => whnf
        refine ⟨_, rfl, ?_⟩
        conv => whnf
        refine ⟨_, rfl, ?_⟩
        conv => whnf
        rw [decide_eq_true (show (((x :: l).length : Int) > 0) by rw [List.length_cons]; omega)]
        conv => whnf
        obtain ⟨i7, c7, w1, w2⟩ := slo_get rw6'.is (show 0 < (x :: l).length by simp)
        have w2 : Cell h6 i7 (c7 + 0) (i64 x) := w2
        refine ⟨i7, c7, 0, w1, rfl, by simp, ?_⟩
        conv => whnf
        refine ⟨_, w2, ?_⟩
        conv => whnf
        obtain ⟨t1, t4⟩ := repD_live v x
        rw [← ev6] at t1 t4
        have t1 := t1.trans vl
        refine br_mk (fun hxn => ?_) (fun hxn => ?_)
        · have hxn : x = x := eq_of_beq hxn
          have t23 : v6.has = true ∧ v6.way = l := by
            rw [ev6, repD, if_pos ⟨vb, by rw [vw, ← hxn]; rfl⟩]
            exact ⟨vb, by rw [vw]; rfl⟩
          obtain ⟨t2, t3⟩ := t23
          conv => whnf
          refine ⟨⟨_, rw6'.is⟩, 1, rfl, by simp, Nat.le_refl _, ?_⟩
          conv => whnf
          have wt : RoSl h6 (slp pz (1 * 1)) l.length 1 (ints .i64 l) := ro_tail rw6'
          have lW30 : (l).length ≤ 30 := (Nat.le_trans (Nat.le_succ _) hlr)
          refine (dWay s6.b (by rw [t3]; omega)).mono ?_
          have t5 : wayOf v6 = l := by rw [wayOf, t2, t3]; rfl
          rintro _ h7 ⟨q7, rfl, o7, m7⟩
          rw [t5] at o7 ⊢
          rw [t2]
          have s7 := s6.old m7
          have r7 : RoSl h7 (slp pz (1 * 1)) (l).length 1 (ints .i64 l) := RoSl.get wt m7
          have a27 := a26.get m7
          conv => whnf
          refine ⟨_, rfl, ?_⟩
          conv => whnf
          refine ⟨_, rfl, ?_⟩
          conv => whnf
          refine (ints47 (n := (l).length) o7.is r7.is (by omega)).mono ?_
          rintro _ h8 ⟨eh, rfl⟩
          rw [eh]
          clear eh h8
          rw [show (l == l) = true by simp]
          conv => whnf
          refine (dAt s7.b).mono ?_
          rintro _ h8 ⟨eh, rfl⟩
          rw [eh]
          clear eh h8
          rw [t4]
          conv => whnf
          rw [show (x != x) = false by simp]
          conv => whnf
          rw [succ_i64 (n := n2) hd (by omega)]
          refine ⟨_, Forget.cons rfl (Forget.cons rfl (Forget.cons rfl (Forget.cons rfl (Forget.cons rfl (Forget.cons rfl (Forget.nil _)))))), ⟨k + 1, _, true, _, (slp pz (1 * 1)), l, v6, cv6, _, hd, rfl, s7, cg6, by omega, pc2, r7, (fun z hz => hWr z (List.mem_cons_of_mem _ hz)), (Nat.le_trans (Nat.le_succ _) hlr), t1, t2, t3, t4, (fun k => by first | rfl | cases k), a27, rfl⟩, ?_⟩
          show ((n2 : Int) - ((k + 1 : Nat) : Int)).toNat < ((n2 : Int) - (k : Int)).toNat
          omega
        · have hxn : ¬ x = x := fun k => by cases hxn.symm.trans (beq_iff_eq.2 k)
          have hno : ¬ (v.has = true ∧ v.way.head? = some x) := fun k => by
            rw [vw] at k
            exact hxn (Option.some.inj k.2)
          conv => whnf
          refine br_mk (fun hna => ?_) (fun hna => ?_)
          · conv => whnf
            have hna : x = a := by simpa using hna
            have t23 : v6.has = true ∧ v6.way = (x :: l) := by
              rw [ev6, repD, if_neg hno, if_neg (by rw [va]; exact fun k => k hna)]
              exact ⟨vb, vw⟩
            obtain ⟨t2, t3⟩ := t23
            have lW30 : ((x :: l)).length ≤ 30 := hlr
            refine (dWay s6.b (by rw [t3]; omega)).mono ?_
            have t5 : wayOf v6 = (x :: l) := by rw [wayOf, t2, t3]; rfl
            rintro _ h7 ⟨q7, rfl, o7, m7⟩
            rw [t5] at o7 ⊢
            rw [t2]
            have s7 := s6.old m7
            have r7 : RoSl h7 pz ((x :: l)).length 1 (ints .i64 (x :: l)) := RoSl.get rw6' m7
            have a27 := a26.get m7
            conv => whnf
            refine ⟨_, rfl, ?_⟩
            conv => whnf
            refine ⟨_, rfl, ?_⟩
            conv => whnf
            refine (ints47 (n := ((x :: l)).length) o7.is r7.is (by omega)).mono ?_
            rintro _ h8 ⟨eh, rfl⟩
            rw [eh]
            clear eh h8
            rw [show ((x :: l) == (x :: l)) = true by simp]
            conv => whnf
            refine (dAt s7.b).mono ?_
            rintro _ h8 ⟨eh, rfl⟩
            rw [eh]
            clear eh h8
            rw [t4]
            conv => whnf
            rw [show (x != x) = false by simp]
            conv => whnf
            rw [succ_i64 (n := n2) hd (by omega)]
            refine ⟨_, Forget.cons rfl (Forget.cons rfl (Forget.cons rfl (Forget.cons rfl (Forget.cons rfl (Forget.cons rfl (Forget.nil _)))))), ⟨k + 1, _, true, _, pz, (x :: l), v6, cv6, _, hd, rfl, s7, cg6, by omega, pc2, r7, hWr, hlr, t1, t2, t3, t4, (fun k => by first | rfl | cases k), a27, rfl⟩, ?_⟩
            show ((n2 : Int) - ((k + 1 : Nat) : Int)).toNat < ((n2 : Int) - (k : Int)).toNat
            omega
          · conv => whnf
            have hna : ¬ x = a := by simpa using hna
            have t23 : v6.has = false ∧ v6.way = [] := by
              rw [ev6, repD, if_neg hno, if_pos (by rw [va]; exact hna)]
              exact ⟨rfl, rfl⟩
            obtain ⟨t2, t3⟩ := t23
            have lW30 : (([] : List Int)).length ≤ 30 := (Nat.zero_le _)
            refine (dWay s6.b (by rw [t3]; omega)).mono ?_
            have t5 : wayOf v6 = ([] : List Int) := by rw [wayOf, t2, t3]; rfl
            rintro _ h7 ⟨q7, rfl, o7, m7⟩
            rw [t5] at o7 ⊢
            rw [t2]
            have s7 := s6.old m7
            have r7 : RoSl h7 (none : Option (Nat × Nat)) (([] : List Int)).length 1 (ints .i64 ([] : List Int)) := RoSl.get (RoSl.nil _ _ _) m7
            have a27 := a26.get m7
            conv => whnf
            refine ⟨_, rfl, ?_⟩
            conv => whnf
            refine ⟨_, rfl, ?_⟩
            conv => whnf
            refine (ints47 (n := (([] : List Int)).length) o7.is r7.is (by omega)).mono ?_
            rintro _ h8 ⟨eh, rfl⟩
            rw [eh]
            clear eh h8
            rw [show (([] : List Int) == ([] : List Int)) = true by simp]
            conv => whnf
            refine (dAt s7.b).mono ?_
            rintro _ h8 ⟨eh, rfl⟩
            rw [eh]
            clear eh h8
            rw [t4]
            conv => whnf
            rw [show (x != x) = false by simp]
            conv => whnf
            rw [succ_i64 (n := n2) hd (by omega)]
            refine ⟨_, Forget.cons rfl (Forget.cons rfl (Forget.cons rfl (Forget.cons rfl (Forget.cons rfl (Forget.cons rfl (Forget.nil _)))))), ⟨k + 1, _, false, _, (none : Option (Nat × Nat)), ([] : List Int), v6, cv6, _, hd, rfl, s7, cg6, by omega, pc2, r7, (fun x hx => by cases hx), (Nat.zero_le _), t1, t2, t3, t4, (fun k => by first | rfl | cases k), a27, rfl⟩, ?_⟩
            show ((n2 : Int) - ((k + 1 : Nat) : Int)).toNat < ((n2 : Int) - (k : Int)).toNat
            omega
      · conv => whnf
        refine (dReport s cg (by omega) (now := 0) (by decide) (by decide) y (repM_len y) (fun b => push_len cg.ok _ _)).mono ?_
        rintro _ h6 (⟨q, _⟩ | ⟨_, q, _⟩ | ⟨_, _, q6, po6, out, v6, rfl, rw6, s6, hp6, m6, alt⟩)
        · rw [vl] at q
          cases q
        · rw [show inR y 0 65535 = true from inR_iff.2 ⟨by omega, by omega⟩] at q
          cases q
        obtain ⟨pc1, pc2⟩ := push_code hov 0 (encB (repM y))
        have cg6 := push_cg cg (by omega) 0 (encB_oct (repM y)) (repM_len y)
        have cnt6 := (push_ov cg.ok cg.ov (by omega) 0 (encB_oct (repM y)) (repM_len y)).2.2.1
        obtain ⟨⟨⟨L6, e6⟩, cv6⟩, eR⟩ : ∃ RR, pushV cv 0 (encB (repM y)) = RR := ⟨_, rfl⟩
        rw [eR] at pc1 pc2 cg6 cnt6 s6 alt ⊢
        have pc1 : e6 = 0 ∨ e6 = 5 := pc1
        have pc2 : cv6.s.ov = false := pc2
        have cg6 : CG cv6 := cg6
        have cnt6 : cv6.cnt ≤ cv.cnt + 1 := cnt6
        have s6 : DrS h6 di d po6 v6 cv6 := s6
        have alt : (e6 ≠ 0 ∧ out = [] ∧ v6 = v) ∨ (e6 = 0 ∧ out = L6.map encV ∧ v6 = repD v y) := alt
        rcases alt with ⟨ne, _, _⟩ | ⟨rfl, _, ev6⟩
        · obtain rfl : e6 = 5 := pc1.resolve_left ne
          conv => whnf
          refine ⟨_, rfl, ?_⟩
          conv => whnf
          refine ⟨_, rfl, ?_⟩
          conv => whnf
          refine (awake6 _).mono ?_
          rintro _ h8 rfl
          conv => whnf
        have rw6' := rw.get m6
        have a26 := a2.get m6
        conv => whnf
        refine ⟨_, rfl, ?_⟩
        conv => whnf
        refine ⟨_, rfl, ?_⟩
        conv => whnf
        cases Wr with
        | nil =>
          have hno : ¬ (v.has = true ∧ v.way.head? = some y) := fun k => by
            rw [vw] at k
            cases k.2
          obtain ⟨t1, t4⟩ := repD_live v y
          rw [← ev6] at t1 t4
          have t1 := t1.trans vl
          refine br_mk (fun hna => ?_) (fun hna => ?_)
          · conv => whnf
            have hna : y = a := by simpa using hna
            have t23 : v6.has = true ∧ v6.way = ([] : List Int) := by
              rw [ev6, repD, if_neg hno, if_neg (by rw [va]; exact fun k => k hna)]
              exact ⟨vb, vw⟩
            obtain ⟨t2, t3⟩ := t23
            have lW30 : (([] : List Int)).length ≤ 30 := hlr
            refine (dWay s6.b (by rw [t3]; omega)).mono ?_
            have t5 : wayOf v6 = ([] : List Int) := by rw [wayOf, t2, t3]; rfl
            rintro _ h7 ⟨q7, rfl, o7, m7⟩
            rw [t5] at o7 ⊢
            rw [t2]
            have s7 := s6.old m7
            have r7 : RoSl h7 pz (([] : List Int)).length 1 (ints .i64 ([] : List Int)) := RoSl.get rw6' m7
            have a27 := a26.get m7
            conv => whnf
            refine ⟨_, rfl, ?_⟩
            conv => whnf
            refine ⟨_, rfl, ?_⟩
            conv => whnf
            refine (ints47 (n := (([] : List Int)).length) o7.is r7.is (by omega)).mono ?_
            rintro _ h8 ⟨eh, rfl⟩
            rw [eh]
            clear eh h8
            rw [show (([] : List Int) == ([] : List Int)) = true by simp]
            conv => whnf
            refine (dAt s7.b).mono ?_
            rintro _ h8 ⟨eh, rfl⟩
            rw [eh]
            clear eh h8
            rw [t4]
            conv => whnf
            rw [show (y != y) = false by simp]
            conv => whnf
            rw [succ_i64 (n := n2) hd (by omega)]
            refine ⟨_, Forget.cons rfl (Forget.cons rfl (Forget.cons rfl (Forget.cons rfl (Forget.cons rfl (Forget.cons rfl (Forget.nil _)))))), ⟨k + 1, _, true, _, pz, ([] : List Int), v6, cv6, _, hd, rfl, s7, cg6, by omega, pc2, r7, hWr, hlr, t1, t2, t3, t4, (fun k => by first | rfl | cases k), a27, rfl⟩, ?_⟩
            show ((n2 : Int) - ((k + 1 : Nat) : Int)).toNat < ((n2 : Int) - (k : Int)).toNat
            omega
          · conv => whnf
            have hna : ¬ y = a := by simpa using hna
            have t23 : v6.has = false ∧ v6.way = [] := by
              rw [ev6, repD, if_neg hno, if_pos (by rw [va]; exact hna)]
              exact ⟨rfl, rfl⟩
            obtain ⟨t2, t3⟩ := t23
            have lW30 : (([] : List Int)).length ≤ 30 := (Nat.zero_le _)
            refine (dWay s6.b (by rw [t3]; omega)).mono ?_
            have t5 : wayOf v6 = ([] : List Int) := by rw [wayOf, t2, t3]; rfl
            rintro _ h7 ⟨q7, rfl, o7, m7⟩
            rw [t5] at o7 ⊢
            rw [t2]
            have s7 := s6.old m7
            have r7 : RoSl h7 (none : Option (Nat × Nat)) (([] : List Int)).length 1 (ints .i64 ([] : List Int)) := RoSl.get (RoSl.nil _ _ _) m7
            have a27 := a26.get m7
            conv => whnf
            refine ⟨_, rfl, ?_⟩
            conv => whnf
            refine ⟨_, rfl, ?_⟩
            conv => whnf
            refine (ints47 (n := (([] : List Int)).length) o7.is r7.is (by omega)).mono ?_
            rintro _ h8 ⟨eh, rfl⟩
            rw [eh]
            clear eh h8
            rw [show (([] : List Int) == ([] : List Int)) = true by simp]
            conv => whnf
            refine (dAt s7.b).mono ?_
            rintro _ h8 ⟨eh, rfl⟩
            rw [eh]
            clear eh h8
            rw [t4]
            conv => whnf
            rw [show (y != y) = false by simp]
            conv => whnf
            rw [succ_i64 (n := n2) hd (by omega)]
            refine ⟨_, Forget.cons rfl (Forget.cons rfl (Forget.cons rfl (Forget.cons rfl (Forget.cons rfl (Forget.cons rfl (Forget.nil _)))))), ⟨k + 1, _, false, _, (none : Option (Nat × Nat)), ([] : List Int), v6, cv6, _, hd, rfl, s7, cg6, by omega, pc2, r7, (fun x hx => by cases hx), (Nat.zero_le _), t1, t2, t3, t4, (fun k => by first | rfl | cases k), a27, rfl⟩, ?_⟩
            show ((n2 : Int) - ((k + 1 : Nat) : Int)).toNat < ((n2 : Int) - (k : Int)).toNat
            omega
        | cons x l => exact absurd (hw.symm.trans (decide_eq_true (show (((x :: l).length : Int) > 0) by rw [List.length_cons]; omega))) (by decide)
end Go.Proofs.Ytmififfaljihgaa
