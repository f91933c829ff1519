/- TimerApart: its walk. -/
import Derived.Test.YtpefdmidfllhoaaQ30
set_option linter.unusedVariables false
namespace Go.Proofs.Ytpefdmidfllhoaa
open Go Go.Ab
def i64V (v : Int) : V := .int .i64 v
/-- a map of numbers -/
def BSt (h : H) (bi : Nat) (BG : List (Int × Int)) : Prop := ∃ bms, h.obj bi = some (.map true (mpE .i64 (encM i64V bms))) ∧ Same bms BG
theorem BSt.get {S : Nat → Prop} {h h' : H} {bi : Nat} {BG : List (Int × Int)} (b : BSt h bi BG) (m : Ab.Mod S h h') (hs : ¬ S bi) : BSt h' bi BG := by
  obtain ⟨bms, h1, h2⟩ := b
  exact ⟨bms, m.get h1 (.inl hs), h2⟩
theorem BSt.lt {h : H} {bi : Nat} {BG : List (Int × Int)} (b : BSt h bi BG) : bi < h.next := by
  obtain ⟨bms, h1, h2⟩ := b
  exact h.lt _ _ h1
theorem BSt.turn {h : H} {bi : Nat} {BG BG' : List (Int × Int)} (b : BSt h bi BG) {bms' : List (Int × Int)} (hs : Same bms' BG') : BSt (h.set bi (.map true (mpE .i64 (encM i64V bms')))) bi BG' ∧ Ab.Mod (one bi) h (h.set bi (.map true (mpE .i64 (encM i64V bms')))) := by
  obtain ⟨bms, h1, h2⟩ := b
  exact ⟨⟨bms', H.obj_set_same h1, hs⟩, Mod.set rfl h1 rfl⟩
set_option maxHeartbeats 1000000 in
theorem apart10 {h : H} {ps pt : Option (Nat × Nat)} {n m : Nat} {pp : List (Int × Int)} {st : List Int} (ro : RoSl h ps n 2 (pairs .i64 pp)) (so : RoSl h pt m 1 (ints .i64 st)) (R : Int) : ACalls Try.prog 10 [.sl ps n, .sl pt m, i64 R] h (fun r _ => r = .bool true) := by
  refine call_ Try.func10 rfl rfl (by kernel_rfl) ?_
  conv => whnf
  refine br_mk (fun ha => ?_) (fun ha => ?_)
  · conv => whnf
    refine (awake21 h).mono ?_
    rintro _ h1 rfl
    conv => whnf
  conv => whnf
  have ha : n ≤ 8 := by
    have : ¬ (n : Int) > 8 := by simpa using ha
    omega
  refine br_mk (fun hb => ?_) (fun hb => ?_)
  · conv => whnf
    refine (awake21 h).mono ?_
    rintro _ h1 rfl
    conv => whnf
  conv => whnf
  have hb : m ≤ 8 := by
    have : ¬ (m : Int) > 8 := by simpa using hb
    omega
  refine br_mk (fun hc => ?_) (fun hc => ?_)
  · conv => whnf
    refine (awake21 h).mono ?_
    rintro _ h1 rfl
    conv => whnf
  conv => whnf
  have hc : ¬ R < 0 := by simpa using hc
  refine br_mk (fun hd => ?_) (fun hd => ?_)
  · conv => whnf
    refine (awake21 h).mono ?_
    rintro _ h1 rfl
    conv => whnf
  conv => whnf
  have hd : ¬ R > 5 := by simpa using hd
  have ok : okT 3 9 R = true := okT_iff.2 (by omega)
  refine (new22 h 3 9 R).mono ?_
  rintro _ h1 q1
  obtain ⟨g, mi, rfl, tS, lg, lm, m1⟩ := newT_yes q1 ok
  clear q1
  have ro := ro.get m1
  have so := so.get m1
  conv => whnf
  refine ⟨_, rfl, ?_⟩
  conv => whnf
  refine ⟨_, rfl, ?_⟩
  conv => whnf
  have mp := Mod.push none_ h1 (.map true [])
  have bS : BSt (h1.push (.map true [])) h1.next [] := ⟨[], H.obj_push_new _ _, List.Pairwise.nil, fun _ => rfl⟩
  have hgl := tS.lt
  obtain ⟨bi, hbi⟩ : ∃ bi, bi = h1.next := ⟨_, rfl⟩
  have hb1 : bi ≠ g := by omega
  have hb2 : bi ≠ mi := by omega
  rw [← hbi] at bS ⊢
  have tS := tS.old mp
  have ro := ro.get mp
  have so := so.get mp
  refine ⟨fun env hh => ∃ (now : Int) (Z : List Zt), 0 ≤ now ∧ now ≤ 120 ∧ GoodZ R now Z ∧ TSt hh g mi 3 9 R (encM f1 Z) ∧ BSt hh bi (encM Prod.fst Z) ∧ RoSl hh ps n 2 (pairs .i64 pp) ∧ RoSl hh pt m 1 (ints .i64 st) ∧ env = [(10, i64 now), (0, .sl ps n), (1, .sl pt m), (2, i64 R), (7, .ptr (some (g, 0))), (9, .mp (some bi))],
    fun env _ => match get env 10 with
      | .int _ z => (120 - z).toNat
      | _ => 0, ⟨_, Forget.cons rfl (Forget.cons rfl (Forget.cons rfl (Forget.cons rfl (Forget.cons rfl (Forget.cons rfl (Forget.nil _)))))), 0, [], by decide, by decide, ⟨List.Pairwise.nil, fun z hz => by cases hz⟩, tS, bS, ro, so, rfl⟩, ?_⟩
  clear tS bS ro so m1 mp hgl lg lm hbi
  rintro _ hh ⟨now, Z, n0, n1, gZ0, tS, bS, ro, so, rfl⟩
  conv => whnf
  refine br_mk (fun hx => ?_) (fun hx => ?_)
  rotate_left
  · conv => whnf
    refine (awake21 _).mono ?_
    rintro _ h3 rfl
    conv => whnf
  conv => whnf
  have hx : now < 120 := by simpa using hx
  -- who is begun
  refine ⟨fun env hh => ∃ (j : Nat) (z : Int) (Z : List Zt), j ≤ n ∧ z = j ∧ GoodZ R now Z ∧ TSt hh g mi 3 9 R (encM f1 Z) ∧ BSt hh bi (encM Prod.fst Z) ∧ RoSl hh ps n 2 (pairs .i64 pp) ∧ RoSl hh pt m 1 (ints .i64 st) ∧ env = [(11, i64 z), (10, i64 now), (0, .sl ps n), (1, .sl pt m), (2, i64 R), (7, .ptr (some (g, 0))), (9, .mp (some bi))],
    fun env _ => match get env 11 with
      | .int _ z => (n - z).toNat
      | _ => 0, ⟨_, Forget.cons rfl (Forget.cons rfl (Forget.cons rfl (Forget.cons rfl (Forget.cons rfl (Forget.cons rfl (Forget.cons rfl (Forget.nil _))))))), 0, _, Z, Nat.zero_le _, rfl, gZ0, tS, bS, ro, so, rfl⟩, ?_⟩
  clear tS bS ro so gZ0 Z
  rintro _ hA ⟨j, z, Z, hj, rfl, gZ0, tS, bS, ro, so, rfl⟩
  conv => whnf
  refine br_mk (fun hy => ?_) (fun hy => ?_)
  · conv => whnf
    have hy : j < n := by simpa using hy
    obtain ⟨i1, c1, k1, k2, k3⟩ := pair_cell ro hy
    refine ⟨i1, c1, j, k1, rfl, hy, ?_⟩
    conv => whnf
    refine ⟨1, rfl, by decide, ?_⟩
    conv => whnf
    refine ⟨_, k3, ?_⟩
    conv => whnf
    refine (round19 (m := 30) (by decide) (by decide) _ _).mono ?_
    rintro _ hR ⟨eh, rfl⟩
    subst eh
    conv => whnf
    refine br_mk (fun hz => ?_) (fun hz => ?_)
    · conv => whnf
      refine ⟨i1, c1, j, k1, rfl, hy, ?_⟩
      conv => whnf
      refine ⟨0, rfl, by decide, ?_⟩
      conv => whnf
      refine ⟨_, k2, ?_⟩
      conv => whnf
      refine (round19 (m := 6) (by decide) (by decide) _ _).mono ?_
      rintro _ hR2 ⟨eh, rfl⟩
      subst eh
      conv => whnf
      have e0 := Int.emod_nonneg (pp.getD j (0, 0)).1 (show (6 : Int) ≠ 0 by decide)
      have e1 := Int.emod_lt_of_pos (pp.getD j (0, 0)).1 (show (0 : Int) < 6 by decide)
      refine (start23 tS ok (id := (pp.getD j (0, 0)).1 % 6) (now := now) (i64_in (by omega) (by omega)) (by omega) (by omega)).mono ?_
      rintro _ h4 ⟨tS, m4⟩
      have bS := bS.get m4 hb2
      have ro := ro.get m4
      have so := so.get m4
      obtain ⟨i1, c1, k1, k2, k3⟩ := pair_cell ro hy
      conv => whnf
      refine ⟨i1, c1, j, k1, rfl, hy, ?_⟩
      conv => whnf
      refine ⟨0, rfl, by decide, ?_⟩
      conv => whnf
      refine ⟨_, k2, ?_⟩
      conv => whnf
      refine (round19 (m := 6) (by decide) (by decide) _ _).mono ?_
      rintro _ hR3 ⟨eh, rfl⟩
      subst eh
      conv => whnf
      generalize (pp.getD j (0, 0)).1 % 6 = id at e0 e1 tS ⊢
      have bS0 := bS
      obtain ⟨bms, g1, g2⟩ := bS
      refine ⟨encM i64V bms, g1, ?_⟩
      conv => whnf
      have em := mput_enc i64V id now bms
      have zg := gZ0.ins (id := id) e0 e1 n0 (by omega)
      have ef : insS (encM f1 Z) id (now + waitV 3 9 0, 0) = encM f1 (insS Z id (now, 0)) := by
        rw [← encM_ins f1 Z id (now, 0)]
        rfl
      have eb : insS (encM Prod.fst Z) id now = encM Prod.fst (insS Z id (now, 0)) := encM_ins Prod.fst Z id (now, 0)
      rw [ef] at tS
      obtain ⟨t1, t2⟩ := bS0.turn (g2.put id now (insS_get ((encM_asc Prod.fst).2 gZ0.asc) id now))
      rw [← em] at t1 t2
      rw [eb] at t1
      exact ⟨_, Forget.cons rfl (Forget.cons rfl (Forget.cons rfl (Forget.cons rfl (Forget.cons rfl (Forget.cons rfl (Forget.cons rfl (Forget.nil _))))))), ⟨j + 1, _, _, hy, succ_i64 hy (by omega), zg, tS.get t2 (fun k => hb1 k.symm) (fun k => hb2 k.symm), t1, ro.get t2, so.get t2, rfl⟩, mu_lt hy (by omega)⟩
    · conv => whnf
      exact ⟨_, Forget.cons rfl (Forget.cons rfl (Forget.cons rfl (Forget.cons rfl (Forget.cons rfl (Forget.cons rfl (Forget.cons rfl (Forget.nil _))))))), ⟨j + 1, _, Z, hy, succ_i64 hy (by omega), gZ0, tS, bS, ro, so, rfl⟩, mu_lt hy (by omega)⟩
  conv => whnf
  clear hy hj
  -- who is stopped
  refine ⟨fun env hh => ∃ (j : Nat) (z : Int) (Z : List Zt), j ≤ m ∧ z = j ∧ GoodZ R now Z ∧ TSt hh g mi 3 9 R (encM f1 Z) ∧ BSt hh bi (encM Prod.fst Z) ∧ RoSl hh ps n 2 (pairs .i64 pp) ∧ RoSl hh pt m 1 (ints .i64 st) ∧ env = [(12, i64 z), (10, i64 now), (0, .sl ps n), (1, .sl pt m), (2, i64 R), (7, .ptr (some (g, 0))), (9, .mp (some bi))],
    fun env _ => match get env 12 with
      | .int _ z => (m - z).toNat
      | _ => 0, ⟨_, Forget.cons rfl (Forget.cons rfl (Forget.cons rfl (Forget.cons rfl (Forget.cons rfl (Forget.cons rfl (Forget.cons rfl (Forget.nil _))))))), 0, _, Z, Nat.zero_le _, rfl, gZ0, tS, bS, ro, so, rfl⟩, ?_⟩
  clear tS bS ro so gZ0 Z
  rintro _ hB ⟨j, z, Z, hj, rfl, gZ0, tS, bS, ro, so, rfl⟩
  conv => whnf
  refine br_mk (fun hy => ?_) (fun hy => ?_)
  · conv => whnf
    have hy : j < m := by simpa using hy
    obtain ⟨i1, c1, k1, k2⟩ := slo_get so.is hy
    refine ⟨i1, c1, j, k1, rfl, hy, ?_⟩
    conv => whnf
    refine ⟨_, k2, ?_⟩
    conv => whnf
    refine (round19 (m := 60) (by decide) (by decide) _ _).mono ?_
    rintro _ hR ⟨eh, rfl⟩
    subst eh
    conv => whnf
    refine br_mk (fun hz => ?_) (fun hz => ?_)
    · conv => whnf
      refine ⟨by decide, ?_⟩
      conv => whnf
      obtain ⟨lq, nq⟩ := laid_row hR [now.tmod 6]
      have hlt := tS.lt
      refine (stop40 (tS.old nq) lq (fun i o e => by
        injection e with e
        injection e with e
        omega) (by simp)).mono ?_
      rintro _ h4 ⟨tS, m4⟩
      have bS := (bS.get nq (fun k => k)).get m4 hb2
      have ro := (ro.get nq).get m4
      have so := (so.get nq).get m4
      conv => whnf
      refine ⟨by decide, ?_⟩
      conv => whnf
      have tS : TSt h4 g mi 3 9 R (delS (encM f1 Z) (now.tmod 6)) := tS
      generalize now.tmod 6 = id at tS ⊢
      have bS0 := bS
      obtain ⟨bms, g1, g2⟩ := bS
      refine ⟨encM i64V bms, g1, ?_⟩
      conv => whnf
      have em := mdel_enc i64V id bms
      rw [encM_del] at tS
      obtain ⟨t1, t2⟩ := bS0.turn (g2.del id (delS_get ((encM_asc Prod.fst).2 gZ0.asc) id))
      rw [← em] at t1 t2
      rw [encM_del] at t1
      exact ⟨_, Forget.cons rfl (Forget.cons rfl (Forget.cons rfl (Forget.cons rfl (Forget.cons rfl (Forget.cons rfl (Forget.cons rfl (Forget.nil _))))))), ⟨j + 1, _, _, hy, succ_i64 hy (by omega), gZ0.del id, tS.get t2 (fun k => hb1 k.symm) (fun k => hb2 k.symm), t1, ro.get t2, so.get t2, rfl⟩, mu_lt hy (by omega)⟩
    · conv => whnf
      exact ⟨_, Forget.cons rfl (Forget.cons rfl (Forget.cons rfl (Forget.cons rfl (Forget.cons rfl (Forget.cons rfl (Forget.cons rfl (Forget.nil _))))))), ⟨j + 1, _, Z, hy, succ_i64 hy (by omega), gZ0, tS, bS, ro, so, rfl⟩, mu_lt hy (by omega)⟩
  conv => whnf
  clear hy hj
  -- who is due
  obtain ⟨ev1a, ev2, ev3, ev4⟩ := ev1 (R := R) (fun z hz => (gZ0.all z hz).2.2.2.2.2.1)
  have hlen : (encM f1 Z).length ≤ 6 := by
    rw [encM_length, ← keys_length]
    have : (keys Z).Nodup := gZ0.asc.nodup
    have h6 : ∀ x ∈ keys Z, x ∈ [(0 : Int), 1, 2, 3, 4, 5] := fun x hx => by
      obtain ⟨z, hz, rfl⟩ := List.mem_map.1 hx
      have := gZ0.all z hz
      simp
      omega
    exact (List.Nodup.length_le_of_subset this (fun x hx => h6 x hx))
  refine (due24r tS ok (by omega) (fun x hx => by
    obtain ⟨z, _, rfl⟩ := List.mem_map.1 hx
    exact Int.natCast_nonneg _) (now := now) (by omega) (by omega) _ _ _ ev2 ev3 ev1a).mono ?_
  rintro _ hC ⟨qa, qo, rfl, rA, rO, tS, mC⟩
  have bS := bS.get mC hb2
  have ro := ro.get mC
  have so := so.get mC
  have aA := keysf_asc gZ0.asc (agZ R now)
  have aO := keysf_asc gZ0.asc (ovZ R now)
  have rngA : ∀ x ∈ keys (Z.filter (agZ R now)), 0 ≤ x ∧ x < 6 := fun x hx => by
    obtain ⟨z, hz, rfl⟩ := List.mem_map.1 hx
    have := gZ0.all z (List.mem_filter.1 hz).1
    omega
  have rngO : ∀ x ∈ keys (Z.filter (ovZ R now)), 0 ≤ x ∧ x < 6 := fun x hx => by
    obtain ⟨z, hz, rfl⟩ := List.mem_map.1 hx
    have := gZ0.all z (List.mem_filter.1 hz).1
    omega
  have inA : ∀ (e : Int) (v : Int × Nat), sget Z e = some v → (e ∈ keys (Z.filter (agZ R now)) ↔ agZ R now (e, v) = true) := fun e v hv => mem_keysf gZ0.asc hv
  have inO : ∀ (e : Int) (v : Int × Nat), sget Z e = some v → (e ∈ keys (Z.filter (ovZ R now)) ↔ ovZ R now (e, v) = true) := fun e v hv => mem_keysf gZ0.asc hv
  have noA : ∀ e, sget Z e = none → e ∉ keys (Z.filter (agZ R now)) := fun e hv => not_keysf hv
  have noO : ∀ e, sget Z e = none → e ∉ keys (Z.filter (ovZ R now)) := fun e hv => not_keysf hv
  have lenA : (keys (Z.filter (agZ R now))).length ≤ 6 := by
    rw [keys_length]
    rw [encM_length] at hlen
    exact Nat.le_trans (List.length_filter_le _ _) hlen
  have gnx := gZ0.next
  generalize keys (Z.filter (agZ R now)) = A at rA aA rngA inA noA lenA ⊢
  generalize keys (Z.filter (ovZ R now)) = O at rO aO rngO inO noO ⊢
  conv => whnf
  refine ⟨_, rfl, ?_⟩
  conv => whnf
  refine ⟨_, rfl, ?_⟩
  conv => whnf
  refine ⟨fun env hh => ∃ (e : Nat) (ze zn : Int) (po : Option (Nat × Nat)), e ≤ 6 ∧ ze = e ∧ zn = cntL A e ∧ TSt hh g mi 3 9 R (encM f1 (Z.filterMap (gZ R now))) ∧ BSt hh bi (encM Prod.fst (bgE R now Z e)) ∧ RoSl hh qa A.length 1 (ints .i64 A) ∧ RoSl hh po (O.length - cntL O e) 1 (ints .i64 (O.drop (cntL O e))) ∧ RoSl hh ps n 2 (pairs .i64 pp) ∧ RoSl hh pt m 1 (ints .i64 st) ∧ env = [(16, i64 ze), (15, i64 zn), (13, .sl qa A.length), (14, .sl po (O.length - cntL O e)), (10, i64 now), (0, .sl ps n), (1, .sl pt m), (2, i64 R), (7, .ptr (some (g, 0))), (9, .mp (some bi))],
    fun env _ => match get env 16 with
      | .int _ z => ((6 : Nat) - z).toNat
      | _ => 0, ⟨_, Forget.cons rfl (Forget.cons rfl (Forget.cons rfl (Forget.cons (by rw [show ((0 : Nat) : Int) = 0 from rfl, cnt_none (fun x hx => (rngO x hx).1)]; rfl) (Forget.cons rfl (Forget.cons rfl (Forget.cons rfl (Forget.cons rfl (Forget.cons rfl (Forget.cons rfl (Forget.nil _)))))))))), 0, _, _, qo, Nat.zero_le _, rfl, (by rw [show ((0 : Nat) : Int) = 0 from rfl, cnt_none (fun x hx => (rngA x hx).1)]; rfl), tS, by rw [show ((0 : Nat) : Int) = 0 from rfl, bgE_zero (fun z hz => (gZ0.all z hz).1)]; exact bS, rA, by rw [show ((0 : Nat) : Int) = 0 from rfl, cnt_none (fun x hx => (rngO x hx).1)]; exact rO, ro, so, rfl⟩, ?_⟩
  clear tS bS rA rO ro so mC
  rintro _ hD ⟨e, ze, zn, po, he, rfl, rfl, tS, bS, rA, rO, ro, so, rfl⟩
  conv => whnf
  refine br_mk (fun hy => ?_) (fun hy => ?_)
  · conv => whnf
    have hy : e < 6 := by
      have : (e : Int) < 6 := by simpa using hy
      omega
    have hcs : ((e + 1 : Nat) : Int) = (e : Int) + 1 := by omega
    have bS0 := bS
    obtain ⟨bms, g1, g2⟩ := bS
    have elk : mget (encM i64V bms) (e : Int) = ((sget Z e).map Prod.fst).map i64V := by
      rw [mget_enc, g2.2, encM_get, bgE_get gZ0.asc]
    refine ⟨true, encM i64V bms, g1, ?_⟩
    rw [elk]
    clear elk g1 g2
    have bS := bS0
    clear bS0
    cases hz : sget Z e with
    | none =>
      conv => whnf
      refine ⟨_, rfl, ?_⟩
      conv => whnf
      refine ⟨_, rfl, ?_⟩
      conv => whnf
      have qA := cnt_out aA (noA _ hz)
      have qO := cnt_out aO (noO _ hz)
      have qB := bgE_same (R := R) (now := now) (fun v hv => by rw [hz] at hv; cases hv) gZ0.asc
      rw [← hcs] at qA qO qB
      rw [← qB] at bS
      rw [← qA, ← qO]
      rw [← qO] at rO
      exact ⟨_, Forget.cons rfl (Forget.cons rfl (Forget.cons rfl (Forget.cons rfl (Forget.cons rfl (Forget.cons rfl (Forget.cons rfl (Forget.cons rfl (Forget.cons rfl (Forget.cons rfl (Forget.nil _)))))))))), ⟨e + 1, _, _, _, hy, succ_i64 hy (by omega), rfl, tS, bS, rA, rO, ro, so, rfl⟩, mu_lt (m := 6) hy (by omega)⟩
    | some v =>
      obtain ⟨s, k⟩ := v
      have hmem := (sget_mem gZ0.asc.nodup).1 hz
      obtain ⟨a1, a2, a3, a4, a5, a6, a7⟩ := gZ0.all _ hmem
      have a4 : s ≤ now := a4
      have a3 : 0 ≤ s := a3
      have a5 : (k : Int) ≤ R := a5
      have a6 : now ≤ Dn s k := a6
      have a7 : ∀ i, i < k → Dn s i < now := a7
      have iA := inA _ _ hz
      have iO := inO _ _ hz
      conv => whnf
      refine ⟨_, rfl, ?_⟩
      conv => whnf
      refine ⟨_, rfl, ?_⟩
      conv => whnf
      refine (wait37 tS.box (by decide) (by decide) (by decide) (n := 0) (by decide)).mono ?_
      rintro _ hW ⟨eh, rfl⟩
      subst eh
      have hw0 : IntKind.i64.wrap (s + waitV 3 9 0) = Dn s 0 := by
        rw [wrap_i64 (by have := wv_rng 0; omega) (by have := wv_rng 0; omega)]
        rfl
      conv => whnf
      rw [show IntKind.i64.wrap (s + waitV 3 9 0) = Dn s 0 from hw0]
      refine ⟨fun env hk => ∃ (i : Nat) (zi : Int), i ≤ k ∧ zi = i ∧ TSt hk g mi 3 9 R (encM f1 (Z.filterMap (gZ R now))) ∧ BSt hk bi (encM Prod.fst (bgE R now Z e)) ∧ RoSl hk qa A.length 1 (ints .i64 A) ∧ RoSl hk po (O.length - cntL O e) 1 (ints .i64 (O.drop (cntL O e))) ∧ RoSl hk ps n 2 (pairs .i64 pp) ∧ RoSl hk pt m 1 (ints .i64 st) ∧ env = [(20, i64 zi), (19, i64 (Dn s i)), (16, i64 (e : Int)), (15, i64 (cntL A e)), (13, .sl qa A.length), (14, .sl po (O.length - cntL O e)), (10, i64 now), (0, .sl ps n), (1, .sl pt m), (2, i64 R), (7, .ptr (some (g, 0))), (9, .mp (some bi))],
        fun env _ => match get env 20 with
          | .int _ z => (k - z).toNat
          | _ => 0, ⟨_, Forget.cons rfl (Forget.cons rfl (Forget.cons rfl (Forget.cons rfl (Forget.cons rfl (Forget.cons rfl (Forget.cons rfl (Forget.cons rfl (Forget.cons rfl (Forget.cons rfl (Forget.cons rfl (Forget.cons rfl (Forget.nil _)))))))))))), 0, _, Nat.zero_le _, rfl, tS, bS, rA, rO, ro, so, rfl⟩, ?_⟩
      clear tS bS rA rO ro so hw0
      rintro _ hE ⟨i, zi, hi, rfl, tS, bS, rA, rO, ro, so, rfl⟩
      conv => whnf
      have hDi := Dn_le s i
      have step : i = k ∨ (i < k ∧ Dn s i < now ∧ (i : Int) < R) := by
        by_cases c : i = k
        · exact .inl c
        · exact .inr ⟨by omega, a7 i (by omega), by omega⟩
      rcases step with hik | ⟨hik, hdn, hiR⟩
      rotate_left
      · refine br_mk (fun hu => ?_) (fun hu => ?_)
        rotate_left
        · exact absurd hu (by simp; omega)
        conv => whnf
        refine br_mk (fun hv => ?_) (fun hv => ?_)
        rotate_left
        · exact absurd hv (by simp; omega)
        conv => whnf
        have hw1 : IntKind.i64.wrap ((i : Int) + 1) = ((i + 1 : Nat) : Int) := by
          rw [wrap_i64 (by omega) (by omega)]
          omega
        rw [hw1]
        refine (wait37 tS.box (by decide) (by decide) (by decide) (n := ((i + 1 : Nat) : Int)) (by omega)).mono ?_
        rintro _ hW ⟨eh, rfl⟩
        subst eh
        conv => whnf
        have hw2 : IntKind.i64.wrap (Dn s i + waitV 3 9 ((i + 1 : Nat) : Int)) = Dn s (i + 1) := by
          have := wv_rng ((i + 1 : Nat) : Int)
          rw [wrap_i64 (by omega) (by omega)]
          rfl
        rw [hw2]
        refine ⟨_, Forget.cons rfl (Forget.cons rfl (Forget.cons rfl (Forget.cons rfl (Forget.cons rfl (Forget.cons rfl (Forget.cons rfl (Forget.cons rfl (Forget.cons rfl (Forget.cons rfl (Forget.cons rfl (Forget.cons rfl (Forget.nil _)))))))))))), ⟨i + 1, _, hik, rfl, tS, bS, rA, rO, ro, so, rfl⟩, ?_⟩
        show ((k : Int) - ((i + 1 : Nat) : Int)).toNat < ((k : Int) - (i : Int)).toNat
        omega
      subst hik
      refine br_mk (fun hu => ?_) (fun hu => ?_)
      · exact absurd hu (by simp; omega)
      conv => whnf
      by_cases hdue : Dn s i = now
      · by_cases hkR : (i : Int) < R
        · have eA : agZ R now ((e : Int), s, i) = true := by
            show (decide (Dn s i = now) && decide ((i : Int) < R)) = true
            rw [decide_eq_true hdue, decide_eq_true hkR]; rfl
          have eO : ovZ R now ((e : Int), s, i) = false := by
            show (decide (Dn s i = now) && !decide ((i : Int) < R)) = false
            rw [decide_eq_true hkR, Bool.not_true, Bool.and_false]
          obtain ⟨u1, u2, u3⟩ := cnt_in aA (iA.2 eA)
          have qO := cnt_out aO (fun hm => by rw [iO.1 hm] at eO; cases eO)
          have qB := bgE_same (R := R) (now := now) (fun v hv => by
            rw [hz] at hv
            injection hv with hv
            rw [← hv]
            exact eO) gZ0.asc
          rw [← hcs] at u3 qO qB
          refine br_mk (fun hv => ?_) (fun hv => ?_)
          rotate_left
          · exact absurd hv (by simp; exact hdue)
          conv => whnf
          refine br_mk (fun hv => ?_) (fun hv => ?_)
          rotate_left
          · exact absurd hv (by simp; exact hkR)
          conv => whnf
          refine br_mk (fun hv => ?_) (fun hv => ?_)
          · exact absurd hv (by simp; omega)
          conv => whnf
          obtain ⟨i3, c3, v1, v2⟩ := slo_get rA.is u1
          rw [u2] at v2
          refine ⟨i3, c3, cntL A e, v1, rfl, u1, ?_⟩
          conv => whnf
          refine ⟨_, v2, ?_⟩
          conv => whnf
          refine br_mk (fun hv => ?_) (fun hv => ?_)
          · exact absurd hv (by simp)
          conv => whnf
          refine br_mk (fun hv => ?_) (fun hv => ?_)
          rotate_left
          · exact absurd hv (by simp; exact hdue)
          conv => whnf
          refine br_mk (fun hv => ?_) (fun hv => ?_)
          · have hv : (i : Int) = R := by simpa using hv
            omega
          conv => whnf
          have hw3 : IntKind.i64.wrap ((cntL A e : Int) + 1) = (cntL A ((e + 1 : Nat) : Int) : Int) := by
            rw [u3, wrap_i64 (by omega) (by omega)]
            omega
          rw [hw3]
          rw [← qB] at bS
          rw [← qO] at rO ⊢
          exact ⟨_, Forget.cons rfl (Forget.cons rfl (Forget.cons rfl (Forget.cons rfl (Forget.cons rfl (Forget.cons rfl (Forget.cons rfl (Forget.cons rfl (Forget.cons rfl (Forget.cons rfl (Forget.nil _)))))))))), ⟨e + 1, _, _, _, hy, succ_i64 hy (by omega), rfl, tS, bS, rA, rO, ro, so, rfl⟩, mu_lt (m := 6) hy (by omega)⟩
        · have eA : agZ R now ((e : Int), s, i) = false := by
            show (decide (Dn s i = now) && decide ((i : Int) < R)) = false
            rw [decide_eq_false hkR, Bool.and_false]
          have eO : ovZ R now ((e : Int), s, i) = true := by
            show (decide (Dn s i = now) && !decide ((i : Int) < R)) = true
            rw [decide_eq_true hdue, decide_eq_false hkR]; rfl
          obtain ⟨u1, u2, u3⟩ := cnt_in aO (iO.2 eO)
          have qA := cnt_out aA (fun hm => by rw [iA.1 hm] at eA; cases eA)
          have qB := bgE_del (R := R) (now := now) hz eO gZ0.asc
          rw [← hcs] at u3 qA qB
          have hkR2 : (i : Int) = R := by omega
          refine br_mk (fun hv => ?_) (fun hv => ?_)
          rotate_left
          · exact absurd hv (by simp; exact hdue)
          conv => whnf
          refine br_mk (fun hv => ?_) (fun hv => ?_)
          · have hv : (i : Int) < R := by simpa using hv
            omega
          conv => whnf
          refine br_mk (fun hv => ?_) (fun hv => ?_)
          rotate_left
          · exact absurd hv (by simp; exact hdue)
          conv => whnf
          refine br_mk (fun hv => ?_) (fun hv => ?_)
          rotate_left
          · exact absurd hv (by simp; exact hkR2)
          conv => whnf
          have hol : 0 < O.length - cntL O e := by omega
          refine br_mk (fun hv => ?_) (fun hv => ?_)
          · exact absurd hv (by simp; omega)
          conv => whnf
          obtain ⟨i3, c3, v1, v2⟩ := slo_get rO.is hol
          have hod : (O.drop (cntL O e)).getD 0 0 = e := by
            rw [List.getD_eq_getElem?_getD, List.getElem?_drop, Nat.add_zero, ← List.getD_eq_getElem?_getD]
            exact u2
          rw [hod] at v2
          refine ⟨i3, c3, 0, v1, rfl, hol, ?_⟩
          conv => whnf
          refine ⟨_, v2, ?_⟩
          conv => whnf
          refine br_mk (fun hv => ?_) (fun hv => ?_)
          · exact absurd hv (by simp)
          conv => whnf
          refine ⟨⟨_, rO.is⟩, 1, rfl, by omega, Nat.le_refl _, ?_⟩
          conv => whnf
          have rO := rO.cut (l := 1) (m := O.length - cntL O e) (by omega) (Nat.le_refl _)
          have hl1 : O.length - cntL O e - 1 = O.length - cntL O ((e + 1 : Nat) : Int) := by omega
          have hl2 : ((ints .i64 (O.drop (cntL O e))).drop (1 * 1)).take ((O.length - cntL O e - 1) * 1) = ints .i64 (O.drop (cntL O ((e + 1 : Nat) : Int))) := by
            rw [Nat.mul_one, Nat.mul_one, ints_drop, ints_take, List.drop_drop, u3]
            congr 1
            exact List.take_of_length_le (by rw [List.length_drop]; omega)
          rw [hl2, hl1] at rO
          rw [hl1]
          have bS0 := bS
          obtain ⟨bms, g1, g2⟩ := bS
          refine ⟨encM i64V bms, g1, ?_⟩
          conv => whnf
          have em := mdel_enc i64V (e : Int) bms
          obtain ⟨t1, t2⟩ := bS0.turn (g2.del (e : Int) (delS_get ((encM_asc Prod.fst).2 (bgE_asc gZ0.asc e)) (e : Int)))
          rw [← em] at t1 t2
          rw [encM_del, ← qB] at t1
          have bS := t1
          have tS := tS.get t2 (fun k => hb1 k.symm) (fun k => hb2 k.symm)
          have rA := rA.get t2
          have rO := rO.get t2
          have ro := ro.get t2
          have so := so.get t2
          rw [← qA]
          exact ⟨_, Forget.cons rfl (Forget.cons rfl (Forget.cons rfl (Forget.cons rfl (Forget.cons rfl (Forget.cons rfl (Forget.cons rfl (Forget.cons rfl (Forget.cons rfl (Forget.cons rfl (Forget.nil _)))))))))), ⟨e + 1, _, _, _, hy, succ_i64 hy (by omega), rfl, tS, bS, rA, rO, ro, so, rfl⟩, mu_lt (m := 6) hy (by omega)⟩
      · have eA : agZ R now ((e : Int), s, i) = false := by
          show (decide (Dn s i = now) && decide ((i : Int) < R)) = false
          rw [decide_eq_false hdue]; rfl
        have eO : ovZ R now ((e : Int), s, i) = false := by
          show (decide (Dn s i = now) && !decide ((i : Int) < R)) = false
          rw [decide_eq_false hdue]; rfl
        have qA := cnt_out aA (fun hm => by rw [iA.1 hm] at eA; cases eA)
        have qO := cnt_out aO (fun hm => by rw [iO.1 hm] at eO; cases eO)
        have qB := bgE_same (R := R) (now := now) (fun v hv => by
          rw [hz] at hv
          injection hv with hv
          rw [← hv]
          exact eO) gZ0.asc
        rw [← hcs] at qA qO qB
        refine br_mk (fun hv => ?_) (fun hv => ?_)
        · have hv : Dn s i = now := by simpa using hv
          omega
        conv => whnf
        refine br_mk (fun hv => ?_) (fun hv => ?_)
        · have hv : Dn s i = now := by simpa using hv
          omega
        conv => whnf
        rw [← qB] at bS
        rw [← qO] at rO
        rw [← qA, ← qO]
        exact ⟨_, Forget.cons rfl (Forget.cons rfl (Forget.cons rfl (Forget.cons rfl (Forget.cons rfl (Forget.cons rfl (Forget.cons rfl (Forget.cons rfl (Forget.cons rfl (Forget.cons rfl (Forget.nil _)))))))))), ⟨e + 1, _, _, _, hy, succ_i64 hy (by omega), rfl, tS, bS, rA, rO, ro, so, rfl⟩, mu_lt (m := 6) hy (by omega)⟩
  conv => whnf
  have hy : e = 6 := by
    have : ¬ (e : Int) < 6 := by simpa using hy
    omega
  subst hy
  have hA6 : cntL A ((6 : Nat) : Int) = A.length := cnt_all (fun x hx => (rngA x hx).2)
  have hO6 : cntL O ((6 : Nat) : Int) = O.length := cnt_all (fun x hx => (rngO x hx).2)
  rw [hA6, hO6, Nat.sub_self]
  refine br_mk (fun hv => ?_) (fun hv => ?_)
  · exact absurd hv (by simp)
  conv => whnf
  refine (len25 tS).mono ?_
  rintro _ hL ⟨eh, rfl⟩
  subst eh
  conv => whnf
  have eB : encM Prod.fst (bgE R now Z ((6 : Nat) : Int)) = encM Prod.fst (Z.filterMap (gZ R now)) := by
    rw [ev4]
    congr 1
    exact bgE_six (fun z hz => (gZ0.all z hz).2.1)
  rw [eB] at bS
  have bS0 := bS
  obtain ⟨bms, g1, g2⟩ := bS
  refine ⟨true, _, g1, ?_⟩
  have hlB : (mpE .i64 (encM i64V bms)).length = (encM f1 (Z.filterMap (gZ R now))).length := by
    rw [mpE, List.length_map, encM_length, g2.length ((encM_asc Prod.fst).2 gnx.asc), encM_length, encM_length]
  rw [hlB]
  conv => whnf
  refine br_mk (fun hv => ?_) (fun hv => ?_)
  · exact absurd hv (by simp)
  conv => whnf
  have e1 : IntKind.i64.wrap (now + 1) = now + 1 := wrap_i64 (by omega) (by omega)
  rw [e1]
  refine ⟨_, Forget.cons rfl (Forget.cons rfl (Forget.cons rfl (Forget.cons rfl (Forget.cons rfl (Forget.cons rfl (Forget.nil _)))))), ⟨now + 1, _, by omega, by omega, gnx, tS, bS0, ro, so, rfl⟩, ?_⟩
  show (120 - (now + 1)).toNat < (120 - now).toNat
  omega
end Go.Proofs.Ytpefdmidfllhoaa
