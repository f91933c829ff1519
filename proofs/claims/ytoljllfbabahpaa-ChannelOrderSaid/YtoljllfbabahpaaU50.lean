/- ChannelOrder: its walk. -/
import Derived.Test.YtoljllfbabahpaaV4
set_option linter.unusedVariables false
namespace Go.Proofs.Ytoljllfbabahpaa
open Go Go.Ab
set_option maxHeartbeats 32000000 in
set_option maxRecDepth 20000 in
theorem order13 {h : H} {pb pa : Option (Nat × Nat)} {bs : List (List Int)} {la : Nat} {ps : List (Int × Int)} (rb : Rws h pb bs) (ob : ∀ b ∈ bs, Oct b) (ra : RoSl h pa la 2 (pairs .i64 ps)) (Wn back : Int) : ACalls Try.prog 13 [i64 Wn, .sl pb bs.length, i64 back, .sl pa la] h (fun r _ => r = .bool true) := by
  refine call_ Try.func13 rfl rfl (by kernel_rfl) ?_
  conv => whnf
  refine br_mk (fun ha => ?_) (fun ha => ?_)
  · conv => whnf
    refine (awake15 _).mono ?_
    rintro _ h1 rfl
    conv => whnf
  conv => whnf
  have ha : ¬ (Wn < 1) := by simpa using ha
  refine br_mk (fun hb => ?_) (fun hb => ?_)
  · conv => whnf
    refine (awake15 _).mono ?_
    rintro _ h1 rfl
    conv => whnf
  conv => whnf
  have hb : ¬ (Wn > 16) := by simpa using hb
  refine br_mk (fun hc => ?_) (fun hc => ?_)
  · conv => whnf
    refine (awake15 _).mono ?_
    rintro _ h1 rfl
    conv => whnf
  conv => whnf
  have hc : ¬ ((bs.length : Int) > 25) := by simpa using hc
  refine br_mk (fun hd => ?_) (fun hd => ?_)
  · conv => whnf
    refine (awake15 _).mono ?_
    rintro _ h1 rfl
    conv => whnf
  conv => whnf
  have hd : ¬ (back < 0) := by simpa using hd
  refine br_mk (fun he => ?_) (fun he => ?_)
  · conv => whnf
    refine (awake15 _).mono ?_
    rintro _ h1 rfl
    conv => whnf
  conv => whnf
  have he : ¬ (back > 25) := by simpa using he
  refine br_mk (fun hf => ?_) (fun hf => ?_)
  · conv => whnf
    refine (awake15 _).mono ?_
    rintro _ h1 rfl
    conv => whnf
  conv => whnf
  have hf : ¬ ((la : Int) > 80) := by simpa using hf
  obtain ⟨ok, ph0, ti0⟩ := new_ph (W := Wn) (by omega) (by omega)
  obtain ⟨nk, hnk⟩ : ∃ nk : Nat, back = (nk : Int) := ⟨back.toNat, by omega⟩
  subst hnk
  obtain ⟨gm, a0, n0⟩ := lay_row (h := h) (sz := 6) [i64 0, i64 0, i64 0, i64 0, i64 0, i64 0] (⟨1, Wn, 20, 50, 1000, 5⟩ : Cfg).cells
  refine ⟨_, _, gm, Nat.le_of_ble_eq_true rfl, ?_⟩
  conv => whnf
  refine ⟨(⟨1, Wn, 20, 50, 1000, 5⟩ : Cfg).cells, Cells.mk a0 (Nat.le_of_ble_eq_true rfl) rfl, ?_⟩
  conv => whnf
  refine (cNew _ ⟨1, Wn, 20, 50, 1000, 5⟩ 1).mono ?_
  rintro _ h1 q
  obtain ⟨da, rfl, s1, hda, m1⟩ := newC_yes q ok
  clear q
  have a1 := m1.get a0 (.inl (fun k => k))
  conv => whnf
  refine ⟨_, rfl, ?_⟩
  conv => whnf
  refine ⟨_, rfl, ?_⟩
  conv => whnf
  refine ⟨(⟨1, Wn, 20, 50, 1000, 5⟩ : Cfg).cells, Cells.mk a1 (Nat.le_of_ble_eq_true rfl) rfl, ?_⟩
  conv => whnf
  refine (cNew _ ⟨1, Wn, 20, 50, 1000, 5⟩ 1).mono ?_
  rintro _ h2 q
  obtain ⟨db, rfl, s2, hdb, m2⟩ := newC_yes q ok
  clear q
  conv => whnf
  refine ⟨_, rfl, ?_⟩
  conv => whnf
  refine ⟨_, rfl, ?_⟩
  conv => whnf
  have w0 := WO.new s1 hda m1 s2 hdb m2
  have rb := ((rb.get n0).get m1).get m2
  have ra := ((ra.get n0).get m1).get m2
  obtain ⟨D, hD⟩ : ∃ D : Bool → CId, D = bsel da db := ⟨_, rfl⟩
  have hD0 : V.ptr (some (da.c, 0)) = cPtr D false := by rw [hD]; rfl
  have hD1 : V.ptr (some (db.c, 0)) = cPtr D true := by rw [hD]; rfl
  rw [← hD] at w0
  have eV : bsel (CV.new ⟨1, Wn, 20, 50, 1000, 5⟩ 1) (CV.new ⟨1, Wn, 20, 50, 1000, 5⟩ 1) = fun _ => CV.new ⟨1, Wn, 20, 50, 1000, 5⟩ 1 := by
    funext k
    cases k <;> rfl
  rw [eV] at w0
  have mA := Mod.push none_ h2 (.row true 2 [.ptr none, .ptr none])
  have mB : Ab.Mod none_ h2 ((h2.push (.row true 2 [.ptr none, .ptr none])).set h2.next (prow (cPtr D))) := (lay_row (h := h2) (sz := 2) [.ptr none, .ptr none] (pair (cPtr D))).2.2
  have eP : (h2.push (.row true 2 [.ptr none, .ptr none])).set h2.next (prow (cPtr D)) = h2.push (prow (cPtr D)) := by
    refine H.ext' rfl (funext fun i => ?_)
    by_cases e : i = h2.next
    · subst e
      rw [H.obj_set_same (H.obj_push_new h2 _), H.obj_push_new]
    · rw [H.obj_set_ne _ _ e, H.obj_push_old _ e, H.obj_push_old _ e]
  refine ⟨_, _, H.obj_push_new h2 _, Nat.le_of_ble_eq_true rfl, ?_⟩
  conv => whnf
  have rb := ((rb.get mB).get (Mod.push none_ _ (prow fun _ => .sl none 0))).get (Mod.push none_ _ (prow fun _ => .sl none 0))
  have ra := ((ra.get mB).get (Mod.push none_ _ (prow fun _ => .sl none 0))).get (Mod.push none_ _ (prow fun _ => .sl none 0))
  rw [← eP] at w0
  have w0 : WO ((((h2.push (.row true 2 [.ptr none, .ptr none])).set h2.next (prow (cPtr D))).push (prow fun _ => .sl none 0)).push (prow fun _ => .sl none 0)) D h2.next (h2.next + 1) (h2.next + 1 + 1) (fun _ => none) (fun _ => CV.new ⟨1, Wn, 20, 50, 1000, 5⟩ 1) (fun _ => none) (fun _ => []) (rowB (fun _ => none) fun _ => []) (fun _ => none) (fun _ => []) (rowG (fun _ => none) fun _ => []) := w0
  have eD : prow (cPtr D) = .row true 2 [.ptr (some (da.c, 0)), .ptr (some (db.c, 0))] := by rw [hD]; rfl
  rw [eD] at w0 rb ra
  refine ⟨fun env hk => ∃ (j : Nat) (zj : Int) (B : Bool → List (List Int)) (o : OS) (a : Bool → Int) (PC PB PG : Bool → Option (Nat × Nat)), j ≤ bs.length ∧ zj = j ∧ WO hk D h2.next (h2.next + 1) (h2.next + 1 + 1) PC o.W PB o.L (rowB PB o.L) PG o.G (rowG PG o.G) ∧ PH Wn B o a ∧ B false = bs.take j ∧ B true = [] ∧ (∀ k, TSI (o.W k).s) ∧ cnt2 o ≤ j ∧ Rws hk pb bs ∧ RoSl hk pa la 2 (pairs .i64 ps) ∧ env = [(18, i64 zj), (17, i64 0), (1, .sl pb bs.length), (2, i64 (nk : Int)), (3, .sl pa la), (10, .ptr (some (da.c, 0))), (12, .ptr (some (db.c, 0))), (14, .ptr (some (h2.next, 0))), (15, .ptr (some (h2.next + 1, 0))), (16, .ptr (some (h2.next + 1 + 1, 0)))],
    fun env _ => match get env 18 with
      | .int _ z => ((bs.length : Int) - z).toNat
      | _ => 0, ⟨_, Forget.cons rfl (Forget.cons rfl (Forget.cons rfl (Forget.cons rfl (Forget.cons rfl (Forget.cons rfl (Forget.cons rfl (Forget.cons rfl (Forget.cons rfl (Forget.cons rfl (Forget.nil _)))))))))), 0, _, (fun _ => []), ⟨fun _ => CV.new ⟨1, Wn, 20, 50, 1000, 5⟩ 1, fun _ => [], fun _ => []⟩, (fun _ => 0), _, _, _, Nat.zero_le _, rfl, w0, ph0, rfl, rfl, fun _ => ti0, Nat.le_refl _, rb, ra, rfl⟩, ?_⟩
  clear eD
  clear w0 rb ra mA mB eP s1 s2 hda hdb a1 a0 gm n0 eV m1 m2 ph0
  generalize h2.next = a14
  rintro _ hz ⟨j, zj, B, o, a, PC, PB, PG, hj, rfl, w, ph, hB0, hB1, ti, hcn, rb, ra, rfl⟩
  conv => whnf
  refine br_mk (fun hx => ?_) (fun hx => ?_)
  · have hx : j < bs.length := by simpa using hx
    conv => whnf
    obtain ⟨i1, c1, p1, x1, x2, x3⟩ := rb.cell hx
    refine ⟨i1, c1, j, x1, rfl, hx, ?_⟩
    conv => whnf
    refine ⟨_, x2, ?_⟩
    conv => whnf
    refine br_mk (fun hy => ?_) (fun hy => ?_)
    · conv => whnf
      refine (awake15 _).mono ?_
      rintro _ h1 rfl
      conv => whnf
    have hy : (bs[j]).length ≤ 40 := by
      have : ¬ ((bs[j]).length : Int) > 40 := by simpa using hy
      omega
    conv => whnf
    refine ⟨i1, c1, j, x1, rfl, hx, ?_⟩
    conv => whnf
    refine ⟨_, x2, ?_⟩
    conv => whnf
    have hbj : (B false).length < 25 := by rw [hB0, List.length_take]; omega
    obtain ⟨r1, r2, r3, r4⟩ := ph.room false
    obtain ⟨_, e0, cn⟩ := ph.iv.psh false (b := bs[j]) (by omega) r4
    have ph2 := ph.psh false (b := bs[j]) (by omega) (ob _ (List.getElem_mem hx)) hbj
    have ti2 := tsi_psh ti false bs[j]
    refine (cPush (d := da) (by have := w.chan false; rw [hD] at this; exact this) (ph.ck false) (by omega) (now := 0) (by decide) (by decide) x3.is (by omega)).mono ?_
    rintro _ h3 ⟨q3, pc3, rfl, g3, s3, hp3, m3⟩
    have hDa : D false = da := by rw [hD]; rfl
    rw [← hDa] at s3 m3
    have w3 := w.turnC false s3 m3 hp3
    rw [e0]
    conv => whnf
    refine ⟨_, rfl, ?_⟩
    conv => whnf
    refine ⟨_, rfl, ?_⟩
    conv => whnf
    have K := cn
    rw [cnt2_at _ false] at K
    have l1 : (psh o false bs[j]).L false = o.L false ++ (pushV (o.W false) 0 bs[j]).1.1 := show updB o.L false (o.L false ++ (pushV (o.W false) 0 bs[j]).1.1) false = _ from updB_same _ _ _
    rw [l1, List.length_append] at K
    refine ⟨0, rfl, by decide, ?_⟩
    conv => whnf
    refine ⟨_, Cell.mk w3.r15 (pair_at _ false), ?_⟩
    conv => whnf
    obtain ⟨xs9, ys9, y1, y2, y3⟩ := (w3.bag false).app g3
    refine ⟨_, _, y1, y2, by rw [show (T.at_ 35).bytes = 64 from rfl]; omega, by omega, fun p9 h9 hs9 hm9 hf9 => ?_⟩
    obtain ⟨b9, f9⟩ := y3 p9 h9 hs9 hm9 hf9
    have w9 := w3.turnB false b9 hm9 f9
    conv => whnf
    refine ⟨0, rfl, kn_lt false, ?_⟩
    conv => whnf
    refine ⟨_, _, w9.r15, pair_fit false, ?_⟩
    conv => whnf
    obtain ⟨wA, mS⟩ := w9.set15 false (.sl p9 ((o.L false).length + ((pushV (o.W false) 0 bs[j]).1.1).length))
    have eR : updB (rowB PB o.L) false (.sl p9 ((o.L false).length + ((pushV (o.W false) 0 bs[j]).1.1).length)) = rowB (updB PB false p9) (updB o.L false (o.L false ++ (pushV (o.W false) 0 bs[j]).1.1)) := by
      rw [show (o.L false).length + ((pushV (o.W false) 0 bs[j]).1.1).length = (o.L false ++ (pushV (o.W false) 0 bs[j]).1.1).length from List.length_append.symm]
      exact rowB_upd _ _ _ _ _
    rw [eR] at wA
    have rb := ((rb.get m3).get hm9).get mS
    have ra := ((ra.get m3).get hm9).get mS
    rw [wrap_i64 (x := (j : Int) + 1) (by omega) (by omega)]
    refine ⟨_, Forget.cons rfl (Forget.cons rfl (Forget.cons rfl (Forget.cons rfl (Forget.cons rfl (Forget.cons rfl (Forget.cons rfl (Forget.cons rfl (Forget.cons rfl (Forget.cons rfl (Forget.nil _)))))))))), ⟨j + 1, _, _, psh o false bs[j], _, _, _, _, by omega, by omega, wA, ph2, ?_, ?_, ti2, by omega, rb, ra, rfl⟩, ?_⟩
    · rw [updB_same, hB0, List.take_add_one, List.getElem?_eq_getElem hx]
      rfl
    · rw [updB_ne _ _ (by decide)]
      exact hB1
    · show ((bs.length : Int) - ((j : Int) + 1)).toNat < ((bs.length : Int) - (j : Int)).toNat
      omega
  have hx : j = bs.length := by
    have : ¬ (j : Int) < bs.length := by simpa using hx
    omega
  subst hx
  rw [List.take_length] at hB0
  conv => whnf
  refine ⟨fun env hk => ∃ (j : Nat) (zj : Int) (B : Bool → List (List Int)) (o : OS) (a : Bool → Int) (PC PB PG : Bool → Option (Nat × Nat)), j ≤ nk ∧ zj = j ∧ WO hk D a14 (a14 + 1) (a14 + 1 + 1) PC o.W PB o.L (rowB PB o.L) PG o.G (rowG PG o.G) ∧ PH Wn B o a ∧ B false = bs ∧ B true = bts j ∧ (∀ k, TSI (o.W k).s) ∧ cnt2 o ≤ 25 + j ∧ Rws hk pb bs ∧ RoSl hk pa la 2 (pairs .i64 ps) ∧ env = [(21, i64 zj), (17, i64 0), (1, .sl pb bs.length), (2, i64 (nk : Int)), (3, .sl pa la), (12, .ptr (some (db.c, 0))), (14, .ptr (some (a14, 0))), (15, .ptr (some (a14 + 1, 0))), (16, .ptr (some (a14 + 1 + 1, 0)))],
    fun env _ => match get env 21 with
      | .int _ z => ((nk : Int) - z).toNat
      | _ => 0, ⟨_, Forget.cons rfl (Forget.cons rfl (Forget.cons rfl (Forget.cons rfl (Forget.cons rfl (Forget.cons rfl (Forget.cons rfl (Forget.cons rfl (Forget.cons rfl (Forget.nil _))))))))), 0, _, B, o, a, _, _, _, Nat.zero_le _, rfl, w, ph, hB0, hB1, ti, by omega, rb, ra, rfl⟩, ?_⟩
  clear w ph hB0 hB1 ti hcn rb ra hj
  rintro _ hz ⟨j, zj, B, o, a, PC, PB, PG, hj, rfl, w, ph, hB0, hB1, ti, hcn, rb, ra, rfl⟩
  conv => whnf
  refine br_mk (fun hx => ?_) (fun hx => ?_)
  · have hx : j < nk := by simpa using hx
    conv => whnf
    rw [u8_sm (x := (j : Int)) (by omega) (by omega)]
    obtain ⟨l2, n2⟩ := laid_oct hz [(j : Int)]
    have w := w.old n2
    have hoj : Oct [(j : Int)] := fun x hx2 => by
      have : x = (j : Int) := by simpa using hx2
      omega
    have hbj : (B true).length < 25 := by rw [hB1, bts_len]; omega
    obtain ⟨r1, r2, r3, r4⟩ := ph.room true
    obtain ⟨_, e0, cn⟩ := ph.iv.psh true (b := [(j : Int)]) (by simp) r4
    have ph2 := ph.psh true (b := [(j : Int)]) (by simp) hoj hbj
    have ti2 := tsi_psh ti true [(j : Int)]
    refine (cPush (d := db) (by have := w.chan true; rw [hD] at this; exact this) (ph.ck true) (by omega) (now := 0) (by decide) (by decide) l2 (by simp)).mono ?_
    rintro _ h3 ⟨q3, pc3, rfl, g3, s3, hp3, m3⟩
    have hDb : D true = db := by rw [hD]; rfl
    rw [← hDb] at s3 m3
    have w3 := w.turnC true s3 m3 hp3
    rw [e0]
    conv => whnf
    refine ⟨_, rfl, ?_⟩
    conv => whnf
    refine ⟨_, rfl, ?_⟩
    conv => whnf
    have K := cn
    rw [cnt2_at _ true] at K
    have l1 : (psh o true [(j : Int)]).L true = o.L true ++ (pushV (o.W true) 0 [(j : Int)]).1.1 := show updB o.L true (o.L true ++ (pushV (o.W true) 0 [(j : Int)]).1.1) true = _ from updB_same _ _ _
    rw [l1, List.length_append] at K
    refine ⟨1, rfl, by decide, ?_⟩
    conv => whnf
    refine ⟨_, Cell.mk w3.r15 (pair_at _ true), ?_⟩
    conv => whnf
    obtain ⟨xs9, ys9, y1, y2, y3⟩ := (w3.bag true).app g3
    refine ⟨_, _, y1, y2, by rw [show (T.at_ 35).bytes = 64 from rfl]; omega, by omega, fun p9 h9 hs9 hm9 hf9 => ?_⟩
    obtain ⟨b9, f9⟩ := y3 p9 h9 hs9 hm9 hf9
    have w9 := w3.turnB true b9 hm9 f9
    conv => whnf
    refine ⟨1, rfl, kn_lt true, ?_⟩
    conv => whnf
    refine ⟨_, _, w9.r15, pair_fit true, ?_⟩
    conv => whnf
    obtain ⟨wA, mS⟩ := w9.set15 true (.sl p9 ((o.L true).length + ((pushV (o.W true) 0 [(j : Int)]).1.1).length))
    have eR : updB (rowB PB o.L) true (.sl p9 ((o.L true).length + ((pushV (o.W true) 0 [(j : Int)]).1.1).length)) = rowB (updB PB true p9) (updB o.L true (o.L true ++ (pushV (o.W true) 0 [(j : Int)]).1.1)) := by
      rw [show (o.L true).length + ((pushV (o.W true) 0 [(j : Int)]).1.1).length = (o.L true ++ (pushV (o.W true) 0 [(j : Int)]).1.1).length from List.length_append.symm]
      exact rowB_upd _ _ _ _ _
    rw [eR] at wA
    have rb := (((rb.get n2).get m3).get hm9).get mS
    have ra := (((ra.get n2).get m3).get hm9).get mS
    rw [wrap_i64 (x := (j : Int) + 1) (by omega) (by omega)]
    refine ⟨_, Forget.cons rfl (Forget.cons rfl (Forget.cons rfl (Forget.cons rfl (Forget.cons rfl (Forget.cons rfl (Forget.cons rfl (Forget.cons rfl (Forget.cons rfl (Forget.nil _))))))))), ⟨j + 1, _, _, psh o true [(j : Int)], _, _, _, _, by omega, by omega, wA, ph2, ?_, ?_, ti2, by omega, rb, ra, rfl⟩, ?_⟩
    · rw [updB_ne _ _ (by decide)]
      exact hB0
    · rw [updB_same, hB1, bts_succ]
    · show ((nk : Int) - ((j : Int) + 1)).toNat < ((nk : Int) - (j : Int)).toNat
      omega
  have hx : nk = j := by
    have : ¬ (j : Int) < nk := by simpa using hx
    omega
  subst hx
  conv => whnf
  clear hj
  refine ⟨fun env hk => ∃ (i : Nat) (zi now : Int) (o : OS) (a : Bool → Int) (PC PB PG : Bool → Option (Nat × Nat)), i ≤ la + 400 ∧ zi = i ∧ WO hk D a14 (a14 + 1) (a14 + 1 + 1) PC o.W PB o.L (rowB PB o.L) PG o.G (rowG PG o.G) ∧ PH Wn B o a ∧ ((i ≤ la ∧ now = 0 ∧ (∀ k, TSI (o.W k).s) ∧ cnt2 o ≤ 50 + i) ∨ (la < i ∧ now = 1000 ∧ cnt2 o ≤ 200 ∧ fin B (visN (400 + la - i) (par i) o))) ∧ Rws hk pb bs ∧ RoSl hk pa la 2 (pairs .i64 ps) ∧ env = [(24, i64 zi), (17, i64 now), (1, .sl pb bs.length), (2, i64 (nk : Int)), (3, .sl pa la), (14, .ptr (some (a14, 0))), (15, .ptr (some (a14 + 1, 0))), (16, .ptr (some (a14 + 1 + 1, 0)))],
    fun env _ => match get env 24 with
      | .int _ z => ((la : Int) + 400 - z).toNat
      | _ => 0, ⟨_, Forget.cons rfl (Forget.cons rfl (Forget.cons rfl (Forget.cons rfl (Forget.cons rfl (Forget.cons rfl (Forget.cons rfl (Forget.cons rfl (Forget.nil _)))))))), 0, _, 0, o, a, _, _, _, Nat.zero_le _, rfl, w, ph, .inl ⟨Nat.zero_le _, rfl, ti, by omega⟩, rb, ra, rfl⟩, ?_⟩
  clear w ph ti hcn rb ra
  rintro _ hz ⟨i, zi, now, o, a, PC, PB, PG, hi, rfl, w, ph, hp, rb, ra, rfl⟩
  conv => whnf
  rw [wrap_i64 (x := (la : Int) + 400) (by omega) (by omega)]
  refine br_mk (fun hx => ?_) (fun hx => ?_)
  rotate_left
  · conv => whnf
    have hx : i = la + 400 := by
      have : ¬ (i : Int) < (la : Int) + 400 := by simpa using hx
      omega
    have hf : fin B o := by
      rcases hp with ⟨q, _⟩ | ⟨_, _, _, q⟩
      · omega
      · rw [hx, show 400 + la - (la + 400) = 0 by omega] at q
        exact q
    have e1 := ph.end_ hf false
    have e2 := ph.end_ hf true
    rw [hB0] at e1
    rw [hB1, bts_len] at e2
    have e1 : (o.G true).length = bs.length := e1
    have e2 : (o.G false).length = nk := e2
    refine ⟨1, rfl, by decide, ?_⟩
    conv => whnf
    refine ⟨_, Cell.mk w.r16 (pair_at _ true), ?_⟩
    conv => whnf
    rw [e1]
    refine br_mk (fun hI => ?_) (fun hI => ?_)
    rotate_left
    · exact absurd hI (by simp)
    conv => whnf
    refine ⟨0, rfl, by decide, ?_⟩
    conv => whnf
    refine ⟨_, Cell.mk w.r16 (pair_at _ false), ?_⟩
    conv => whnf
    rw [e2]
    refine br_mk (fun hI => ?_) (fun hI => ?_)
    rotate_left
    · exact absurd hI (by simp)
    conv => whnf
    refine (awake15 _).mono ?_
    rintro _ h1 rfl
    conv => whnf
  have hx : i < la + 400 := by
    have : (i : Int) < (la : Int) + 400 := by simpa using hx
    omega
  conv => whnf
  refine ⟨by decide, ?_⟩
  rw [tmod_two]
  conv => whnf
  refine br_mk (fun hy => ?_) (fun hy => ?_)
  · have hy : i < la := by simpa using hy
    have hy2 : (i : Int) < (la : Int) := by omega
    obtain ⟨ti, hcn, rfl⟩ : (∀ k, TSI (o.W k).s) ∧ cnt2 o ≤ 50 + i ∧ now = 0 := by
      rcases hp with ⟨_, q1, q2, q3⟩ | ⟨q, _⟩
      · exact ⟨q2, q3, q1⟩
      · omega
    conv => whnf
    obtain ⟨i1, c1, x1, x2, x3⟩ := pairs_cell ra hy
    refine ⟨[0, 1, 2, 3, 4, 6, 7, 8, 9, 10, 5, 11, 12], [0, 0, 3, 7, 15, 31, 0, 0, 192, 448, 960, 63, 4095], by kernel_rfl, ?_⟩
    conv => whnf
    refine ⟨i1, c1, i, x1, rfl, hy, ?_⟩
    conv => whnf
    refine ⟨0, rfl, by decide, ?_⟩
    conv => whnf
    refine ⟨_, x2, ?_⟩
    conv => whnf
    refine ⟨i1, c1, i, x1, rfl, hy, ?_⟩
    conv => whnf
    refine ⟨1, rfl, by decide, ?_⟩
    conv => whnf
    refine ⟨_, x3, ?_⟩
    conv => whnf
    refine (round19 (m := 2) (by decide) (by decide) _ _).mono ?_
    rintro _ h2 ⟨eh, rfl⟩
    subst eh
    conv => whnf
    refine ⟨⟨_, x3, rfl⟩, ?_⟩
    obtain ⟨k, hk⟩ := kn_of (z := (ps.getD i (0, 0)).1 % 2) (Int.emod_nonneg _ (by decide)) (Int.emod_lt_of_pos _ (by decide))
    rw [hk]
    generalize (ps.getD i (0, 0)).2 = nn
    conv => whnf
    refine ⟨kn k, rfl, kn_lt _, ?_⟩
    conv => whnf
    refine ⟨_, Cell.mk w.r15 (pair_at _ k), ?_⟩
    conv => whnf
    refine br_mk (fun hq => ?_) (fun hq => ?_)
    · conv => whnf
      rw [wrap_i64 (x := (i : Int) + 1) (by omega) (by omega)]
      refine ⟨_, Forget.cons rfl (Forget.cons rfl (Forget.cons rfl (Forget.cons rfl (Forget.cons rfl (Forget.cons rfl (Forget.cons rfl (Forget.cons rfl (Forget.nil _)))))))), ⟨i + 1, _, 0, o, a, _, _, _, by omega, by omega, w, ph, (.inl ⟨by omega, rfl, ti, by omega⟩), rb, ra, rfl⟩, ?_⟩
      show ((la : Int) + 400 - ((i : Int) + 1)).toNat < ((la : Int) + 400 - (i : Int)).toNat
      omega
    have hq : 0 < (o.L k).length := by
      have : ¬ ((o.L k).length : Int) = 0 := by simpa using hq
      omega
    conv => whnf
    rw [decide_eq_true hy2]
    conv => whnf
    refine ⟨by decide, ?_⟩
    conv => whnf
    refine ⟨kn k, rfl, kn_lt _, ?_⟩
    conv => whnf
    refine ⟨_, Cell.mk w.r15 (pair_at _ k), ?_⟩
    conv => whnf
    have hlk : (o.L k).length ≤ 200 := by
      have := cnt2_at o k
      omega
    refine (round19 (m := ((o.L k).length : Int)) (by omega) (by omega) _ _).mono ?_
    rintro _ h2 ⟨eh, rfl⟩
    subst eh
    generalize IntKind.i64.wrap (nn.tdiv 4) = ww
    have hr0 := Int.emod_nonneg ww (show ((o.L k).length : Int) ≠ 0 by omega)
    have hr1 := Int.emod_lt_of_pos ww (show (0 : Int) < ((o.L k).length : Int) by omega)
    obtain ⟨b, hbb⟩ : ∃ b : Nat, ww % ((o.L k).length : Int) = (b : Int) := ⟨(ww % ((o.L k).length : Int)).toNat, by omega⟩
    rw [hbb] at hr0 hr1 ⊢
    have hal : b < (o.L k).length := by omega
    conv => whnf
    refine ⟨kn k, rfl, kn_lt _, ?_⟩
    conv => whnf
    refine ⟨_, Cell.mk w.r15 (pair_at _ k), ?_⟩
    conv => whnf
    obtain ⟨i3, c3, p3, y1, y2, y4⟩ := (w.bag k).cell hal
    refine ⟨i3, c3, b, y1, rfl, hal, ?_⟩
    conv => whnf
    refine ⟨_, y2, ?_⟩
    conv => whnf
    obtain ⟨gm31, b31, m31⟩ := lay_row (h := h2) (sz := 6) [i64 0, i64 0, i64 0, i64 0, i64 0, .sl none 0] (gC ((o.L k)[b], p3))
    refine ⟨_, _, gm31, Nat.le_of_ble_eq_true rfl, ?_⟩
    conv => whnf
    have nxc : ∀ k, ¬ chAll (D k) (PC k) h2.next := fun k q => Nat.lt_irrefl _ ((w.chan k).lt q)
    have nxa : ¬ h2.next = a14 + 1 := fun q => by
      have := h2.lt _ _ w.r15
      omega
    obtain ⟨a31, ha31⟩ : ∃ x, x = h2.next := ⟨_, rfl⟩
    rw [← ha31] at nxc nxa
    have w5 := w.old m31
    have rb5 := rb.get m31
    have ra5 := ra.get m31
    have y4 := y4.get m31
    have gd : (o.L k).getD b gv0 = (o.L k)[b] := by rw [List.getD_eq_getElem?_getD, List.getElem?_eq_getElem hal]; rfl
    rw [decide_eq_true hy2]
    conv => whnf
    refine ⟨by decide, ?_⟩
    conv => whnf
    refine br_mk (fun hd => ?_) (fun hd => ?_)
    · conv => whnf
      refine ⟨[0, 1, 2, 3, 4, 5, 6, 7, 8], [0, 0, 2, 6, 0, 16, 62, 127, 255], by kernel_rfl, ?_⟩
      conv => whnf
      refine ⟨kn k, rfl, kn_lt _, ?_⟩
      conv => whnf
      refine ⟨_, Cell.mk w5.r15 (pair_at _ k), ?_⟩
      conv => whnf
      refine ⟨gC ((o.L k)[b], p3), Cells.mk b31 (Nat.le_of_ble_eq_true rfl) rfl, ?_⟩
      conv => whnf
      obtain ⟨xs, z1, z2, z3⟩ := (w5.bag k).app1 (show gOk ((h2.push (.row true 6 [i64 0, i64 0, i64 0, i64 0, i64 0, .sl none 0])).set h2.next (.row true 6 (gC ((o.L k)[b], p3)))) ((o.L k)[b], p3) from y4)
      refine ⟨_, _, z1, z2, by rw [show (T.at_ 35).bytes = 64 from rfl]; omega, by omega, fun p2 h6 hs6 hm6 hf6 => ?_⟩
      obtain ⟨b6, f6, m6⟩ := z3 p2 h6 hs6 hm6 hf6
      have w6 := w5.turnB k b6 m6 f6
      conv => whnf
      refine ⟨kn k, rfl, kn_lt k, ?_⟩
      conv => whnf
      refine ⟨_, _, w6.r15, pair_fit k, ?_⟩
      conv => whnf
      obtain ⟨w7, mS⟩ := w6.set15 k (.sl p2 ((o.L k).length + 1))
      have eR : updB (rowB PB o.L) k (.sl p2 ((o.L k).length + 1)) = rowB (updB PB k p2) (updB o.L k (o.L k ++ [(o.L k)[b]])) := by
        rw [← rowB_upd, List.length_append]
        rfl
      rw [eR] at w7
      have rb := (rb5.get m6).get mS
      have ra := (ra5.get m6).get mS
      have phD := ph.dup k hal
      have cnD := (ph.iv.dup k hal).2
      rw [← gd] at w7
      have w7 : WO _ D a14 (a14 + 1) (a14 + 1 + 1) PC (dup o k b).W (updB PB k p2) (dup o k b).L (rowB (updB PB k p2) (dup o k b).L) PG (dup o k b).G (rowG PG (dup o k b).G) := w7
      rw [wrap_i64 (x := (i : Int) + 1) (by omega) (by omega)]
      refine ⟨_, Forget.cons rfl (Forget.cons rfl (Forget.cons rfl (Forget.cons rfl (Forget.cons rfl (Forget.cons rfl (Forget.cons rfl (Forget.cons rfl (Forget.nil _)))))))), ⟨i + 1, _, 0, (dup o k b), a, _, _, _, by omega, by omega, w7, phD, (.inl ⟨by omega, rfl, ti, by omega⟩), rb, ra, rfl⟩, ?_⟩
      show ((la : Int) + 400 - ((i : Int) + 1)).toNat < ((la : Int) + 400 - (i : Int)).toNat
      omega
    conv => whnf
    have hOut := (w5.bag k).out hal
    obtain ⟨xs, ys, t1, t2, t3⟩ := hOut
    refine ⟨[0, 2, 3, 4, 5, 6, 8, 9, 10, 11, 12, 13, 1, 7, 14, 15, 16], [0, 0, 0, 4, 12, 0, 60, 126, 0, 256, 768, 0, 2048, 7936, 16382, 32767, 65535], by kernel_rfl, ?_⟩
    conv => whnf
    refine ⟨kn k, rfl, kn_lt _, ?_⟩
    conv => whnf
    refine ⟨_, Cell.mk w5.r15 (pair_at _ k), ?_⟩
    conv => whnf
    refine ⟨⟨_, (w5.bag k).row.weak⟩, b, rfl, Nat.zero_le _, Nat.le_of_lt hal, ?_⟩
    conv => whnf
    refine ⟨kn k, rfl, kn_lt _, ?_⟩
    conv => whnf
    refine ⟨_, Cell.mk w5.r15 (pair_at _ k), ?_⟩
    conv => whnf
    try rw [wrap_i64 (x := (b : Int) + 1) (by omega) (by omega)]
    refine ⟨⟨_, (w5.bag k).row.weak⟩, b + 1, (by first | rfl | omega), hal, Nat.le_refl _, ?_⟩
    conv => whnf
    obtain ⟨z1, z2, z3⟩ := app0 (h0 := hz) t1
    refine ⟨_, _, z1, z2, by rw [show (T.at_ 35).bytes = 64 from rfl]; omega, by omega, fun p1 h6 hs6 hm6 hf6 => ?_⟩
    obtain ⟨n6, mo6⟩ := z3 p1 h6 hs6 hm6 hf6
    have w6 := w5.old mo6
    have t2' := SlIs.old t2 mo6 (fun _ _ k => k)
    conv => whnf
    refine ⟨⟨⟨_, (w6.bag k).row.weak⟩, b + 1, (by first | rfl | omega), hal, Nat.le_refl _, rfl⟩, ?_⟩
    conv => whnf
    refine ⟨⟨_, Cell.mk w6.r15 (pair_at _ k), rfl⟩, ?_⟩
    conv => whnf
    rw [Nat.zero_add (b - 0)]
    refine ⟨_, _, n6.1, t2', by rw [show (T.at_ 35).bytes = 64 from rfl]; omega, by omega, fun p2 h7 hs7 hm7 hf7 => ?_⟩
    obtain ⟨n7, mo7⟩ := appN n6 mo6 p2 h7 hs7 hm7 hf7
    have bag7 := t3 hs7 none_ mo7
    have w7 := w5.turnB k bag7 (mo7.mono (fun _ _ k => k.elim)) (fun i ⟨o, e⟩ => .inr (n7.2 i o e))
    conv => whnf
    refine ⟨kn k, rfl, kn_lt _, ?_⟩
    conv => whnf
    refine ⟨_, _, w7.r15, pair_fit k, ?_⟩
    conv => whnf
    obtain ⟨wB, mS⟩ := w7.set15 k (.sl p2 (b - 0 + ((o.L k).length - (b + 1))))
    have eR : updB (rowB PB o.L) k (.sl p2 (b - 0 + ((o.L k).length - (b + 1)))) = rowB (updB PB k p2) (updB o.L k ((o.L k).eraseIdx b)) := by
      have e9 : ((o.L k).eraseIdx b).length = b - 0 + ((o.L k).length - (b + 1)) := by rw [List.length_eraseIdx_of_lt hal]; omega
      rw [← e9]
      exact rowB_upd _ _ _ _ _
    rw [eR] at wB
    have b31 : _ := mS.get (mo7.get b31 (.inl (fun k => k))) (.inl (by rw [← ha31]; exact nxa))
    have rbB := (rb5.get mo7).get mS
    have raB := (ra5.get mo7).get mS
    have y4 := (y4.get mo7).get mS
    rw [decide_eq_true hy2]
    conv => whnf
    refine ⟨by decide, ?_⟩
    conv => whnf
    refine br_mk (fun he => ?_) (fun he => ?_)
    · conv => whnf
      have phD := ph.drp k hal
      have cnD := (ph.iv.drp k hal).2
      have rb := rbB
      have ra := raB
      have w7 : WO _ D a14 (a14 + 1) (a14 + 1 + 1) PC (drp o k b).W (updB PB k p2) (drp o k b).L (rowB (updB PB k p2) (drp o k b).L) PG (drp o k b).G (rowG PG (drp o k b).G) := wB
      rw [wrap_i64 (x := (i : Int) + 1) (by omega) (by omega)]
      refine ⟨_, Forget.cons rfl (Forget.cons rfl (Forget.cons rfl (Forget.cons rfl (Forget.cons rfl (Forget.cons rfl (Forget.cons rfl (Forget.cons rfl (Forget.nil _)))))))), ⟨i + 1, _, 0, (drp o k b), a, _, _, _, by omega, by omega, w7, phD, (.inl ⟨by omega, rfl, ti, by omega⟩), rb, ra, rfl⟩, ?_⟩
      show ((la : Int) + 400 - ((i : Int) + 1)).toNat < ((la : Int) + 400 - (i : Int)).toNat
      omega
    conv => whnf
    have hcn2 : cnt2 o ≤ 200 := by omega
    have hgo := ph.go k _ (List.getElem_mem hal)
    have rm := ph.room (!k)
    obtain ⟨phF, hoct, hgl⟩ := ph.dlv k hal 0
    have cnF := ph.iv.cnt_dlv k hal 0
    have eR2 : recvV (o.W (!k)) 0 (o.L k)[b] = dlvR o k b 0 := by unfold dlvR; rw [gd]
    refine ⟨[0, 1, 2, 3, 4, 5, 6, 7, 8, 9, 10, 11], [0, 1, 3, 7, 0, 0, 63, 127, 255, 255, 511, 2047], by kernel_rfl, ?_⟩
    conv => whnf
    rw [kn_not]
    refine ⟨kn (!k), rfl, kn_lt _, ?_⟩
    conv => whnf
    refine ⟨_, Cell.mk wB.r14 (pair_at _ (!k)), ?_⟩
    conv => whnf
    refine ⟨gC ((o.L k)[b], p3), Cells.mk b31 (Nat.le_of_ble_eq_true rfl) rfl, ?_⟩
    conv => whnf
    refine (cRecv (g := (o.L k)[b]) (p := p3) (wB.chan (!k)) (ph.ck (!k)) (by omega) (by omega) (now := 0) (by decide) (by decide) (fun h' m => ((show RoSl _ _ _ _ _ from y4).get m).is) hgo.seq hgo.len).mono ?_
    rintro _ h3 ⟨qr, qa, pc3, rfl, rx, ga, s3, hp3, m3⟩
    have w3 := wB.turnC (!k) s3 m3 hp3
    rw [eR2] at rx ga w3 ⊢
    have rb := rbB.get m3
    have ra := raB.get m3
    obtain ⟨dw1, dw2⟩ := dlv_W o k b 0
    have hL3 : ((dlv o k b 0).L (!k)).length ≤ 200 := by
      have := cnt2_at (dlv o k b 0) k
      omega
    rw [(dlv_L o k b 0).2, List.length_append] at hL3
    have hG3 := phF.got k
    have hG4 := phF.got (!k)
    rw [Bool.not_not] at hG4
    have eG2 : (dlv o k b 0).G (!k) = o.G (!k) ++ (dlvR o k b 0).1.1 := (dlv_G o k b 0).2
    have hG5 := phF.bl k
    have hG6 : (o.G (!k)).length + (dlvR o k b 0).1.1.length ≤ 25 := by
      have := hG3.1
      rw [eG2, List.length_append] at this
      omega
    conv => whnf
    refine ⟨_, rfl, ?_⟩
    conv => whnf
    refine ⟨_, rfl, ?_⟩
    conv => whnf
    refine ⟨fun env hk => ∃ (j : Nat) (zj : Int) (PG2 : Bool → Option (Nat × Nat)), j ≤ (dlvR o k b 0).1.1.length ∧ zj = j ∧ WO hk D a14 (a14 + 1) (a14 + 1 + 1) (updB PC (!k) pc3) (updB o.W (!k) (dlvR o k b 0).2) (updB PB k p2) (updB o.L k ((o.L k).eraseIdx b)) (rowB (updB PB k p2) (updB o.L k ((o.L k).eraseIdx b))) PG2 (updB o.G (!k) (o.G (!k) ++ (dlvR o k b 0).1.1.take j)) (rowG PG2 (updB o.G (!k) (o.G (!k) ++ (dlvR o k b 0).1.1.take j))) ∧ Rws hk qr (dlvR o k b 0).1.1 ∧ Grams hk qa (dlvR o k b 0).1.2 ∧ Rws hk pb bs ∧ RoSl hk pa la 2 (pairs .i64 ps) ∧ env = [(34, i64 zj), (25, i64 (kn k : Int)), (24, i64 (i : Int)), (17, i64 0), (1, .sl pb bs.length), (2, i64 (nk : Int)), (3, .sl pa la), (14, .ptr (some (a14, 0))), (15, .ptr (some (a14 + 1, 0))), (16, .ptr (some (a14 + 1 + 1, 0))), (32, .sl qr (dlvR o k b 0).1.1.length), (33, .sl qa (dlvR o k b 0).1.2.length)],
      fun env _ => match get env 34 with
        | .int _ z => (((dlvR o k b 0).1.1.length : Int) - z).toNat
        | _ => 0, ⟨_, Forget.cons rfl (Forget.cons rfl (Forget.cons rfl (Forget.cons rfl (Forget.cons rfl (Forget.cons rfl (Forget.cons rfl (Forget.cons rfl (Forget.cons rfl (Forget.cons rfl (Forget.cons rfl (Forget.cons rfl (Forget.nil _)))))))))))), 0, _, PG, Nat.zero_le _, rfl, (by rw [List.take_zero, List.append_nil, updB_idem]; exact w3), rx, ga, rb, ra, rfl⟩, ?_⟩
    clear w3 rx ga rb ra
    rintro _ h4 ⟨j, zj, PG2, hj, rfl, w4, rx, ga, rb, ra, rfl⟩
    conv => whnf
    refine br_mk (fun hx3 => ?_) (fun hx3 => ?_)
    · have hx3 : j < (dlvR o k b 0).1.1.length := by simpa using hx3
      conv => whnf
      refine ⟨[0, 1, 2, 3, 4, 5, 6, 7, 8, 9, 10, 11, 12, 13, 14], [0, 1, 0, 4, 12, 28, 0, 0, 192, 448, 960, 1984, 4092, 8191, 16383], by kernel_rfl, ?_⟩
      conv => whnf
      rw [kn_not]
      refine ⟨kn (!k), rfl, kn_lt _, ?_⟩
      conv => whnf
      refine ⟨_, Cell.mk w4.r16 (pair_at _ (!k)), ?_⟩
      conv => whnf
      obtain ⟨i5, c5, p5, z1, z2, z3⟩ := rx.cell hx3
      refine ⟨i5, c5, j, z1, rfl, hx3, ?_⟩
      conv => whnf
      refine ⟨_, z2, ?_⟩
      conv => whnf
      refine ⟨_, z3.is, hoct _ (List.getElem_mem hx3), ?_⟩
      conv => whnf
      have hgt := w4.got (!k)
      obtain ⟨u1, u2, u3⟩ := Gts.app1 hgt ((dlvR o k b 0).1.1[j])
      have hgl4 : (updB o.G (!k) (o.G (!k) ++ (dlvR o k b 0).1.1.take j) (!k)).length ≤ 25 := by
        rw [updB_same, List.length_append, List.length_take]
        omega
      refine ⟨_, _, u1, u2, by rw [show (T.at_ 9).bytes = 16 from rfl]; omega, by omega, fun p6 h6 hs6 hm6 hf6 => ?_⟩
      obtain ⟨b6, f6, m6⟩ := u3 p6 h6 hs6 hm6 hf6
      have w6 := w4.turnG (!k) b6 m6 f6
      conv => whnf
      refine ⟨kn (!k), rfl, kn_lt _, ?_⟩
      conv => whnf
      refine ⟨_, _, w6.r16, pair_fit (!k), ?_⟩
      conv => whnf
      obtain ⟨w7, mS7⟩ := w6.set16 (!k) (.sl p6 ((updB o.G (!k) (o.G (!k) ++ (dlvR o k b 0).1.1.take j) (!k)).length + 1))
      have eG : updB (updB o.G (!k) (o.G (!k) ++ (dlvR o k b 0).1.1.take j)) (!k) (updB o.G (!k) (o.G (!k) ++ (dlvR o k b 0).1.1.take j) (!k) ++ [(dlvR o k b 0).1.1[j]]) = updB o.G (!k) (o.G (!k) ++ (dlvR o k b 0).1.1.take (j + 1)) := by
        rw [updB_same, updB_twice, List.append_assoc, List.take_succ_eq_append_getElem hx3]
      have eR7 : updB (rowG PG2 (updB o.G (!k) (o.G (!k) ++ (dlvR o k b 0).1.1.take j))) (!k) (.sl p6 ((updB o.G (!k) (o.G (!k) ++ (dlvR o k b 0).1.1.take j) (!k)).length + 1)) = rowG (updB PG2 (!k) p6) (updB o.G (!k) (o.G (!k) ++ (dlvR o k b 0).1.1.take (j + 1))) := by
        rw [← eG, ← rowG_upd, List.length_append]
        rfl
      rw [eR7, eG] at w7
      rw [wrap_i64 (x := (j : Int) + 1) (by omega) (by omega)]
      refine ⟨_, Forget.cons rfl (Forget.cons rfl (Forget.cons rfl (Forget.cons rfl (Forget.cons rfl (Forget.cons rfl (Forget.cons rfl (Forget.cons rfl (Forget.cons rfl (Forget.cons rfl (Forget.cons rfl (Forget.cons rfl (Forget.nil _)))))))))))), ⟨j + 1, _, _, by omega, by omega, w7, (rx.get m6).get mS7, (ga.get m6).get mS7, (rb.get m6).get mS7, (ra.get m6).get mS7, rfl⟩, ?_⟩
      show (((dlvR o k b 0).1.1.length : Int) - ((j : Int) + 1)).toNat < (((dlvR o k b 0).1.1.length : Int) - (j : Int)).toNat
      omega
    have hx3 : j = (dlvR o k b 0).1.1.length := by
      have : ¬ (j : Int) < (dlvR o k b 0).1.1.length := by simpa using hx3
      omega
    rw [hx3, List.take_length] at w4
    have eL0 : updB o.L k ((o.L k).eraseIdx b) (!k) = o.L (!k) := updB_ne _ _ (not_ne k)
    conv => whnf
    rw [kn_not]
    conv => whnf
    refine ⟨kn (!k), rfl, kn_lt _, ?_⟩
    conv => whnf
    refine ⟨_, Cell.mk w4.r15 (pair_at _ (!k)), ?_⟩
    conv => whnf
    have hL4 : (updB o.L k ((o.L k).eraseIdx b) (!k)).length + (dlvR o k b 0).1.2.length ≤ 200 := by rw [eL0]; exact hL3
    obtain ⟨xs9, ys9, y1, y2, y3⟩ := (w4.bag (!k)).app ga
    refine ⟨_, _, y1, y2, by rw [show (T.at_ 35).bytes = 64 from rfl]; omega, by omega, fun p9 h9 hs9 hm9 hf9 => ?_⟩
    obtain ⟨b9, f9⟩ := y3 p9 h9 hs9 hm9 hf9
    have w9 := w4.turnB (!k) b9 hm9 f9
    conv => whnf
    refine ⟨(kn (!k)), rfl, kn_lt (!k), ?_⟩
    conv => whnf
    refine ⟨_, _, w9.r15, pair_fit (!k), ?_⟩
    conv => whnf
    obtain ⟨wA, mS⟩ := w9.set15 (!k) (.sl p9 (((updB o.L k ((o.L k).eraseIdx b)) (!k)).length + ((dlvR o k b 0).1.2).length))
    have eR : updB (rowB (updB PB k p2) (updB o.L k ((o.L k).eraseIdx b))) (!k) (.sl p9 (((updB o.L k ((o.L k).eraseIdx b)) (!k)).length + ((dlvR o k b 0).1.2).length)) = rowB (updB (updB PB k p2) (!k) p9) (updB (updB o.L k ((o.L k).eraseIdx b)) (!k) ((updB o.L k ((o.L k).eraseIdx b)) (!k) ++ (dlvR o k b 0).1.2)) := by
      rw [show ((updB o.L k ((o.L k).eraseIdx b)) (!k)).length + ((dlvR o k b 0).1.2).length = ((updB o.L k ((o.L k).eraseIdx b)) (!k) ++ (dlvR o k b 0).1.2).length from List.length_append.symm]
      exact rowB_upd _ _ _ _ _
    rw [eR] at wA
    have rb := (rb.get hm9).get mS
    have ra := (ra.get hm9).get mS
    have eL3 : updB (updB o.L k ((o.L k).eraseIdx b)) (!k) (updB o.L k ((o.L k).eraseIdx b) (!k) ++ (dlvR o k b 0).1.2) = (dlv o k b 0).L := by
      show _ = updB (updB o.L k ((o.L k).eraseIdx b)) (!k) (o.L (!k) ++ (dlvR o k b 0).1.2)
      rw [eL0]
    rw [eL3] at wA
    have wF : WO _ D a14 (a14 + 1) (a14 + 1 + 1) (updB PC (!k) pc3) (dlv o k b 0).W (updB (updB PB k p2) (!k) p9) (dlv o k b 0).L (rowB (updB (updB PB k p2) (!k) p9) (dlv o k b 0).L) PG2 (dlv o k b 0).G (rowG PG2 (dlv o k b 0).G) := wA
    have q1 := phF.got false
    rw [hB0] at q1
    have q1 : ((dlv o k b 0).G true).length ≤ bs.length ∧ ∀ j (h1 : j < ((dlv o k b 0).G true).length) (h2 : j < bs.length), ((dlv o k b 0).G true)[j] = bs[j] := q1
    have q2 := phF.got true
    rw [hB1] at q2
    have q2 : ((dlv o k b 0).G false).length ≤ (bts nk).length ∧ ∀ j (h1 : j < ((dlv o k b 0).G false).length) (h2 : j < (bts nk).length), ((dlv o k b 0).G false)[j] = (bts nk)[j] := q2
    have q3 := bts_len nk
    refine ⟨1, rfl, by decide, ?_⟩
    conv => whnf
    refine ⟨_, Cell.mk wF.r16 (pair_at _ true), ?_⟩
    conv => whnf
    refine br_mk (fun hI => ?_) (fun hI => ?_)
    · exact absurd (of_decide_eq_true hI) (by
        show ¬ (((dlv o k b 0).G true).length : Int) > (bs.length : Int)
        omega)
    conv => whnf
    refine ⟨0, rfl, by decide, ?_⟩
    conv => whnf
    refine ⟨_, Cell.mk wF.r16 (pair_at _ false), ?_⟩
    conv => whnf
    refine br_mk (fun hI => ?_) (fun hI => ?_)
    · exact absurd (of_decide_eq_true hI) (by
        show ¬ (((dlv o k b 0).G false).length : Int) > (nk : Int)
        omega)
    conv => whnf
    refine ⟨fun env hk => ∃ (j : Nat) (zj : Int), j ≤ ((dlv o k b 0).G true).length ∧ zj = j ∧ WO hk D a14 (a14 + 1) (a14 + 1 + 1) (updB PC (!k) pc3) (dlv o k b 0).W (updB (updB PB k p2) (!k) p9) (dlv o k b 0).L (rowB (updB (updB PB k p2) (!k) p9) (dlv o k b 0).L) PG2 (dlv o k b 0).G (rowG PG2 (dlv o k b 0).G) ∧ Rws hk pb bs ∧ RoSl hk pa la 2 (pairs .i64 ps) ∧ env = [(35, i64 zj), (24, i64 (i : Int)), (17, i64 0), (1, .sl pb bs.length), (2, i64 (nk : Int)), (3, .sl pa la), (14, .ptr (some (a14, 0))), (15, .ptr (some (a14 + 1, 0))), (16, .ptr (some (a14 + 1 + 1, 0)))],
      fun env _ => match get env 35 with
        | .int _ z => ((((dlv o k b 0).G true).length : Int) - z).toNat
        | _ => 0, ⟨_, Forget.cons rfl (Forget.cons rfl (Forget.cons rfl (Forget.cons rfl (Forget.cons rfl (Forget.cons rfl (Forget.cons rfl (Forget.cons rfl (Forget.cons rfl (Forget.nil _))))))))), 0, _, Nat.zero_le _, rfl, wF, rb, ra, rfl⟩, ?_⟩
    clear wF rb ra
    rintro _ h5 ⟨j, zj, hj, rfl, wF, rb, ra, rfl⟩
    conv => whnf
    refine ⟨1, rfl, by decide, ?_⟩
    conv => whnf
    refine ⟨_, Cell.mk wF.r16 (pair_at _ true), ?_⟩
    conv => whnf
    refine br_mk (fun hx4 => ?_) (fun hx4 => ?_)
    · conv => whnf
      have hx4 : j < ((dlv o k b 0).G true).length := by simpa using hx4
      have hxb : j < bs.length := by omega
      refine ⟨[0, 1, 2, 3, 4, 5, 6, 7, 8, 9, 10], [0, 1, 0, 7, 15, 0, 0, 96, 224, 480, 1023], by kernel_rfl, ?_⟩
      conv => whnf
      refine ⟨1, rfl, by decide, ?_⟩
      conv => whnf
      refine ⟨_, Cell.mk wF.r16 (pair_at _ true), ?_⟩
      conv => whnf
      obtain ⟨i6, c6, u1, u2⟩ := (wF.got true).cell hx4
      refine ⟨i6, c6, j, u1, rfl, hx4, ?_⟩
      conv => whnf
      refine ⟨_, u2, ?_⟩
      conv => whnf
      obtain ⟨i7, c7, p7, v1, v2, v3⟩ := rb.cell hxb
      refine ⟨i7, c7, j, v1, rfl, hxb, ?_⟩
      conv => whnf
      refine ⟨_, v2, ?_⟩
      conv => whnf
      refine ⟨_, v3.is, ob _ (List.getElem_mem hxb), ?_⟩
      conv => whnf
      refine br_mk (fun hI => ?_) (fun hI => ?_)
      · exact absurd hI (by rw [q1.2 j hx4 hxb]; simp)
      conv => whnf
      rw [wrap_i64 (x := (j : Int) + 1) (by omega) (by omega)]
      refine ⟨_, Forget.cons rfl (Forget.cons rfl (Forget.cons rfl (Forget.cons rfl (Forget.cons rfl (Forget.cons rfl (Forget.cons rfl (Forget.cons rfl (Forget.cons rfl (Forget.nil _))))))))), ⟨j + 1, _, by omega, by omega, wF, rb, ra, rfl⟩, ?_⟩
      show ((((dlv o k b 0).G true).length : Int) - ((j : Int) + 1)).toNat < ((((dlv o k b 0).G true).length : Int) - (j : Int)).toNat
      omega
    conv => whnf
    clear hx4 hj
    refine ⟨fun env hk => ∃ (j : Nat) (zj : Int), j ≤ ((dlv o k b 0).G false).length ∧ zj = j ∧ WO hk D a14 (a14 + 1) (a14 + 1 + 1) (updB PC (!k) pc3) (dlv o k b 0).W (updB (updB PB k p2) (!k) p9) (dlv o k b 0).L (rowB (updB (updB PB k p2) (!k) p9) (dlv o k b 0).L) PG2 (dlv o k b 0).G (rowG PG2 (dlv o k b 0).G) ∧ Rws hk pb bs ∧ RoSl hk pa la 2 (pairs .i64 ps) ∧ env = [(36, i64 zj), (24, i64 (i : Int)), (17, i64 0), (1, .sl pb bs.length), (2, i64 (nk : Int)), (3, .sl pa la), (14, .ptr (some (a14, 0))), (15, .ptr (some (a14 + 1, 0))), (16, .ptr (some (a14 + 1 + 1, 0)))],
      fun env _ => match get env 36 with
        | .int _ z => ((((dlv o k b 0).G false).length : Int) - z).toNat
        | _ => 0, ⟨_, Forget.cons rfl (Forget.cons rfl (Forget.cons rfl (Forget.cons rfl (Forget.cons rfl (Forget.cons rfl (Forget.cons rfl (Forget.cons rfl (Forget.cons rfl (Forget.nil _))))))))), 0, _, Nat.zero_le _, rfl, wF, rb, ra, rfl⟩, ?_⟩
    clear wF rb ra
    rintro _ h6 ⟨j, zj, hj, rfl, wF, rb, ra, rfl⟩
    conv => whnf
    refine ⟨0, rfl, by decide, ?_⟩
    conv => whnf
    refine ⟨_, Cell.mk wF.r16 (pair_at _ false), ?_⟩
    conv => whnf
    refine br_mk (fun hx4 => ?_) (fun hx4 => ?_)
    · conv => whnf
      have hx4 : j < ((dlv o k b 0).G false).length := by simpa using hx4
      have hxb : j < (bts nk).length := by omega
      refine ⟨[0, 1, 2, 3, 4, 5, 6, 7, 8, 9], [0, 1, 0, 7, 15, 0, 32, 96, 224, 511], by kernel_rfl, ?_⟩
      conv => whnf
      refine ⟨0, rfl, by decide, ?_⟩
      conv => whnf
      refine ⟨_, Cell.mk wF.r16 (pair_at _ false), ?_⟩
      conv => whnf
      obtain ⟨i6, c6, u1, u2⟩ := (wF.got false).cell hx4
      refine ⟨i6, c6, j, u1, rfl, hx4, ?_⟩
      conv => whnf
      refine ⟨_, u2, ?_⟩
      conv => whnf
      rw [u8_sm (x := (j : Int)) (by omega) (by omega)]
      obtain ⟨l7, n7⟩ := laid_oct h6 [(j : Int)]
      refine ⟨_, l7, (fun x hx2 => by
        have : x = (j : Int) := by simpa using hx2
        omega), ?_⟩
      conv => whnf
      refine br_mk (fun hI => ?_) (fun hI => ?_)
      · exact absurd hI (by rw [q2.2 j hx4 hxb, bts_get]; simp)
      conv => whnf
      rw [wrap_i64 (x := (j : Int) + 1) (by omega) (by omega)]
      refine ⟨_, Forget.cons rfl (Forget.cons rfl (Forget.cons rfl (Forget.cons rfl (Forget.cons rfl (Forget.cons rfl (Forget.cons rfl (Forget.cons rfl (Forget.cons rfl (Forget.nil _))))))))), ⟨j + 1, _, by omega, by omega, wF.old n7, rb.get n7, ra.get n7, rfl⟩, ?_⟩
      show ((((dlv o k b 0).G false).length : Int) - ((j : Int) + 1)).toNat < ((((dlv o k b 0).G false).length : Int) - (j : Int)).toNat
      omega
    conv => whnf
    have cnD := ph.iv.cnt_dlv k hal 0
    rw [wrap_i64 (x := (i : Int) + 1) (by omega) (by omega)]
    refine ⟨_, Forget.cons rfl (Forget.cons rfl (Forget.cons rfl (Forget.cons rfl (Forget.cons rfl (Forget.cons rfl (Forget.cons rfl (Forget.cons rfl (Forget.nil _)))))))), ⟨i + 1, _, 0, (dlv o k b 0), (dlvA o a k b), _, _, _, by omega, by omega, wF, phF, (.inl ⟨by omega, rfl, tsi_dlv ti k b, by omega⟩), rb, ra, rfl⟩, ?_⟩
    show ((la : Int) + 400 - ((i : Int) + 1)).toNat < ((la : Int) + 400 - (i : Int)).toNat
    omega
  have hy : la ≤ i := by
    have : ¬ (i : Int) < la := by simpa using hy
    omega
  have hy2 : ¬ (i : Int) < (la : Int) := by omega
  conv => whnf
  refine br_mk (fun hq => ?_) (fun hq => ?_)
  · have hq : i = la := by
      have : (i : Int) = la := by simpa using hq
      omega
    obtain ⟨ti, hcn, rfl⟩ : (∀ k, TSI (o.W k).s) ∧ cnt2 o ≤ 50 + i ∧ now = 0 := by
      rcases hp with ⟨_, q1, q2, q3⟩ | ⟨q, _⟩
      · exact ⟨q2, q3, q1⟩
      · omega
    have hbl : ∀ k, (B k).length ≤ 25 := ph.bl
    obtain ⟨iv2, hfin, z0, z1, hc2⟩ := ph.iv.ph2 ti (by omega) hbl (by omega)
    have ph1 := ph.pss false (ti false)
    obtain ⟨_, _, _, _, pc0, po0, pw0⟩ := ph.iv.pss false (ti false)
    have ti1 : TSI ((pss o false).W true).s := by
      have : (pss o false).W true = o.W true := pw0
      rw [this]
      exact ti true
    have ph2 := ph1.pss true ti1
    have hf : fin B (visN (400 + la - i) (par i) (ps2 o)) := by
      rw [hq, show 400 + la - la = 400 by omega]
      exact hfin _
    clear hp
    conv => whnf
    refine ⟨fun env hk => ∃ (j : Nat) (zj : Int) (o' : OS) (PC PB : Bool → Option (Nat × Nat)), j ≤ 2 ∧ zj = j ∧ (j = 0 ∧ o' = o ∨ j = 1 ∧ o' = pss o false ∨ j = 2 ∧ o' = ps2 o) ∧ WO hk D a14 (a14 + 1) (a14 + 1 + 1) PC o'.W PB o'.L (rowB PB o'.L) PG o'.G (rowG PG o'.G) ∧ Rws hk pb bs ∧ RoSl hk pa la 2 (pairs .i64 ps) ∧ env = (27, i64 zj) :: (26, i64 0) :: (25, i64 (kn (par i) : Int)) :: [(24, i64 (i : Int)), (17, i64 1000), (1, .sl pb bs.length), (2, i64 (nk : Int)), (3, .sl pa la), (14, .ptr (some (a14, 0))), (15, .ptr (some (a14 + 1, 0))), (16, .ptr (some (a14 + 1 + 1, 0)))],
      fun env _ => match get env 27 with
        | .int _ z => (2 - z).toNat
        | _ => 0, ⟨_, Forget.cons rfl (Forget.cons rfl (Forget.cons rfl (Forget.cons rfl (Forget.cons rfl (Forget.cons rfl (Forget.cons rfl (Forget.cons rfl (Forget.cons rfl (Forget.cons rfl (Forget.cons rfl (Forget.nil _))))))))))), 0, _, o, _, _, by decide, rfl, .inl ⟨rfl, rfl⟩, w, rb, ra, rfl⟩, ?_⟩
    clear w rb ra
    rintro _ hz ⟨j, zj, o', PC, PB, hj, rfl, hst, w, rb, ra, rfl⟩
    conv => whnf
    refine br_mk (fun hx2 => ?_) (fun hx2 => ?_)
    · have hx2 : j < 2 := by
        have : (j : Int) < 2 := by simpa using hx2
        omega
      obtain ⟨k, hk, phk, e0, hnx, hln⟩ : ∃ k : Bool, j = kn k ∧ PH Wn B o' a ∧ (passV (o'.W k) 1000).1.2 = 0 ∧ (j + 1 = 1 ∧ pss o' k = pss o false ∨ j + 1 = 2 ∧ pss o' k = ps2 o) ∧ cnt2 (pss o' k) ≤ 200 := by
        rcases hst with ⟨q1, q2⟩ | ⟨q1, q2⟩ | ⟨q1, q2⟩
        · refine ⟨false, q1, by rw [q2]; exact ph, by rw [q2]; exact z0, .inl ⟨by omega, by rw [q2]⟩, ?_⟩
          rw [q2]
          have h1 := (ph.iv.d false).d.win
          have h2 := ph.iv.a0 false
          have h3 := ph.iv.le false
          have h4 := ph.bl false
          omega
        · refine ⟨true, q1, by rw [q2]; exact ph1, by rw [q2]; exact z1, .inr ⟨by omega, by rw [q2]; rfl⟩, ?_⟩
          rw [q2]
          exact hc2
        · omega
      subst hk
      obtain ⟨r1, r2, r3, r4⟩ := phk.room k
      conv => whnf
      refine ⟨kn k, rfl, kn_lt _, ?_⟩
      conv => whnf
      refine ⟨_, Cell.mk w.r14 (pair_at _ k), ?_⟩
      conv => whnf
      refine (cPass (w.chan k) (phk.ck k) (by omega) (now := 1000) (by decide) (by decide)).mono ?_
      rintro _ h3 ⟨q3, pc3, rfl, g3, s3, hp3, m3⟩
      have w3 := w.turnC k s3 m3 hp3
      rw [e0]
      conv => whnf
      refine ⟨_, rfl, ?_⟩
      conv => whnf
      refine ⟨_, rfl, ?_⟩
      conv => whnf
      have K := hln
      rw [cnt2_at _ k] at K
      have l1 : (pss o' k).L k = o'.L k ++ (passV (o'.W k) 1000).1.1 := show updB o'.L k (o'.L k ++ (passV (o'.W k) 1000).1.1) k = _ from updB_same _ _ _
      rw [l1, List.length_append] at K
      refine ⟨kn k, rfl, kn_lt _, ?_⟩
      conv => whnf
      refine ⟨_, Cell.mk w3.r15 (pair_at _ k), ?_⟩
      conv => whnf
      obtain ⟨xs9, ys9, y1, y2, y3⟩ := (w3.bag k).app g3
      refine ⟨_, _, y1, y2, by rw [show (T.at_ 35).bytes = 64 from rfl]; omega, by omega, fun p9 h9 hs9 hm9 hf9 => ?_⟩
      obtain ⟨b9, f9⟩ := y3 p9 h9 hs9 hm9 hf9
      have w9 := w3.turnB k b9 hm9 f9
      conv => whnf
      refine ⟨(kn k), rfl, kn_lt k, ?_⟩
      conv => whnf
      refine ⟨_, _, w9.r15, pair_fit k, ?_⟩
      conv => whnf
      obtain ⟨wA, mS⟩ := w9.set15 k (.sl p9 ((o'.L k).length + ((passV (o'.W k) 1000).1.1).length))
      have eR : updB (rowB PB o'.L) k (.sl p9 ((o'.L k).length + ((passV (o'.W k) 1000).1.1).length)) = rowB (updB PB k p9) (updB o'.L k (o'.L k ++ (passV (o'.W k) 1000).1.1)) := by
        rw [show (o'.L k).length + ((passV (o'.W k) 1000).1.1).length = (o'.L k ++ (passV (o'.W k) 1000).1.1).length from List.length_append.symm]
        exact rowB_upd _ _ _ _ _
      rw [eR] at wA
      have rb := ((rb.get m3).get hm9).get mS
      have ra := ((ra.get m3).get hm9).get mS
      rw [wrap_i64 (x := (kn k : Int) + 1) (by omega) (by omega)]
      refine ⟨_, Forget.cons rfl (Forget.cons rfl (Forget.cons rfl (Forget.cons rfl (Forget.cons rfl (Forget.cons rfl (Forget.cons rfl (Forget.cons rfl (Forget.cons rfl (Forget.cons rfl (Forget.cons rfl (Forget.nil _))))))))))), ⟨kn k + 1, _, pss o' k, _, _, by omega, by omega, .inr hnx, wA, rb, ra, rfl⟩, ?_⟩
      show (2 - ((kn k : Int) + 1)).toNat < (2 - (kn k : Int)).toNat
      omega
    have hx2 : j = 2 := by
      have : ¬ (j : Int) < 2 := by simpa using hx2
      omega
    obtain rfl : o' = ps2 o := by
      rcases hst with ⟨q, _⟩ | ⟨q, _⟩ | ⟨_, q⟩
      · omega
      · omega
      · exact q
    have ph : PH Wn B (ps2 o) a := ph2
    clear hst hx2 ph1 ph2 iv2 hfin z0 z1 ti ti1 pc0 po0 pw0 hcn
    generalize ps2 o = o at w ph hf hc2
    conv => whnf
    obtain ⟨k, hk⟩ : ∃ k, k = par i := ⟨_, rfl⟩
    rw [← hk] at hf ⊢
    have hvs : visN (400 + la - i) k o = visN (400 + la - (i + 1)) (par (i + 1)) (vis o k) := by
      rw [show 400 + la - i = (400 + la - (i + 1)) + 1 by omega, visN, par_succ, hk]
    rw [hvs] at hf
    refine ⟨kn k, rfl, kn_lt _, ?_⟩
    conv => whnf
    refine ⟨_, Cell.mk w.r15 (pair_at _ k), ?_⟩
    conv => whnf
    refine br_mk (fun hq => ?_) (fun hq => ?_)
    · conv => whnf
      have hq : (o.L k).length = 0 := by
        have : ((o.L k).length : Int) = 0 := by simpa using hq
        omega
      rw [vis_nil hq] at hf
      rw [wrap_i64 (x := (i : Int) + 1) (by omega) (by omega)]
      refine ⟨_, Forget.cons rfl (Forget.cons rfl (Forget.cons rfl (Forget.cons rfl (Forget.cons rfl (Forget.cons rfl (Forget.cons rfl (Forget.cons rfl (Forget.nil _)))))))), ⟨i + 1, _, 1000, o, a, _, _, _, by omega, by omega, w, ph, (.inr ⟨by omega, rfl, hc2, hf⟩), rb, ra, rfl⟩, ?_⟩
      show ((la : Int) + 400 - ((i : Int) + 1)).toNat < ((la : Int) + 400 - (i : Int)).toNat
      omega
    have hal : 0 < (o.L k).length := by
      have : ¬ ((o.L k).length : Int) = 0 := by simpa using hq
      omega
    have hlk : (o.L k).length ≤ 200 := by
      have := cnt2_at o k
      omega
    rw [vis_cons hal] at hf
    conv => whnf
    rw [decide_eq_false hy2]
    conv => whnf
    refine ⟨kn k, rfl, kn_lt _, ?_⟩
    conv => whnf
    refine ⟨_, Cell.mk w.r15 (pair_at _ k), ?_⟩
    conv => whnf
    obtain ⟨i3, c3, p3, y1, y2, y4⟩ := (w.bag k).cell hal
    refine ⟨i3, c3, 0, y1, rfl, hal, ?_⟩
    conv => whnf
    refine ⟨_, y2, ?_⟩
    conv => whnf
    obtain ⟨gm31, b31, m31⟩ := lay_row (h := hz) (sz := 6) [i64 0, i64 0, i64 0, i64 0, i64 0, .sl none 0] (gC ((o.L k)[0], p3))
    refine ⟨_, _, gm31, Nat.le_of_ble_eq_true rfl, ?_⟩
    conv => whnf
    have nxc : ∀ k, ¬ chAll (D k) (PC k) hz.next := fun k q => Nat.lt_irrefl _ ((w.chan k).lt q)
    have nxa : ¬ hz.next = a14 + 1 := fun q => by
      have := hz.lt _ _ w.r15
      omega
    obtain ⟨a31, ha31⟩ : ∃ x, x = hz.next := ⟨_, rfl⟩
    rw [← ha31] at nxc nxa
    have w5 := w.old m31
    have rb5 := rb.get m31
    have ra5 := ra.get m31
    have y4 := y4.get m31
    have gd : (o.L k).getD 0 gv0 = (o.L k)[0] := by rw [List.getD_eq_getElem?_getD, List.getElem?_eq_getElem hal]; rfl
    rw [decide_eq_false hy2]
    conv => whnf
    have hOut := (w5.bag k).out hal
    obtain ⟨xs, ys, t1, t2, t3⟩ := hOut
    refine ⟨[0, 2, 3, 4, 5, 6, 8, 9, 10, 11, 12, 13, 1, 7, 14, 15, 16], [0, 0, 0, 4, 12, 0, 60, 126, 0, 256, 768, 0, 2048, 7936, 16382, 32767, 65535], by kernel_rfl, ?_⟩
    conv => whnf
    refine ⟨kn k, rfl, kn_lt _, ?_⟩
    conv => whnf
    refine ⟨_, Cell.mk w5.r15 (pair_at _ k), ?_⟩
    conv => whnf
    refine ⟨⟨_, (w5.bag k).row.weak⟩, 0, rfl, Nat.zero_le _, Nat.le_of_lt hal, ?_⟩
    conv => whnf
    refine ⟨kn k, rfl, kn_lt _, ?_⟩
    conv => whnf
    refine ⟨_, Cell.mk w5.r15 (pair_at _ k), ?_⟩
    conv => whnf
    try rw [wrap_i64 (x := (0 : Int) + 1) (by omega) (by omega)]
    refine ⟨⟨_, (w5.bag k).row.weak⟩, 0 + 1, (by first | rfl | omega), hal, Nat.le_refl _, ?_⟩
    conv => whnf
    obtain ⟨z1, z2, z3⟩ := app0 (h0 := hz) t1
    refine ⟨_, _, z1, z2, by rw [show (T.at_ 35).bytes = 64 from rfl]; omega, by omega, fun p1 h6 hs6 hm6 hf6 => ?_⟩
    obtain ⟨n6, mo6⟩ := z3 p1 h6 hs6 hm6 hf6
    have w6 := w5.old mo6
    have t2' := SlIs.old t2 mo6 (fun _ _ k => k)
    conv => whnf
    refine ⟨⟨⟨_, (w6.bag k).row.weak⟩, 0 + 1, (by first | rfl | omega), hal, Nat.le_refl _, rfl⟩, ?_⟩
    conv => whnf
    refine ⟨⟨_, Cell.mk w6.r15 (pair_at _ k), rfl⟩, ?_⟩
    conv => whnf
    rw [Nat.zero_add (0 - 0)]
    refine ⟨_, _, n6.1, t2', by rw [show (T.at_ 35).bytes = 64 from rfl]; omega, by omega, fun p2 h7 hs7 hm7 hf7 => ?_⟩
    obtain ⟨n7, mo7⟩ := appN n6 mo6 p2 h7 hs7 hm7 hf7
    have bag7 := t3 hs7 none_ mo7
    have w7 := w5.turnB k bag7 (mo7.mono (fun _ _ k => k.elim)) (fun i ⟨o, e⟩ => .inr (n7.2 i o e))
    conv => whnf
    refine ⟨kn k, rfl, kn_lt _, ?_⟩
    conv => whnf
    refine ⟨_, _, w7.r15, pair_fit k, ?_⟩
    conv => whnf
    obtain ⟨wB, mS⟩ := w7.set15 k (.sl p2 (0 - 0 + ((o.L k).length - (0 + 1))))
    have eR : updB (rowB PB o.L) k (.sl p2 (0 - 0 + ((o.L k).length - (0 + 1)))) = rowB (updB PB k p2) (updB o.L k ((o.L k).eraseIdx 0)) := by
      have e9 : ((o.L k).eraseIdx 0).length = 0 - 0 + ((o.L k).length - (0 + 1)) := by rw [List.length_eraseIdx_of_lt hal]; omega
      rw [← e9]
      exact rowB_upd _ _ _ _ _
    rw [eR] at wB
    have b31 : _ := mS.get (mo7.get b31 (.inl (fun k => k))) (.inl (by rw [← ha31]; exact nxa))
    have rbB := (rb5.get mo7).get mS
    have raB := (ra5.get mo7).get mS
    have y4 := (y4.get mo7).get mS
    rw [decide_eq_false hy2]
    conv => whnf
    have hcn2 : cnt2 o ≤ 200 := hc2
    have hgo := ph.go k _ (List.getElem_mem hal)
    have rm := ph.room (!k)
    obtain ⟨phF, hoct, hgl⟩ := ph.dlv k hal 1000
    have cnF := ph.iv.cnt_dlv k hal 1000
    have eR2 : recvV (o.W (!k)) 1000 (o.L k)[0] = dlvR o k 0 1000 := by unfold dlvR; rw [gd]
    refine ⟨[0, 1, 2, 3, 4, 5, 6, 7, 8, 9, 10, 11], [0, 1, 3, 7, 0, 0, 63, 127, 255, 255, 511, 2047], by kernel_rfl, ?_⟩
    conv => whnf
    rw [kn_not]
    refine ⟨kn (!k), rfl, kn_lt _, ?_⟩
    conv => whnf
    refine ⟨_, Cell.mk wB.r14 (pair_at _ (!k)), ?_⟩
    conv => whnf
    refine ⟨gC ((o.L k)[0], p3), Cells.mk b31 (Nat.le_of_ble_eq_true rfl) rfl, ?_⟩
    conv => whnf
    refine (cRecv (g := (o.L k)[0]) (p := p3) (wB.chan (!k)) (ph.ck (!k)) (by omega) (by omega) (now := 1000) (by decide) (by decide) (fun h' m => ((show RoSl _ _ _ _ _ from y4).get m).is) hgo.seq hgo.len).mono ?_
    rintro _ h3 ⟨qr, qa, pc3, rfl, rx, ga, s3, hp3, m3⟩
    have w3 := wB.turnC (!k) s3 m3 hp3
    rw [eR2] at rx ga w3 ⊢
    have rb := rbB.get m3
    have ra := raB.get m3
    obtain ⟨dw1, dw2⟩ := dlv_W o k 0 1000
    have hL3 : ((dlv o k 0 1000).L (!k)).length ≤ 200 := by
      have := cnt2_at (dlv o k 0 1000) k
      omega
    rw [(dlv_L o k 0 1000).2, List.length_append] at hL3
    have hG3 := phF.got k
    have hG4 := phF.got (!k)
    rw [Bool.not_not] at hG4
    have eG2 : (dlv o k 0 1000).G (!k) = o.G (!k) ++ (dlvR o k 0 1000).1.1 := (dlv_G o k 0 1000).2
    have hG5 := phF.bl k
    have hG6 : (o.G (!k)).length + (dlvR o k 0 1000).1.1.length ≤ 25 := by
      have := hG3.1
      rw [eG2, List.length_append] at this
      omega
    conv => whnf
    refine ⟨_, rfl, ?_⟩
    conv => whnf
    refine ⟨_, rfl, ?_⟩
    conv => whnf
    refine ⟨fun env hk => ∃ (j : Nat) (zj : Int) (PG2 : Bool → Option (Nat × Nat)), j ≤ (dlvR o k 0 1000).1.1.length ∧ zj = j ∧ WO hk D a14 (a14 + 1) (a14 + 1 + 1) (updB PC (!k) pc3) (updB o.W (!k) (dlvR o k 0 1000).2) (updB PB k p2) (updB o.L k ((o.L k).eraseIdx 0)) (rowB (updB PB k p2) (updB o.L k ((o.L k).eraseIdx 0))) PG2 (updB o.G (!k) (o.G (!k) ++ (dlvR o k 0 1000).1.1.take j)) (rowG PG2 (updB o.G (!k) (o.G (!k) ++ (dlvR o k 0 1000).1.1.take j))) ∧ Rws hk qr (dlvR o k 0 1000).1.1 ∧ Grams hk qa (dlvR o k 0 1000).1.2 ∧ Rws hk pb bs ∧ RoSl hk pa la 2 (pairs .i64 ps) ∧ env = [(34, i64 zj), (25, i64 (kn k : Int)), (24, i64 (i : Int)), (17, i64 1000), (1, .sl pb bs.length), (2, i64 (nk : Int)), (3, .sl pa la), (14, .ptr (some (a14, 0))), (15, .ptr (some (a14 + 1, 0))), (16, .ptr (some (a14 + 1 + 1, 0))), (32, .sl qr (dlvR o k 0 1000).1.1.length), (33, .sl qa (dlvR o k 0 1000).1.2.length)],
      fun env _ => match get env 34 with
        | .int _ z => (((dlvR o k 0 1000).1.1.length : Int) - z).toNat
        | _ => 0, ⟨_, Forget.cons rfl (Forget.cons rfl (Forget.cons rfl (Forget.cons rfl (Forget.cons rfl (Forget.cons rfl (Forget.cons rfl (Forget.cons rfl (Forget.cons rfl (Forget.cons rfl (Forget.cons rfl (Forget.cons rfl (Forget.nil _)))))))))))), 0, _, PG, Nat.zero_le _, rfl, (by rw [List.take_zero, List.append_nil, updB_idem]; exact w3), rx, ga, rb, ra, rfl⟩, ?_⟩
    clear w3 rx ga rb ra
    rintro _ h4 ⟨j, zj, PG2, hj, rfl, w4, rx, ga, rb, ra, rfl⟩
    conv => whnf
    refine br_mk (fun hx3 => ?_) (fun hx3 => ?_)
    · have hx3 : j < (dlvR o k 0 1000).1.1.length := by simpa using hx3
      conv => whnf
      refine ⟨[0, 1, 2, 3, 4, 5, 6, 7, 8, 9, 10, 11, 12, 13, 14], [0, 1, 0, 4, 12, 28, 0, 0, 192, 448, 960, 1984, 4092, 8191, 16383], by kernel_rfl, ?_⟩
      conv => whnf
      rw [kn_not]
      refine ⟨kn (!k), rfl, kn_lt _, ?_⟩
      conv => whnf
      refine ⟨_, Cell.mk w4.r16 (pair_at _ (!k)), ?_⟩
      conv => whnf
      obtain ⟨i5, c5, p5, z1, z2, z3⟩ := rx.cell hx3
      refine ⟨i5, c5, j, z1, rfl, hx3, ?_⟩
      conv => whnf
      refine ⟨_, z2, ?_⟩
      conv => whnf
      refine ⟨_, z3.is, hoct _ (List.getElem_mem hx3), ?_⟩
      conv => whnf
      have hgt := w4.got (!k)
      obtain ⟨u1, u2, u3⟩ := Gts.app1 hgt ((dlvR o k 0 1000).1.1[j])
      have hgl4 : (updB o.G (!k) (o.G (!k) ++ (dlvR o k 0 1000).1.1.take j) (!k)).length ≤ 25 := by
        rw [updB_same, List.length_append, List.length_take]
        omega
      refine ⟨_, _, u1, u2, by rw [show (T.at_ 9).bytes = 16 from rfl]; omega, by omega, fun p6 h6 hs6 hm6 hf6 => ?_⟩
      obtain ⟨b6, f6, m6⟩ := u3 p6 h6 hs6 hm6 hf6
      have w6 := w4.turnG (!k) b6 m6 f6
      conv => whnf
      refine ⟨kn (!k), rfl, kn_lt _, ?_⟩
      conv => whnf
      refine ⟨_, _, w6.r16, pair_fit (!k), ?_⟩
      conv => whnf
      obtain ⟨w7, mS7⟩ := w6.set16 (!k) (.sl p6 ((updB o.G (!k) (o.G (!k) ++ (dlvR o k 0 1000).1.1.take j) (!k)).length + 1))
      have eG : updB (updB o.G (!k) (o.G (!k) ++ (dlvR o k 0 1000).1.1.take j)) (!k) (updB o.G (!k) (o.G (!k) ++ (dlvR o k 0 1000).1.1.take j) (!k) ++ [(dlvR o k 0 1000).1.1[j]]) = updB o.G (!k) (o.G (!k) ++ (dlvR o k 0 1000).1.1.take (j + 1)) := by
        rw [updB_same, updB_twice, List.append_assoc, List.take_succ_eq_append_getElem hx3]
      have eR7 : updB (rowG PG2 (updB o.G (!k) (o.G (!k) ++ (dlvR o k 0 1000).1.1.take j))) (!k) (.sl p6 ((updB o.G (!k) (o.G (!k) ++ (dlvR o k 0 1000).1.1.take j) (!k)).length + 1)) = rowG (updB PG2 (!k) p6) (updB o.G (!k) (o.G (!k) ++ (dlvR o k 0 1000).1.1.take (j + 1))) := by
        rw [← eG, ← rowG_upd, List.length_append]
        rfl
      rw [eR7, eG] at w7
      rw [wrap_i64 (x := (j : Int) + 1) (by omega) (by omega)]
      refine ⟨_, Forget.cons rfl (Forget.cons rfl (Forget.cons rfl (Forget.cons rfl (Forget.cons rfl (Forget.cons rfl (Forget.cons rfl (Forget.cons rfl (Forget.cons rfl (Forget.cons rfl (Forget.cons rfl (Forget.cons rfl (Forget.nil _)))))))))))), ⟨j + 1, _, _, by omega, by omega, w7, (rx.get m6).get mS7, (ga.get m6).get mS7, (rb.get m6).get mS7, (ra.get m6).get mS7, rfl⟩, ?_⟩
      show (((dlvR o k 0 1000).1.1.length : Int) - ((j : Int) + 1)).toNat < (((dlvR o k 0 1000).1.1.length : Int) - (j : Int)).toNat
      omega
    have hx3 : j = (dlvR o k 0 1000).1.1.length := by
      have : ¬ (j : Int) < (dlvR o k 0 1000).1.1.length := by simpa using hx3
      omega
    rw [hx3, List.take_length] at w4
    have eL0 : updB o.L k ((o.L k).eraseIdx 0) (!k) = o.L (!k) := updB_ne _ _ (not_ne k)
    conv => whnf
    rw [kn_not]
    conv => whnf
    refine ⟨kn (!k), rfl, kn_lt _, ?_⟩
    conv => whnf
    refine ⟨_, Cell.mk w4.r15 (pair_at _ (!k)), ?_⟩
    conv => whnf
    have hL4 : (updB o.L k ((o.L k).eraseIdx 0) (!k)).length + (dlvR o k 0 1000).1.2.length ≤ 200 := by rw [eL0]; exact hL3
    obtain ⟨xs9, ys9, y1, y2, y3⟩ := (w4.bag (!k)).app ga
    refine ⟨_, _, y1, y2, by rw [show (T.at_ 35).bytes = 64 from rfl]; omega, by omega, fun p9 h9 hs9 hm9 hf9 => ?_⟩
    obtain ⟨b9, f9⟩ := y3 p9 h9 hs9 hm9 hf9
    have w9 := w4.turnB (!k) b9 hm9 f9
    conv => whnf
    refine ⟨(kn (!k)), rfl, kn_lt (!k), ?_⟩
    conv => whnf
    refine ⟨_, _, w9.r15, pair_fit (!k), ?_⟩
    conv => whnf
    obtain ⟨wA, mS⟩ := w9.set15 (!k) (.sl p9 (((updB o.L k ((o.L k).eraseIdx 0)) (!k)).length + ((dlvR o k 0 1000).1.2).length))
    have eR : updB (rowB (updB PB k p2) (updB o.L k ((o.L k).eraseIdx 0))) (!k) (.sl p9 (((updB o.L k ((o.L k).eraseIdx 0)) (!k)).length + ((dlvR o k 0 1000).1.2).length)) = rowB (updB (updB PB k p2) (!k) p9) (updB (updB o.L k ((o.L k).eraseIdx 0)) (!k) ((updB o.L k ((o.L k).eraseIdx 0)) (!k) ++ (dlvR o k 0 1000).1.2)) := by
      rw [show ((updB o.L k ((o.L k).eraseIdx 0)) (!k)).length + ((dlvR o k 0 1000).1.2).length = ((updB o.L k ((o.L k).eraseIdx 0)) (!k) ++ (dlvR o k 0 1000).1.2).length from List.length_append.symm]
      exact rowB_upd _ _ _ _ _
    rw [eR] at wA
    have rb := (rb.get hm9).get mS
    have ra := (ra.get hm9).get mS
    have eL3 : updB (updB o.L k ((o.L k).eraseIdx 0)) (!k) (updB o.L k ((o.L k).eraseIdx 0) (!k) ++ (dlvR o k 0 1000).1.2) = (dlv o k 0 1000).L := by
      show _ = updB (updB o.L k ((o.L k).eraseIdx 0)) (!k) (o.L (!k) ++ (dlvR o k 0 1000).1.2)
      rw [eL0]
    rw [eL3] at wA
    have wF : WO _ D a14 (a14 + 1) (a14 + 1 + 1) (updB PC (!k) pc3) (dlv o k 0 1000).W (updB (updB PB k p2) (!k) p9) (dlv o k 0 1000).L (rowB (updB (updB PB k p2) (!k) p9) (dlv o k 0 1000).L) PG2 (dlv o k 0 1000).G (rowG PG2 (dlv o k 0 1000).G) := wA
    have q1 := phF.got false
    rw [hB0] at q1
    have q1 : ((dlv o k 0 1000).G true).length ≤ bs.length ∧ ∀ j (h1 : j < ((dlv o k 0 1000).G true).length) (h2 : j < bs.length), ((dlv o k 0 1000).G true)[j] = bs[j] := q1
    have q2 := phF.got true
    rw [hB1] at q2
    have q2 : ((dlv o k 0 1000).G false).length ≤ (bts nk).length ∧ ∀ j (h1 : j < ((dlv o k 0 1000).G false).length) (h2 : j < (bts nk).length), ((dlv o k 0 1000).G false)[j] = (bts nk)[j] := q2
    have q3 := bts_len nk
    refine ⟨1, rfl, by decide, ?_⟩
    conv => whnf
    refine ⟨_, Cell.mk wF.r16 (pair_at _ true), ?_⟩
    conv => whnf
    refine br_mk (fun hI => ?_) (fun hI => ?_)
    · exact absurd (of_decide_eq_true hI) (by
        show ¬ (((dlv o k 0 1000).G true).length : Int) > (bs.length : Int)
        omega)
    conv => whnf
    refine ⟨0, rfl, by decide, ?_⟩
    conv => whnf
    refine ⟨_, Cell.mk wF.r16 (pair_at _ false), ?_⟩
    conv => whnf
    refine br_mk (fun hI => ?_) (fun hI => ?_)
    · exact absurd (of_decide_eq_true hI) (by
        show ¬ (((dlv o k 0 1000).G false).length : Int) > (nk : Int)
        omega)
    conv => whnf
    refine ⟨fun env hk => ∃ (j : Nat) (zj : Int), j ≤ ((dlv o k 0 1000).G true).length ∧ zj = j ∧ WO hk D a14 (a14 + 1) (a14 + 1 + 1) (updB PC (!k) pc3) (dlv o k 0 1000).W (updB (updB PB k p2) (!k) p9) (dlv o k 0 1000).L (rowB (updB (updB PB k p2) (!k) p9) (dlv o k 0 1000).L) PG2 (dlv o k 0 1000).G (rowG PG2 (dlv o k 0 1000).G) ∧ Rws hk pb bs ∧ RoSl hk pa la 2 (pairs .i64 ps) ∧ env = [(35, i64 zj), (24, i64 (i : Int)), (17, i64 1000), (1, .sl pb bs.length), (2, i64 (nk : Int)), (3, .sl pa la), (14, .ptr (some (a14, 0))), (15, .ptr (some (a14 + 1, 0))), (16, .ptr (some (a14 + 1 + 1, 0)))],
      fun env _ => match get env 35 with
        | .int _ z => ((((dlv o k 0 1000).G true).length : Int) - z).toNat
        | _ => 0, ⟨_, Forget.cons rfl (Forget.cons rfl (Forget.cons rfl (Forget.cons rfl (Forget.cons rfl (Forget.cons rfl (Forget.cons rfl (Forget.cons rfl (Forget.cons rfl (Forget.nil _))))))))), 0, _, Nat.zero_le _, rfl, wF, rb, ra, rfl⟩, ?_⟩
    clear wF rb ra
    rintro _ h5 ⟨j, zj, hj, rfl, wF, rb, ra, rfl⟩
    conv => whnf
    refine ⟨1, rfl, by decide, ?_⟩
    conv => whnf
    refine ⟨_, Cell.mk wF.r16 (pair_at _ true), ?_⟩
    conv => whnf
    refine br_mk (fun hx4 => ?_) (fun hx4 => ?_)
    · conv => whnf
      have hx4 : j < ((dlv o k 0 1000).G true).length := by simpa using hx4
      have hxb : j < bs.length := by omega
      refine ⟨[0, 1, 2, 3, 4, 5, 6, 7, 8, 9, 10], [0, 1, 0, 7, 15, 0, 0, 96, 224, 480, 1023], by kernel_rfl, ?_⟩
      conv => whnf
      refine ⟨1, rfl, by decide, ?_⟩
      conv => whnf
      refine ⟨_, Cell.mk wF.r16 (pair_at _ true), ?_⟩
      conv => whnf
      obtain ⟨i6, c6, u1, u2⟩ := (wF.got true).cell hx4
      refine ⟨i6, c6, j, u1, rfl, hx4, ?_⟩
      conv => whnf
      refine ⟨_, u2, ?_⟩
      conv => whnf
      obtain ⟨i7, c7, p7, v1, v2, v3⟩ := rb.cell hxb
      refine ⟨i7, c7, j, v1, rfl, hxb, ?_⟩
      conv => whnf
      refine ⟨_, v2, ?_⟩
      conv => whnf
      refine ⟨_, v3.is, ob _ (List.getElem_mem hxb), ?_⟩
      conv => whnf
      refine br_mk (fun hI => ?_) (fun hI => ?_)
      · exact absurd hI (by rw [q1.2 j hx4 hxb]; simp)
      conv => whnf
      rw [wrap_i64 (x := (j : Int) + 1) (by omega) (by omega)]
      refine ⟨_, Forget.cons rfl (Forget.cons rfl (Forget.cons rfl (Forget.cons rfl (Forget.cons rfl (Forget.cons rfl (Forget.cons rfl (Forget.cons rfl (Forget.cons rfl (Forget.nil _))))))))), ⟨j + 1, _, by omega, by omega, wF, rb, ra, rfl⟩, ?_⟩
      show ((((dlv o k 0 1000).G true).length : Int) - ((j : Int) + 1)).toNat < ((((dlv o k 0 1000).G true).length : Int) - (j : Int)).toNat
      omega
    conv => whnf
    clear hx4 hj
    refine ⟨fun env hk => ∃ (j : Nat) (zj : Int), j ≤ ((dlv o k 0 1000).G false).length ∧ zj = j ∧ WO hk D a14 (a14 + 1) (a14 + 1 + 1) (updB PC (!k) pc3) (dlv o k 0 1000).W (updB (updB PB k p2) (!k) p9) (dlv o k 0 1000).L (rowB (updB (updB PB k p2) (!k) p9) (dlv o k 0 1000).L) PG2 (dlv o k 0 1000).G (rowG PG2 (dlv o k 0 1000).G) ∧ Rws hk pb bs ∧ RoSl hk pa la 2 (pairs .i64 ps) ∧ env = [(36, i64 zj), (24, i64 (i : Int)), (17, i64 1000), (1, .sl pb bs.length), (2, i64 (nk : Int)), (3, .sl pa la), (14, .ptr (some (a14, 0))), (15, .ptr (some (a14 + 1, 0))), (16, .ptr (some (a14 + 1 + 1, 0)))],
      fun env _ => match get env 36 with
        | .int _ z => ((((dlv o k 0 1000).G false).length : Int) - z).toNat
        | _ => 0, ⟨_, Forget.cons rfl (Forget.cons rfl (Forget.cons rfl (Forget.cons rfl (Forget.cons rfl (Forget.cons rfl (Forget.cons rfl (Forget.cons rfl (Forget.cons rfl (Forget.nil _))))))))), 0, _, Nat.zero_le _, rfl, wF, rb, ra, rfl⟩, ?_⟩
    clear wF rb ra
    rintro _ h6 ⟨j, zj, hj, rfl, wF, rb, ra, rfl⟩
    conv => whnf
    refine ⟨0, rfl, by decide, ?_⟩
    conv => whnf
    refine ⟨_, Cell.mk wF.r16 (pair_at _ false), ?_⟩
    conv => whnf
    refine br_mk (fun hx4 => ?_) (fun hx4 => ?_)
    · conv => whnf
      have hx4 : j < ((dlv o k 0 1000).G false).length := by simpa using hx4
      have hxb : j < (bts nk).length := by omega
      refine ⟨[0, 1, 2, 3, 4, 5, 6, 7, 8, 9], [0, 1, 0, 7, 15, 0, 32, 96, 224, 511], by kernel_rfl, ?_⟩
      conv => whnf
      refine ⟨0, rfl, by decide, ?_⟩
      conv => whnf
      refine ⟨_, Cell.mk wF.r16 (pair_at _ false), ?_⟩
      conv => whnf
      obtain ⟨i6, c6, u1, u2⟩ := (wF.got false).cell hx4
      refine ⟨i6, c6, j, u1, rfl, hx4, ?_⟩
      conv => whnf
      refine ⟨_, u2, ?_⟩
      conv => whnf
      rw [u8_sm (x := (j : Int)) (by omega) (by omega)]
      obtain ⟨l7, n7⟩ := laid_oct h6 [(j : Int)]
      refine ⟨_, l7, (fun x hx2 => by
        have : x = (j : Int) := by simpa using hx2
        omega), ?_⟩
      conv => whnf
      refine br_mk (fun hI => ?_) (fun hI => ?_)
      · exact absurd hI (by rw [q2.2 j hx4 hxb, bts_get]; simp)
      conv => whnf
      rw [wrap_i64 (x := (j : Int) + 1) (by omega) (by omega)]
      refine ⟨_, Forget.cons rfl (Forget.cons rfl (Forget.cons rfl (Forget.cons rfl (Forget.cons rfl (Forget.cons rfl (Forget.cons rfl (Forget.cons rfl (Forget.cons rfl (Forget.nil _))))))))), ⟨j + 1, _, by omega, by omega, wF.old n7, rb.get n7, ra.get n7, rfl⟩, ?_⟩
      show ((((dlv o k 0 1000).G false).length : Int) - ((j : Int) + 1)).toNat < ((((dlv o k 0 1000).G false).length : Int) - (j : Int)).toNat
      omega
    conv => whnf
    have cnD := ph.iv.cnt_dlv k hal 1000
    rw [wrap_i64 (x := (i : Int) + 1) (by omega) (by omega)]
    refine ⟨_, Forget.cons rfl (Forget.cons rfl (Forget.cons rfl (Forget.cons rfl (Forget.cons rfl (Forget.cons rfl (Forget.cons rfl (Forget.cons rfl (Forget.nil _)))))))), ⟨i + 1, _, 1000, (dlv o k 0 1000), (dlvA o a k 0), _, _, _, by omega, by omega, wF, phF, (.inr ⟨by omega, rfl, by omega, hf⟩), rb, ra, rfl⟩, ?_⟩
    show ((la : Int) + 400 - ((i : Int) + 1)).toNat < ((la : Int) + 400 - (i : Int)).toNat
    omega
  · have hq : la < i := by
      have : ¬ (i : Int) = la := by simpa using hq
      omega
    obtain ⟨hc2, hf, rfl⟩ : cnt2 o ≤ 200 ∧ fin B (visN (400 + la - i) (par i) o) ∧ now = 1000 := by
      rcases hp with ⟨q, _⟩ | ⟨_, q1, q2, q3⟩
      · omega
      · exact ⟨q2, q3, q1⟩
    clear hp
    conv => whnf
    obtain ⟨k, hk⟩ : ∃ k, k = par i := ⟨_, rfl⟩
    rw [← hk] at hf ⊢
    have hvs : visN (400 + la - i) k o = visN (400 + la - (i + 1)) (par (i + 1)) (vis o k) := by
      rw [show 400 + la - i = (400 + la - (i + 1)) + 1 by omega, visN, par_succ, hk]
    rw [hvs] at hf
    refine ⟨kn k, rfl, kn_lt _, ?_⟩
    conv => whnf
    refine ⟨_, Cell.mk w.r15 (pair_at _ k), ?_⟩
    conv => whnf
    refine br_mk (fun hq => ?_) (fun hq => ?_)
    · conv => whnf
      have hq : (o.L k).length = 0 := by
        have : ((o.L k).length : Int) = 0 := by simpa using hq
        omega
      rw [vis_nil hq] at hf
      rw [wrap_i64 (x := (i : Int) + 1) (by omega) (by omega)]
      refine ⟨_, Forget.cons rfl (Forget.cons rfl (Forget.cons rfl (Forget.cons rfl (Forget.cons rfl (Forget.cons rfl (Forget.cons rfl (Forget.cons rfl (Forget.nil _)))))))), ⟨i + 1, _, 1000, o, a, _, _, _, by omega, by omega, w, ph, (.inr ⟨by omega, rfl, hc2, hf⟩), rb, ra, rfl⟩, ?_⟩
      show ((la : Int) + 400 - ((i : Int) + 1)).toNat < ((la : Int) + 400 - (i : Int)).toNat
      omega
    have hal : 0 < (o.L k).length := by
      have : ¬ ((o.L k).length : Int) = 0 := by simpa using hq
      omega
    have hlk : (o.L k).length ≤ 200 := by
      have := cnt2_at o k
      omega
    rw [vis_cons hal] at hf
    conv => whnf
    rw [decide_eq_false hy2]
    conv => whnf
    refine ⟨kn k, rfl, kn_lt _, ?_⟩
    conv => whnf
    refine ⟨_, Cell.mk w.r15 (pair_at _ k), ?_⟩
    conv => whnf
    obtain ⟨i3, c3, p3, y1, y2, y4⟩ := (w.bag k).cell hal
    refine ⟨i3, c3, 0, y1, rfl, hal, ?_⟩
    conv => whnf
    refine ⟨_, y2, ?_⟩
    conv => whnf
    obtain ⟨gm31, b31, m31⟩ := lay_row (h := hz) (sz := 6) [i64 0, i64 0, i64 0, i64 0, i64 0, .sl none 0] (gC ((o.L k)[0], p3))
    refine ⟨_, _, gm31, Nat.le_of_ble_eq_true rfl, ?_⟩
    conv => whnf
    have nxc : ∀ k, ¬ chAll (D k) (PC k) hz.next := fun k q => Nat.lt_irrefl _ ((w.chan k).lt q)
    have nxa : ¬ hz.next = a14 + 1 := fun q => by
      have := hz.lt _ _ w.r15
      omega
    obtain ⟨a31, ha31⟩ : ∃ x, x = hz.next := ⟨_, rfl⟩
    rw [← ha31] at nxc nxa
    have w5 := w.old m31
    have rb5 := rb.get m31
    have ra5 := ra.get m31
    have y4 := y4.get m31
    have gd : (o.L k).getD 0 gv0 = (o.L k)[0] := by rw [List.getD_eq_getElem?_getD, List.getElem?_eq_getElem hal]; rfl
    rw [decide_eq_false hy2]
    conv => whnf
    have hOut := (w5.bag k).out hal
    obtain ⟨xs, ys, t1, t2, t3⟩ := hOut
    refine ⟨[0, 2, 3, 4, 5, 6, 8, 9, 10, 11, 12, 13, 1, 7, 14, 15, 16], [0, 0, 0, 4, 12, 0, 60, 126, 0, 256, 768, 0, 2048, 7936, 16382, 32767, 65535], by kernel_rfl, ?_⟩
    conv => whnf
    refine ⟨kn k, rfl, kn_lt _, ?_⟩
    conv => whnf
    refine ⟨_, Cell.mk w5.r15 (pair_at _ k), ?_⟩
    conv => whnf
    refine ⟨⟨_, (w5.bag k).row.weak⟩, 0, rfl, Nat.zero_le _, Nat.le_of_lt hal, ?_⟩
    conv => whnf
    refine ⟨kn k, rfl, kn_lt _, ?_⟩
    conv => whnf
    refine ⟨_, Cell.mk w5.r15 (pair_at _ k), ?_⟩
    conv => whnf
    try rw [wrap_i64 (x := (0 : Int) + 1) (by omega) (by omega)]
    refine ⟨⟨_, (w5.bag k).row.weak⟩, 0 + 1, (by first | rfl | omega), hal, Nat.le_refl _, ?_⟩
    conv => whnf
    obtain ⟨z1, z2, z3⟩ := app0 (h0 := hz) t1
    refine ⟨_, _, z1, z2, by rw [show (T.at_ 35).bytes = 64 from rfl]; omega, by omega, fun p1 h6 hs6 hm6 hf6 => ?_⟩
    obtain ⟨n6, mo6⟩ := z3 p1 h6 hs6 hm6 hf6
    have w6 := w5.old mo6
    have t2' := SlIs.old t2 mo6 (fun _ _ k => k)
    conv => whnf
    refine ⟨⟨⟨_, (w6.bag k).row.weak⟩, 0 + 1, (by first | rfl | omega), hal, Nat.le_refl _, rfl⟩, ?_⟩
    conv => whnf
    refine ⟨⟨_, Cell.mk w6.r15 (pair_at _ k), rfl⟩, ?_⟩
    conv => whnf
    rw [Nat.zero_add (0 - 0)]
    refine ⟨_, _, n6.1, t2', by rw [show (T.at_ 35).bytes = 64 from rfl]; omega, by omega, fun p2 h7 hs7 hm7 hf7 => ?_⟩
    obtain ⟨n7, mo7⟩ := appN n6 mo6 p2 h7 hs7 hm7 hf7
    have bag7 := t3 hs7 none_ mo7
    have w7 := w5.turnB k bag7 (mo7.mono (fun _ _ k => k.elim)) (fun i ⟨o, e⟩ => .inr (n7.2 i o e))
    conv => whnf
    refine ⟨kn k, rfl, kn_lt _, ?_⟩
    conv => whnf
    refine ⟨_, _, w7.r15, pair_fit k, ?_⟩
    conv => whnf
    obtain ⟨wB, mS⟩ := w7.set15 k (.sl p2 (0 - 0 + ((o.L k).length - (0 + 1))))
    have eR : updB (rowB PB o.L) k (.sl p2 (0 - 0 + ((o.L k).length - (0 + 1)))) = rowB (updB PB k p2) (updB o.L k ((o.L k).eraseIdx 0)) := by
      have e9 : ((o.L k).eraseIdx 0).length = 0 - 0 + ((o.L k).length - (0 + 1)) := by rw [List.length_eraseIdx_of_lt hal]; omega
      rw [← e9]
      exact rowB_upd _ _ _ _ _
    rw [eR] at wB
    have b31 : _ := mS.get (mo7.get b31 (.inl (fun k => k))) (.inl (by rw [← ha31]; exact nxa))
    have rbB := (rb5.get mo7).get mS
    have raB := (ra5.get mo7).get mS
    have y4 := (y4.get mo7).get mS
    rw [decide_eq_false hy2]
    conv => whnf
    have hcn2 : cnt2 o ≤ 200 := hc2
    have hgo := ph.go k _ (List.getElem_mem hal)
    have rm := ph.room (!k)
    obtain ⟨phF, hoct, hgl⟩ := ph.dlv k hal 1000
    have cnF := ph.iv.cnt_dlv k hal 1000
    have eR2 : recvV (o.W (!k)) 1000 (o.L k)[0] = dlvR o k 0 1000 := by unfold dlvR; rw [gd]
    refine ⟨[0, 1, 2, 3, 4, 5, 6, 7, 8, 9, 10, 11], [0, 1, 3, 7, 0, 0, 63, 127, 255, 255, 511, 2047], by kernel_rfl, ?_⟩
    conv => whnf
    rw [kn_not]
    refine ⟨kn (!k), rfl, kn_lt _, ?_⟩
    conv => whnf
    refine ⟨_, Cell.mk wB.r14 (pair_at _ (!k)), ?_⟩
    conv => whnf
    refine ⟨gC ((o.L k)[0], p3), Cells.mk b31 (Nat.le_of_ble_eq_true rfl) rfl, ?_⟩
    conv => whnf
    refine (cRecv (g := (o.L k)[0]) (p := p3) (wB.chan (!k)) (ph.ck (!k)) (by omega) (by omega) (now := 1000) (by decide) (by decide) (fun h' m => ((show RoSl _ _ _ _ _ from y4).get m).is) hgo.seq hgo.len).mono ?_
    rintro _ h3 ⟨qr, qa, pc3, rfl, rx, ga, s3, hp3, m3⟩
    have w3 := wB.turnC (!k) s3 m3 hp3
    rw [eR2] at rx ga w3 ⊢
    have rb := rbB.get m3
    have ra := raB.get m3
    obtain ⟨dw1, dw2⟩ := dlv_W o k 0 1000
    have hL3 : ((dlv o k 0 1000).L (!k)).length ≤ 200 := by
      have := cnt2_at (dlv o k 0 1000) k
      omega
    rw [(dlv_L o k 0 1000).2, List.length_append] at hL3
    have hG3 := phF.got k
    have hG4 := phF.got (!k)
    rw [Bool.not_not] at hG4
    have eG2 : (dlv o k 0 1000).G (!k) = o.G (!k) ++ (dlvR o k 0 1000).1.1 := (dlv_G o k 0 1000).2
    have hG5 := phF.bl k
    have hG6 : (o.G (!k)).length + (dlvR o k 0 1000).1.1.length ≤ 25 := by
      have := hG3.1
      rw [eG2, List.length_append] at this
      omega
    conv => whnf
    refine ⟨_, rfl, ?_⟩
    conv => whnf
    refine ⟨_, rfl, ?_⟩
    conv => whnf
    refine ⟨fun env hk => ∃ (j : Nat) (zj : Int) (PG2 : Bool → Option (Nat × Nat)), j ≤ (dlvR o k 0 1000).1.1.length ∧ zj = j ∧ WO hk D a14 (a14 + 1) (a14 + 1 + 1) (updB PC (!k) pc3) (updB o.W (!k) (dlvR o k 0 1000).2) (updB PB k p2) (updB o.L k ((o.L k).eraseIdx 0)) (rowB (updB PB k p2) (updB o.L k ((o.L k).eraseIdx 0))) PG2 (updB o.G (!k) (o.G (!k) ++ (dlvR o k 0 1000).1.1.take j)) (rowG PG2 (updB o.G (!k) (o.G (!k) ++ (dlvR o k 0 1000).1.1.take j))) ∧ Rws hk qr (dlvR o k 0 1000).1.1 ∧ Grams hk qa (dlvR o k 0 1000).1.2 ∧ Rws hk pb bs ∧ RoSl hk pa la 2 (pairs .i64 ps) ∧ env = [(34, i64 zj), (25, i64 (kn k : Int)), (24, i64 (i : Int)), (17, i64 1000), (1, .sl pb bs.length), (2, i64 (nk : Int)), (3, .sl pa la), (14, .ptr (some (a14, 0))), (15, .ptr (some (a14 + 1, 0))), (16, .ptr (some (a14 + 1 + 1, 0))), (32, .sl qr (dlvR o k 0 1000).1.1.length), (33, .sl qa (dlvR o k 0 1000).1.2.length)],
      fun env _ => match get env 34 with
        | .int _ z => (((dlvR o k 0 1000).1.1.length : Int) - z).toNat
        | _ => 0, ⟨_, Forget.cons rfl (Forget.cons rfl (Forget.cons rfl (Forget.cons rfl (Forget.cons rfl (Forget.cons rfl (Forget.cons rfl (Forget.cons rfl (Forget.cons rfl (Forget.cons rfl (Forget.cons rfl (Forget.cons rfl (Forget.nil _)))))))))))), 0, _, PG, Nat.zero_le _, rfl, (by rw [List.take_zero, List.append_nil, updB_idem]; exact w3), rx, ga, rb, ra, rfl⟩, ?_⟩
    clear w3 rx ga rb ra
    rintro _ h4 ⟨j, zj, PG2, hj, rfl, w4, rx, ga, rb, ra, rfl⟩
    conv => whnf
    refine br_mk (fun hx3 => ?_) (fun hx3 => ?_)
    · have hx3 : j < (dlvR o k 0 1000).1.1.length := by simpa using hx3
      conv => whnf
      refine ⟨[0, 1, 2, 3, 4, 5, 6, 7, 8, 9, 10, 11, 12, 13, 14], [0, 1, 0, 4, 12, 28, 0, 0, 192, 448, 960, 1984, 4092, 8191, 16383], by kernel_rfl, ?_⟩
      conv => whnf
      rw [kn_not]
      refine ⟨kn (!k), rfl, kn_lt _, ?_⟩
      conv => whnf
      refine ⟨_, Cell.mk w4.r16 (pair_at _ (!k)), ?_⟩
      conv => whnf
      obtain ⟨i5, c5, p5, z1, z2, z3⟩ := rx.cell hx3
      refine ⟨i5, c5, j, z1, rfl, hx3, ?_⟩
      conv => whnf
      refine ⟨_, z2, ?_⟩
      conv => whnf
      refine ⟨_, z3.is, hoct _ (List.getElem_mem hx3), ?_⟩
      conv => whnf
      have hgt := w4.got (!k)
      obtain ⟨u1, u2, u3⟩ := Gts.app1 hgt ((dlvR o k 0 1000).1.1[j])
      have hgl4 : (updB o.G (!k) (o.G (!k) ++ (dlvR o k 0 1000).1.1.take j) (!k)).length ≤ 25 := by
        rw [updB_same, List.length_append, List.length_take]
        omega
      refine ⟨_, _, u1, u2, by rw [show (T.at_ 9).bytes = 16 from rfl]; omega, by omega, fun p6 h6 hs6 hm6 hf6 => ?_⟩
      obtain ⟨b6, f6, m6⟩ := u3 p6 h6 hs6 hm6 hf6
      have w6 := w4.turnG (!k) b6 m6 f6
      conv => whnf
      refine ⟨kn (!k), rfl, kn_lt _, ?_⟩
      conv => whnf
      refine ⟨_, _, w6.r16, pair_fit (!k), ?_⟩
      conv => whnf
      obtain ⟨w7, mS7⟩ := w6.set16 (!k) (.sl p6 ((updB o.G (!k) (o.G (!k) ++ (dlvR o k 0 1000).1.1.take j) (!k)).length + 1))
      have eG : updB (updB o.G (!k) (o.G (!k) ++ (dlvR o k 0 1000).1.1.take j)) (!k) (updB o.G (!k) (o.G (!k) ++ (dlvR o k 0 1000).1.1.take j) (!k) ++ [(dlvR o k 0 1000).1.1[j]]) = updB o.G (!k) (o.G (!k) ++ (dlvR o k 0 1000).1.1.take (j + 1)) := by
        rw [updB_same, updB_twice, List.append_assoc, List.take_succ_eq_append_getElem hx3]
      have eR7 : updB (rowG PG2 (updB o.G (!k) (o.G (!k) ++ (dlvR o k 0 1000).1.1.take j))) (!k) (.sl p6 ((updB o.G (!k) (o.G (!k) ++ (dlvR o k 0 1000).1.1.take j) (!k)).length + 1)) = rowG (updB PG2 (!k) p6) (updB o.G (!k) (o.G (!k) ++ (dlvR o k 0 1000).1.1.take (j + 1))) := by
        rw [← eG, ← rowG_upd, List.length_append]
        rfl
      rw [eR7, eG] at w7
      rw [wrap_i64 (x := (j : Int) + 1) (by omega) (by omega)]
      refine ⟨_, Forget.cons rfl (Forget.cons rfl (Forget.cons rfl (Forget.cons rfl (Forget.cons rfl (Forget.cons rfl (Forget.cons rfl (Forget.cons rfl (Forget.cons rfl (Forget.cons rfl (Forget.cons rfl (Forget.cons rfl (Forget.nil _)))))))))))), ⟨j + 1, _, _, by omega, by omega, w7, (rx.get m6).get mS7, (ga.get m6).get mS7, (rb.get m6).get mS7, (ra.get m6).get mS7, rfl⟩, ?_⟩
      show (((dlvR o k 0 1000).1.1.length : Int) - ((j : Int) + 1)).toNat < (((dlvR o k 0 1000).1.1.length : Int) - (j : Int)).toNat
      omega
    have hx3 : j = (dlvR o k 0 1000).1.1.length := by
      have : ¬ (j : Int) < (dlvR o k 0 1000).1.1.length := by simpa using hx3
      omega
    rw [hx3, List.take_length] at w4
    have eL0 : updB o.L k ((o.L k).eraseIdx 0) (!k) = o.L (!k) := updB_ne _ _ (not_ne k)
    conv => whnf
    rw [kn_not]
    conv => whnf
    refine ⟨kn (!k), rfl, kn_lt _, ?_⟩
    conv => whnf
    refine ⟨_, Cell.mk w4.r15 (pair_at _ (!k)), ?_⟩
    conv => whnf
    have hL4 : (updB o.L k ((o.L k).eraseIdx 0) (!k)).length + (dlvR o k 0 1000).1.2.length ≤ 200 := by rw [eL0]; exact hL3
    obtain ⟨xs9, ys9, y1, y2, y3⟩ := (w4.bag (!k)).app ga
    refine ⟨_, _, y1, y2, by rw [show (T.at_ 35).bytes = 64 from rfl]; omega, by omega, fun p9 h9 hs9 hm9 hf9 => ?_⟩
    obtain ⟨b9, f9⟩ := y3 p9 h9 hs9 hm9 hf9
    have w9 := w4.turnB (!k) b9 hm9 f9
    conv => whnf
    refine ⟨(kn (!k)), rfl, kn_lt (!k), ?_⟩
    conv => whnf
    refine ⟨_, _, w9.r15, pair_fit (!k), ?_⟩
    conv => whnf
    obtain ⟨wA, mS⟩ := w9.set15 (!k) (.sl p9 (((updB o.L k ((o.L k).eraseIdx 0)) (!k)).length + ((dlvR o k 0 1000).1.2).length))
    have eR : updB (rowB (updB PB k p2) (updB o.L k ((o.L k).eraseIdx 0))) (!k) (.sl p9 (((updB o.L k ((o.L k).eraseIdx 0)) (!k)).length + ((dlvR o k 0 1000).1.2).length)) = rowB (updB (updB PB k p2) (!k) p9) (updB (updB o.L k ((o.L k).eraseIdx 0)) (!k) ((updB o.L k ((o.L k).eraseIdx 0)) (!k) ++ (dlvR o k 0 1000).1.2)) := by
      rw [show ((updB o.L k ((o.L k).eraseIdx 0)) (!k)).length + ((dlvR o k 0 1000).1.2).length = ((updB o.L k ((o.L k).eraseIdx 0)) (!k) ++ (dlvR o k 0 1000).1.2).length from List.length_append.symm]
      exact rowB_upd _ _ _ _ _
    rw [eR] at wA
    have rb := (rb.get hm9).get mS
    have ra := (ra.get hm9).get mS
    have eL3 : updB (updB o.L k ((o.L k).eraseIdx 0)) (!k) (updB o.L k ((o.L k).eraseIdx 0) (!k) ++ (dlvR o k 0 1000).1.2) = (dlv o k 0 1000).L := by
      show _ = updB (updB o.L k ((o.L k).eraseIdx 0)) (!k) (o.L (!k) ++ (dlvR o k 0 1000).1.2)
      rw [eL0]
    rw [eL3] at wA
    have wF : WO _ D a14 (a14 + 1) (a14 + 1 + 1) (updB PC (!k) pc3) (dlv o k 0 1000).W (updB (updB PB k p2) (!k) p9) (dlv o k 0 1000).L (rowB (updB (updB PB k p2) (!k) p9) (dlv o k 0 1000).L) PG2 (dlv o k 0 1000).G (rowG PG2 (dlv o k 0 1000).G) := wA
    have q1 := phF.got false
    rw [hB0] at q1
    have q1 : ((dlv o k 0 1000).G true).length ≤ bs.length ∧ ∀ j (h1 : j < ((dlv o k 0 1000).G true).length) (h2 : j < bs.length), ((dlv o k 0 1000).G true)[j] = bs[j] := q1
    have q2 := phF.got true
    rw [hB1] at q2
    have q2 : ((dlv o k 0 1000).G false).length ≤ (bts nk).length ∧ ∀ j (h1 : j < ((dlv o k 0 1000).G false).length) (h2 : j < (bts nk).length), ((dlv o k 0 1000).G false)[j] = (bts nk)[j] := q2
    have q3 := bts_len nk
    refine ⟨1, rfl, by decide, ?_⟩
    conv => whnf
    refine ⟨_, Cell.mk wF.r16 (pair_at _ true), ?_⟩
    conv => whnf
    refine br_mk (fun hI => ?_) (fun hI => ?_)
    · exact absurd (of_decide_eq_true hI) (by
        show ¬ (((dlv o k 0 1000).G true).length : Int) > (bs.length : Int)
        omega)
    conv => whnf
    refine ⟨0, rfl, by decide, ?_⟩
    conv => whnf
    refine ⟨_, Cell.mk wF.r16 (pair_at _ false), ?_⟩
    conv => whnf
    refine br_mk (fun hI => ?_) (fun hI => ?_)
    · exact absurd (of_decide_eq_true hI) (by
        show ¬ (((dlv o k 0 1000).G false).length : Int) > (nk : Int)
        omega)
    conv => whnf
    refine ⟨fun env hk => ∃ (j : Nat) (zj : Int), j ≤ ((dlv o k 0 1000).G true).length ∧ zj = j ∧ WO hk D a14 (a14 + 1) (a14 + 1 + 1) (updB PC (!k) pc3) (dlv o k 0 1000).W (updB (updB PB k p2) (!k) p9) (dlv o k 0 1000).L (rowB (updB (updB PB k p2) (!k) p9) (dlv o k 0 1000).L) PG2 (dlv o k 0 1000).G (rowG PG2 (dlv o k 0 1000).G) ∧ Rws hk pb bs ∧ RoSl hk pa la 2 (pairs .i64 ps) ∧ env = [(35, i64 zj), (24, i64 (i : Int)), (17, i64 1000), (1, .sl pb bs.length), (2, i64 (nk : Int)), (3, .sl pa la), (14, .ptr (some (a14, 0))), (15, .ptr (some (a14 + 1, 0))), (16, .ptr (some (a14 + 1 + 1, 0)))],
      fun env _ => match get env 35 with
        | .int _ z => ((((dlv o k 0 1000).G true).length : Int) - z).toNat
        | _ => 0, ⟨_, Forget.cons rfl (Forget.cons rfl (Forget.cons rfl (Forget.cons rfl (Forget.cons rfl (Forget.cons rfl (Forget.cons rfl (Forget.cons rfl (Forget.cons rfl (Forget.nil _))))))))), 0, _, Nat.zero_le _, rfl, wF, rb, ra, rfl⟩, ?_⟩
    clear wF rb ra
    rintro _ h5 ⟨j, zj, hj, rfl, wF, rb, ra, rfl⟩
    conv => whnf
    refine ⟨1, rfl, by decide, ?_⟩
    conv => whnf
    refine ⟨_, Cell.mk wF.r16 (pair_at _ true), ?_⟩
    conv => whnf
    refine br_mk (fun hx4 => ?_) (fun hx4 => ?_)
    · conv => whnf
      have hx4 : j < ((dlv o k 0 1000).G true).length := by simpa using hx4
      have hxb : j < bs.length := by omega
      refine ⟨[0, 1, 2, 3, 4, 5, 6, 7, 8, 9, 10], [0, 1, 0, 7, 15, 0, 0, 96, 224, 480, 1023], by kernel_rfl, ?_⟩
      conv => whnf
      refine ⟨1, rfl, by decide, ?_⟩
      conv => whnf
      refine ⟨_, Cell.mk wF.r16 (pair_at _ true), ?_⟩
      conv => whnf
      obtain ⟨i6, c6, u1, u2⟩ := (wF.got true).cell hx4
      refine ⟨i6, c6, j, u1, rfl, hx4, ?_⟩
      conv => whnf
      refine ⟨_, u2, ?_⟩
      conv => whnf
      obtain ⟨i7, c7, p7, v1, v2, v3⟩ := rb.cell hxb
      refine ⟨i7, c7, j, v1, rfl, hxb, ?_⟩
      conv => whnf
      refine ⟨_, v2, ?_⟩
      conv => whnf
      refine ⟨_, v3.is, ob _ (List.getElem_mem hxb), ?_⟩
      conv => whnf
      refine br_mk (fun hI => ?_) (fun hI => ?_)
      · exact absurd hI (by rw [q1.2 j hx4 hxb]; simp)
      conv => whnf
      rw [wrap_i64 (x := (j : Int) + 1) (by omega) (by omega)]
      refine ⟨_, Forget.cons rfl (Forget.cons rfl (Forget.cons rfl (Forget.cons rfl (Forget.cons rfl (Forget.cons rfl (Forget.cons rfl (Forget.cons rfl (Forget.cons rfl (Forget.nil _))))))))), ⟨j + 1, _, by omega, by omega, wF, rb, ra, rfl⟩, ?_⟩
      show ((((dlv o k 0 1000).G true).length : Int) - ((j : Int) + 1)).toNat < ((((dlv o k 0 1000).G true).length : Int) - (j : Int)).toNat
      omega
    conv => whnf
    clear hx4 hj
    refine ⟨fun env hk => ∃ (j : Nat) (zj : Int), j ≤ ((dlv o k 0 1000).G false).length ∧ zj = j ∧ WO hk D a14 (a14 + 1) (a14 + 1 + 1) (updB PC (!k) pc3) (dlv o k 0 1000).W (updB (updB PB k p2) (!k) p9) (dlv o k 0 1000).L (rowB (updB (updB PB k p2) (!k) p9) (dlv o k 0 1000).L) PG2 (dlv o k 0 1000).G (rowG PG2 (dlv o k 0 1000).G) ∧ Rws hk pb bs ∧ RoSl hk pa la 2 (pairs .i64 ps) ∧ env = [(36, i64 zj), (24, i64 (i : Int)), (17, i64 1000), (1, .sl pb bs.length), (2, i64 (nk : Int)), (3, .sl pa la), (14, .ptr (some (a14, 0))), (15, .ptr (some (a14 + 1, 0))), (16, .ptr (some (a14 + 1 + 1, 0)))],
      fun env _ => match get env 36 with
        | .int _ z => ((((dlv o k 0 1000).G false).length : Int) - z).toNat
        | _ => 0, ⟨_, Forget.cons rfl (Forget.cons rfl (Forget.cons rfl (Forget.cons rfl (Forget.cons rfl (Forget.cons rfl (Forget.cons rfl (Forget.cons rfl (Forget.cons rfl (Forget.nil _))))))))), 0, _, Nat.zero_le _, rfl, wF, rb, ra, rfl⟩, ?_⟩
    clear wF rb ra
    rintro _ h6 ⟨j, zj, hj, rfl, wF, rb, ra, rfl⟩
    conv => whnf
    refine ⟨0, rfl, by decide, ?_⟩
    conv => whnf
    refine ⟨_, Cell.mk wF.r16 (pair_at _ false), ?_⟩
    conv => whnf
    refine br_mk (fun hx4 => ?_) (fun hx4 => ?_)
    · conv => whnf
      have hx4 : j < ((dlv o k 0 1000).G false).length := by simpa using hx4
      have hxb : j < (bts nk).length := by omega
      refine ⟨[0, 1, 2, 3, 4, 5, 6, 7, 8, 9], [0, 1, 0, 7, 15, 0, 32, 96, 224, 511], by kernel_rfl, ?_⟩
      conv => whnf
      refine ⟨0, rfl, by decide, ?_⟩
      conv => whnf
      refine ⟨_, Cell.mk wF.r16 (pair_at _ false), ?_⟩
      conv => whnf
      obtain ⟨i6, c6, u1, u2⟩ := (wF.got false).cell hx4
      refine ⟨i6, c6, j, u1, rfl, hx4, ?_⟩
      conv => whnf
      refine ⟨_, u2, ?_⟩
      conv => whnf
      rw [u8_sm (x := (j : Int)) (by omega) (by omega)]
      obtain ⟨l7, n7⟩ := laid_oct h6 [(j : Int)]
      refine ⟨_, l7, (fun x hx2 => by
        have : x = (j : Int) := by simpa using hx2
        omega), ?_⟩
      conv => whnf
      refine br_mk (fun hI => ?_) (fun hI => ?_)
      · exact absurd hI (by rw [q2.2 j hx4 hxb, bts_get]; simp)
      conv => whnf
      rw [wrap_i64 (x := (j : Int) + 1) (by omega) (by omega)]
      refine ⟨_, Forget.cons rfl (Forget.cons rfl (Forget.cons rfl (Forget.cons rfl (Forget.cons rfl (Forget.cons rfl (Forget.cons rfl (Forget.cons rfl (Forget.cons rfl (Forget.nil _))))))))), ⟨j + 1, _, by omega, by omega, wF.old n7, rb.get n7, ra.get n7, rfl⟩, ?_⟩
      show ((((dlv o k 0 1000).G false).length : Int) - ((j : Int) + 1)).toNat < ((((dlv o k 0 1000).G false).length : Int) - (j : Int)).toNat
      omega
    conv => whnf
    have cnD := ph.iv.cnt_dlv k hal 1000
    rw [wrap_i64 (x := (i : Int) + 1) (by omega) (by omega)]
    refine ⟨_, Forget.cons rfl (Forget.cons rfl (Forget.cons rfl (Forget.cons rfl (Forget.cons rfl (Forget.cons rfl (Forget.cons rfl (Forget.cons rfl (Forget.nil _)))))))), ⟨i + 1, _, 1000, (dlv o k 0 1000), (dlvA o a k 0), _, _, _, by omega, by omega, wF, phF, (.inr ⟨by omega, rfl, by omega, hf⟩), rb, ra, rfl⟩, ?_⟩
    show ((la : Int) + 400 - ((i : Int) + 1)).toNat < ((la : Int) + 400 - (i : Int)).toNat
    omega
end Go.Proofs.Ytoljllfbabahpaa
