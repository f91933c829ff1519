/- ShutsActs: its walk. -/
import Derived.Test.YtpefdmidfllhoaaQ11
set_option linter.unusedVariables false
namespace Go.Proofs.Ytpefdmidfllhoaa
open Go Go.Ab
structure ShA where
  kind : Int
  till : Int
  lp : Option (Nat × Nat)
  l : List Int
def ShA.cells (a : ShA) : List V := [i64 a.kind, i64 a.till, .sl a.lp a.l.length]
def ShAs (h : H) (p : Option (Nat × Nat)) (n : Nat) (es : List ShA) : Prop := RoSl h p n 3 (es.flatMap ShA.cells) ∧ ∀ e ∈ es, RoSl h e.lp e.l.length 1 (ints .i64 e.l)
theorem ShAs.len {h : H} {p : Option (Nat × Nat)} {n : Nat} {es : List ShA} (o : ShAs h p n es) : n = es.length := by
  have := o.1.1
  rw [flat_length (sz := 3) (fun _ => rfl)] at this
  omega
theorem ShAs.get {S : Nat → Prop} {h h' : H} {p : Option (Nat × Nat)} {n : Nat} {es : List ShA} (o : ShAs h p n es) (m : Ab.Mod S h h') : ShAs h' p n es :=
  ⟨o.1.get m, fun e he => (o.2 e he).get m⟩
theorem setV_pos {U : List Int} (hp : Pos U) {u : Int} (hu : 0 ≤ u) (E : List Int) : Pos (setV U u E) := fun k => by
  by_cases hk : k < U.length
  · rw [setV_get _ _ _ hk]
    split
    · exact hu
    · exact hp k
  · rw [List.getD_eq_getElem?_getD, List.getElem?_eq_none (by rw [setV_length]; omega)]
    exact Int.le_refl _
theorem clU_pos {U : List Int} (hp : Pos U) {ok : Bool} {u : Int} (hu : ok = true → 0 ≤ u) (E : List Int) : Pos (clU U ok u E) := by
  unfold clU
  cases ok with
  | true => exact setV_pos hp (hu rfl) E
  | false => exact hp
theorem clU_length (U : List Int) (ok : Bool) (u : Int) (E : List Int) : (clU U ok u E).length = U.length := by
  unfold clU
  cases ok
  · rfl
  · exact setV_length _ _ _
theorem okC_pos {n : Nat} {u : Int} {E : List Int} (h : okC n u E = true) : 0 ≤ u := by
  simp only [okC, inR, Bool.and_eq_true, decide_eq_true_eq] at h
  omega
theorem nuls_pos (n : Nat) : Pos (List.replicate n 0) := fun k => by
  rw [List.getD_eq_getElem?_getD, List.getElem?_replicate]
  split <;> simp
theorem clO_le {U : List Int} (ok : Bool) (u : Int) (E : List Int) : (clO U ok u E).length ≤ U.length := by
  unfold clO
  cases ok
  · simp
  · exact pl_le _ _
theorem mask_get {U : List Int} {j : Nat} (h : j < U.length) : (maskV U).getD j false = decide (0 < U.getD j 0) := by
  simp [maskV, List.getD_eq_getElem?_getD, h]
theorem mask_len (U : List Int) : (maskV U).length = U.length := by simp [maskV]
theorem clB_nat {U : List Int} {j : Nat} (h : j < U.length) : clB U j = decide (0 < U.getD j 0) := by
  rw [clB, decide_eq_true (by omega), decide_eq_true (show (j : Int) < (U.length : Int) by omega)]
  rfl
theorem shuts11 {h : H} {pa : Option (Nat × Nat)} {n : Nat} {es : List ShA} (ac : ShAs h pa n es) (x : Int) : ACalls Try.prog 11 [i64 x, .sl pa n] h (fun r _ => r = .bool true) := by
  have hn := ac.len
  refine call_ Try.func11 rfl rfl (by kernel_rfl) ?_
  conv => whnf
  refine br_mk (fun ha => ?_) (fun ha => ?_)
  · conv => whnf
    refine (awake43 h).mono ?_
    rintro _ h1 rfl
    conv => whnf
  conv => whnf
  have ha : n ≤ 60 := by
    have : ¬ (n : Int) > 60 := by simpa using ha
    omega
  refine (new44 h x).mono ?_
  rintro _ h1 q1
  by_cases hx : inR x 0 512 = true
  rotate_left
  · have hx : inR x 0 512 = false := by simpa using hx
    obtain ⟨rfl, m1⟩ := new_no q1 hx
    conv => whnf
    refine (new45 h1 x).mono ?_
    rintro _ h2 q2
    obtain ⟨rfl, m2⟩ := new_no q2 hx
    conv => whnf
    refine (awake43 h2).mono ?_
    rintro _ h3 rfl
    conv => whnf
  obtain ⟨g, p, rfl, s1, f1, m1⟩ := new_yes q1 hx
  conv => whnf
  refine (new45 h1 x).mono ?_
  rintro _ h2 q2
  obtain ⟨gr, pr, rfl, s2, f2, m2⟩ := new_yes q2 hx
  have apart : ∀ i, foot g p i → foot gr pr i → False := fun i a b => by
    have := s1.lt i a
    have := f2 i b
    omega
  have hxn : x.toNat ≤ 512 := by
    have : 0 ≤ x ∧ x ≤ 512 := by simpa [inR] using hx
    omega
  have ac := (ac.get m1).get m2
  have s1 := s1.old m2 (fun _ _ k => k)
  clear q1 q2 f1 f2 m1 m2
  conv => whnf
  refine ⟨fun env hh => ∃ (j : Nat) (z : Int) (U : List Int), j ≤ n ∧ z = j ∧ St hh g p U ∧ St hh gr pr U ∧ Pos U ∧ U.length ≤ 512 ∧ ShAs hh pa n es ∧ env = [(7, i64 z), (1, .sl pa n), (5, .ptr (some (g, 0))), (6, .ptr (some (gr, 0)))],
    fun env _ => match get env 7 with
      | .int _ z => (n - z).toNat
      | _ => 0, ⟨_, Forget.cons rfl (Forget.cons rfl (Forget.cons rfl (Forget.cons rfl (Forget.nil _)))), 0, _, List.replicate x.toNat 0, Nat.zero_le _, rfl, s1, s2, nuls_pos _, by rw [List.length_replicate]; exact hxn, ac, rfl⟩, ?_⟩
  clear s1 s2 ac
  rintro _ hh ⟨j, z, U, hj, rfl, sp, sr, hU, hUl, ac, rfl⟩
  conv => whnf
  refine br_mk (fun hd => ?_) (fun hd => ?_)
  · conv => whnf
    have hd : j < n := by simpa using hd
    have hdl : j < es.length := by omega
    obtain ⟨i1, c1, k1, k2, _⟩ := sls_get (f := ShA.cells) (sz := 3) (fun _ => rfl) ac.1.is hn hdl
    refine ⟨i1, c1, j, k1, rfl, hd, ?_⟩
    conv => whnf
    refine ⟨_, k2, ?_⟩
    conv => whnf
    obtain ⟨gm, gn, ml⟩ := lay_row (h := hh) (sz := 3) [i64 0, i64 0, .sl none 0] (ShA.cells es[j])
    refine ⟨_, _, gm, Nat.le_of_ble_eq_true rfl, ?_⟩
    conv => whnf
    have sp0 := sp
    have sr0 := sr
    have re := (ac.2 _ (getElem_in hdl)).get ml
    have ac := ac.get ml
    have sp := sp.old ml (fun _ _ k => k)
    have sr := sr.old ml (fun _ _ k => k)
    clear k1 k2 gm ml
    refine ⟨_, Cell.mk gn rfl, ?_⟩
    conv => whnf
    have hnb : ∀ i, foot g p i → i ≠ hh.next := fun i k => by
      have := sp0.lt i k
      omega
    have hnr : ∀ i, foot gr pr i → i ≠ hh.next := fun i k => by
      have := sr0.lt i k
      omega
    generalize es[j] = e at re gn ac sp sr ⊢
    refine br_mk (fun hb => ?_) (fun hb => ?_)
    · conv => whnf
      refine (awake43 _).mono ?_
      rintro _ h3 rfl
      conv => whnf
    have hb : e.l.length ≤ 20 := by
      have : ¬ (e.l.length : Int) > 20 := by simpa using hb
      omega
    conv => whnf
    refine ⟨_, Cell.mk gn rfl, ?_⟩
    conv => whnf
    refine br_mk (fun hk => ?_) (fun hk => ?_)
    · conv => whnf
      refine ⟨_, Cell.mk gn rfl, ?_⟩
      conv => whnf
      refine ⟨_, Cell.mk gn rfl, ?_⟩
      conv => whnf
      refine (close46r sp re.is (by omega) hUl e.till).mono ?_
      rintro _ h4 ⟨q4, rfl, r4, sp, m4⟩
      have sr := sr.get m4 (fun i a b => apart i (.inr b) a)
      have ac := ac.get m4
      have re := re.get m4
      have bx := m4.get gn (.inl (fun k => hnb _ (.inr k) rfl))
      conv => whnf
      refine ⟨_, rfl, ?_⟩
      conv => whnf
      refine ⟨_, rfl, ?_⟩
      conv => whnf
      refine ⟨_, Cell.mk bx rfl, ?_⟩
      conv => whnf
      refine ⟨_, Cell.mk bx rfl, ?_⟩
      conv => whnf
      refine (close47r sr (Nums.of_ro re) (by omega) hUl hU e.till).mono ?_
      rintro _ h5 ⟨q5, rfl, r5, sr, m5⟩
      have sp := sp.get m5 (fun i a b => apart i a (.inr b))
      have ac := ac.get m5
      have r4 := r4.get m5
      have bx := m5.get bx (.inl (fun k => hnr _ (.inr k) rfl))
      conv => whnf
      refine ⟨_, rfl, ?_⟩
      conv => whnf
      refine ⟨_, rfl, ?_⟩
      conv => whnf
      have hlo := clO_le (U := U) (okC U.length e.till e.l) e.till e.l
      refine (ints33 r4.is r5.is (by omega)).mono ?_
      rintro _ h6 ⟨eh, rfl⟩
      subst eh
      rw [decide_eq_true rfl]
      conv => whnf
      refine br_mk (fun hz => ?_) (fun hz => ?_)
      · exact absurd hz (by simp)
      clear hz
      have hV := clU_pos hU (ok := okC U.length e.till e.l) (u := e.till) okC_pos e.l
      have hVl := clU_length U (okC U.length e.till e.l) e.till e.l
      generalize clU U (okC U.length e.till e.l) e.till e.l = V2 at sp sr hV hVl
      obtain ⟨hVl2, hV2⟩ : V2.length ≤ 512 ∧ Pos V2 := ⟨by omega, hV⟩
      conv => whnf
      refine (mask52r sp hVl2).mono ?_
      rintro _ hM1 ⟨qm1, rfl, rm1, mM1⟩
      conv => whnf
      refine (mask53r (sr.old mM1 (fun _ _ k => k)) hVl2 hV2).mono ?_
      rintro _ hM2 ⟨qm2, rfl, rm2, mM2⟩
      have rm1 := rm1.get mM2
      have sp := (sp.old mM1 (fun _ _ k => k)).old mM2 (fun _ _ k => k)
      have sr := (sr.old mM1 (fun _ _ k => k)).old mM2 (fun _ _ k => k)
      have ac := (ac.get mM1).get mM2
      have bx := mM2.get (mM1.get bx (.inl (fun k => k))) (.inl (fun k => k))
      conv => whnf
      refine ⟨[0, 1, 2, 3, 4, 5, 6, 8, 7, 9, 10, 11, 12, 13, 14, 15, 16, 18, 19, 20, 17, 21, 22, 23, 24, 25, 26, 27, 28, 29, 30, 31, 32, 33, 34, 35, 36], [0, 1, 0, 4, 15, 31, 63, 127, 63, 511, 1023, 2047, 4095, 8191, 16383, 16383, 49151, 131071, 16383, 278527, 802815, 2097151, 4194303, 8388607, 4194303, 20971519, 67108863, 134217727, 268435455, 536870911, 536870911, 1610612735, 4294967295, 8589934591, 17179869183, 34359738367, 68719476735], by kernel_rfl, ?_⟩
      conv => whnf
      refine br_mk (fun hx => ?_) (fun hx => ?_)
      · exact absurd hx (by simp)
      clear hx
      conv => whnf
      refine (all55r sp hVl2).mono ?_
      rintro _ hA1 ⟨qa1, rfl, ra1, mA1⟩
      conv => whnf
      refine (all56r (sr.old mA1 (fun _ _ k => k)) hVl2 hV2).mono ?_
      rintro _ hA2 ⟨qa2, rfl, ra2, mA2⟩
      have ra1 := ra1.get mA2
      have sp := (sp.old mA1 (fun _ _ k => k)).old mA2 (fun _ _ k => k)
      have sr := (sr.old mA1 (fun _ _ k => k)).old mA2 (fun _ _ k => k)
      have ac := (ac.get mA1).get mA2
      have bx := mA2.get (mA1.get bx (.inl (fun k => k))) (.inl (fun k => k))
      have rm1 := (rm1.get mA1).get mA2
      have rm2 := (rm2.get mA1).get mA2
      have hal := allV_len V2
      conv => whnf
      refine (same54 ra1.is ra2.is rfl rfl (by omega)).mono ?_
      rintro _ hS ⟨eh, rfl⟩
      subst eh
      rw [decide_eq_true rfl]
      conv => whnf
      refine ⟨_, Cell.mk bx rfl, ?_⟩
      conv => whnf
      refine ⟨_, Cell.mk bx rfl, ?_⟩
      conv => whnf
      refine (closed57 sp e.till).mono ?_
      rintro _ hS2 ⟨eh, rfl⟩
      subst eh
      conv => whnf
      refine ⟨⟨_, Cell.mk bx rfl, rfl⟩, ?_⟩
      conv => whnf
      refine br_mk (fun hp1 => ?_) (fun hp1 => ?_)
      · conv => whnf
        have hp1 : 0 ≤ e.till := by simpa using hp1
        refine ⟨_, Cell.mk bx rfl, ?_⟩
        conv => whnf
        refine br_mk (fun hp2 => ?_) (fun hp2 => ?_)
        · conv => whnf
          have hp2 : e.till < (V2.length : Int) := by simpa using hp2
          refine ⟨_, Cell.mk bx rfl, ?_⟩
          conv => whnf
          have hp3 : e.till.toNat < V2.length := by omega
          obtain ⟨i3, c3, v1, v2⟩ := slb_get rm2.is (mask_len _) hp3
          rw [mask_get hp3] at v2
          refine ⟨i3, c3, e.till.toNat, v1, by omega, hp3, ?_⟩
          conv => whnf
          refine ⟨_, v2, ?_⟩
          conv => whnf
          have hcl : clB V2 e.till = decide (0 < V2.getD e.till.toNat 0) := by
            rw [clB, decide_eq_true hp1, decide_eq_true hp2]
            rfl
          refine br_mk (fun hz => ?_) (fun hz => ?_)
          · rw [hcl] at hz
            exact absurd hz (by simp)
          clear hz
          conv => whnf
          refine ⟨fun env hk => ∃ (k : Nat) (zk : Int), k ≤ V2.length ∧ zk = k ∧ St hk g p V2 ∧ St hk gr pr V2 ∧ ShAs hk pa n es ∧ RoSl hk qm1 V2.length 1 (bools (maskV V2)) ∧ RoSl hk qm2 V2.length 1 (bools (maskV V2)) ∧ env = [(19, i64 zk), (17, .sl qm1 V2.length), (18, .sl qm2 V2.length), (5, .ptr (some (g, 0))), (6, .ptr (some (gr, 0))), (7, i64 (j : Int)), (1, .sl pa n)],
            fun env _ => match get env 19 with
              | .int _ z => (V2.length - z).toNat
              | _ => 0, ⟨_, Forget.cons rfl (Forget.cons rfl (Forget.cons rfl (Forget.cons rfl (Forget.cons rfl (Forget.cons rfl (Forget.cons rfl (Forget.nil _))))))), 0, _, Nat.zero_le _, rfl, sp, sr, ac, rm1, rm2, rfl⟩, ?_⟩
          clear sp sr ac rm1 rm2
          rintro _ hK ⟨k, zk, hk2, rfl, sp, sr, ac, rm1, rm2, rfl⟩
          conv => whnf
          refine br_mk (fun hy => ?_) (fun hy => ?_)
          · conv => whnf
            have hy : k < V2.length := by simpa using hy
            refine ⟨[0, 1, 2, 3, 4, 5, 6, 7, 8, 9, 10, 11, 13, 14, 15, 16, 12, 17, 18], [0, 0, 3, 7, 0, 0, 48, 112, 255, 511, 1023, 1023, 4095, 1023, 1023, 25599, 58367, 131071, 262143], by kernel_rfl, ?_⟩
            conv => whnf
            obtain ⟨i3, c3, v1, v2⟩ := slb_get rm1.is (mask_len _) hy
            obtain ⟨i4, c4, v3, v4⟩ := slb_get rm2.is (mask_len _) hy
            rw [mask_get hy] at v2 v4
            refine ⟨i3, c3, k, v1, rfl, hy, ?_⟩
            conv => whnf
            refine ⟨_, v2, ?_⟩
            conv => whnf
            refine ⟨i4, c4, k, v3, rfl, hy, ?_⟩
            conv => whnf
            refine ⟨_, v4, ?_⟩
            conv => whnf
            refine br_mk (fun hz => ?_) (fun hz => ?_)
            · exact absurd hz (by simp)
            clear hz
            conv => whnf
            refine ⟨i4, c4, k, v3, rfl, hy, ?_⟩
            conv => whnf
            refine ⟨_, v4, ?_⟩
            conv => whnf
            refine (closed57 sp k).mono ?_
            rintro _ hK2 ⟨eh, rfl⟩
            subst eh
            rw [clB_nat hy]
            conv => whnf
            refine ⟨⟨_, v4, rfl⟩, ?_⟩
            conv => whnf
            refine br_mk (fun hz => ?_) (fun hz => ?_)
            · exact absurd hz (by simp)
            clear hz
            conv => whnf
            exact ⟨_, Forget.cons rfl (Forget.cons rfl (Forget.cons rfl (Forget.cons rfl (Forget.cons rfl (Forget.cons rfl (Forget.cons rfl (Forget.nil _))))))), ⟨k + 1, _, hy, succ_i64 hy (by omega), sp, sr, ac, rm1, rm2, rfl⟩, mu_lt hy (by omega)⟩
          · conv => whnf
            exact ⟨_, Forget.cons rfl (Forget.cons rfl (Forget.cons rfl (Forget.cons rfl (Forget.nil _)))), ⟨j + 1, _, V2, hd, succ_i64 hd (by omega), sp, sr, hV, hVl2, ac, rfl⟩, mu_lt hd (by omega)⟩
        · conv => whnf
          have hp2 : ¬ e.till < (V2.length : Int) := by simpa using hp2
          have hcl : clB V2 e.till = false := by rw [clB, decide_eq_false hp2, Bool.and_false, Bool.false_and]
          refine br_mk (fun hz => ?_) (fun hz => ?_)
          · rw [hcl] at hz
            exact absurd hz (by simp)
          clear hz
          conv => whnf
          refine ⟨fun env hk => ∃ (k : Nat) (zk : Int), k ≤ V2.length ∧ zk = k ∧ St hk g p V2 ∧ St hk gr pr V2 ∧ ShAs hk pa n es ∧ RoSl hk qm1 V2.length 1 (bools (maskV V2)) ∧ RoSl hk qm2 V2.length 1 (bools (maskV V2)) ∧ env = [(19, i64 zk), (17, .sl qm1 V2.length), (18, .sl qm2 V2.length), (5, .ptr (some (g, 0))), (6, .ptr (some (gr, 0))), (7, i64 (j : Int)), (1, .sl pa n)],
            fun env _ => match get env 19 with
              | .int _ z => (V2.length - z).toNat
              | _ => 0, ⟨_, Forget.cons rfl (Forget.cons rfl (Forget.cons rfl (Forget.cons rfl (Forget.cons rfl (Forget.cons rfl (Forget.cons rfl (Forget.nil _))))))), 0, _, Nat.zero_le _, rfl, sp, sr, ac, rm1, rm2, rfl⟩, ?_⟩
          clear sp sr ac rm1 rm2
          rintro _ hK ⟨k, zk, hk2, rfl, sp, sr, ac, rm1, rm2, rfl⟩
          conv => whnf
          refine br_mk (fun hy => ?_) (fun hy => ?_)
          · conv => whnf
            have hy : k < V2.length := by simpa using hy
            refine ⟨[0, 1, 2, 3, 4, 5, 6, 7, 8, 9, 10, 11, 13, 14, 15, 16, 12, 17, 18], [0, 0, 3, 7, 0, 0, 48, 112, 255, 511, 1023, 1023, 4095, 1023, 1023, 25599, 58367, 131071, 262143], by kernel_rfl, ?_⟩
            conv => whnf
            obtain ⟨i3, c3, v1, v2⟩ := slb_get rm1.is (mask_len _) hy
            obtain ⟨i4, c4, v3, v4⟩ := slb_get rm2.is (mask_len _) hy
            rw [mask_get hy] at v2 v4
            refine ⟨i3, c3, k, v1, rfl, hy, ?_⟩
            conv => whnf
            refine ⟨_, v2, ?_⟩
            conv => whnf
            refine ⟨i4, c4, k, v3, rfl, hy, ?_⟩
            conv => whnf
            refine ⟨_, v4, ?_⟩
            conv => whnf
            refine br_mk (fun hz => ?_) (fun hz => ?_)
            · exact absurd hz (by simp)
            clear hz
            conv => whnf
            refine ⟨i4, c4, k, v3, rfl, hy, ?_⟩
            conv => whnf
            refine ⟨_, v4, ?_⟩
            conv => whnf
            refine (closed57 sp k).mono ?_
            rintro _ hK2 ⟨eh, rfl⟩
            subst eh
            rw [clB_nat hy]
            conv => whnf
            refine ⟨⟨_, v4, rfl⟩, ?_⟩
            conv => whnf
            refine br_mk (fun hz => ?_) (fun hz => ?_)
            · exact absurd hz (by simp)
            clear hz
            conv => whnf
            exact ⟨_, Forget.cons rfl (Forget.cons rfl (Forget.cons rfl (Forget.cons rfl (Forget.cons rfl (Forget.cons rfl (Forget.cons rfl (Forget.nil _))))))), ⟨k + 1, _, hy, succ_i64 hy (by omega), sp, sr, ac, rm1, rm2, rfl⟩, mu_lt hy (by omega)⟩
          · conv => whnf
            exact ⟨_, Forget.cons rfl (Forget.cons rfl (Forget.cons rfl (Forget.cons rfl (Forget.nil _)))), ⟨j + 1, _, V2, hd, succ_i64 hd (by omega), sp, sr, hV, hVl2, ac, rfl⟩, mu_lt hd (by omega)⟩
      · conv => whnf
        have hp1 : ¬ 0 ≤ e.till := by simpa using hp1
        have hcl : clB V2 e.till = false := by rw [clB, decide_eq_false hp1, Bool.false_and, Bool.false_and]
        refine br_mk (fun hz => ?_) (fun hz => ?_)
        · rw [hcl] at hz
          exact absurd hz (by simp)
        clear hz
        conv => whnf
        refine ⟨fun env hk => ∃ (k : Nat) (zk : Int), k ≤ V2.length ∧ zk = k ∧ St hk g p V2 ∧ St hk gr pr V2 ∧ ShAs hk pa n es ∧ RoSl hk qm1 V2.length 1 (bools (maskV V2)) ∧ RoSl hk qm2 V2.length 1 (bools (maskV V2)) ∧ env = [(19, i64 zk), (17, .sl qm1 V2.length), (18, .sl qm2 V2.length), (5, .ptr (some (g, 0))), (6, .ptr (some (gr, 0))), (7, i64 (j : Int)), (1, .sl pa n)],
          fun env _ => match get env 19 with
            | .int _ z => (V2.length - z).toNat
            | _ => 0, ⟨_, Forget.cons rfl (Forget.cons rfl (Forget.cons rfl (Forget.cons rfl (Forget.cons rfl (Forget.cons rfl (Forget.cons rfl (Forget.nil _))))))), 0, _, Nat.zero_le _, rfl, sp, sr, ac, rm1, rm2, rfl⟩, ?_⟩
        clear sp sr ac rm1 rm2
        rintro _ hK ⟨k, zk, hk2, rfl, sp, sr, ac, rm1, rm2, rfl⟩
        conv => whnf
        refine br_mk (fun hy => ?_) (fun hy => ?_)
        · conv => whnf
          have hy : k < V2.length := by simpa using hy
          refine ⟨[0, 1, 2, 3, 4, 5, 6, 7, 8, 9, 10, 11, 13, 14, 15, 16, 12, 17, 18], [0, 0, 3, 7, 0, 0, 48, 112, 255, 511, 1023, 1023, 4095, 1023, 1023, 25599, 58367, 131071, 262143], by kernel_rfl, ?_⟩
          conv => whnf
          obtain ⟨i3, c3, v1, v2⟩ := slb_get rm1.is (mask_len _) hy
          obtain ⟨i4, c4, v3, v4⟩ := slb_get rm2.is (mask_len _) hy
          rw [mask_get hy] at v2 v4
          refine ⟨i3, c3, k, v1, rfl, hy, ?_⟩
          conv => whnf
          refine ⟨_, v2, ?_⟩
          conv => whnf
          refine ⟨i4, c4, k, v3, rfl, hy, ?_⟩
          conv => whnf
          refine ⟨_, v4, ?_⟩
          conv => whnf
          refine br_mk (fun hz => ?_) (fun hz => ?_)
          · exact absurd hz (by simp)
          clear hz
          conv => whnf
          refine ⟨i4, c4, k, v3, rfl, hy, ?_⟩
          conv => whnf
          refine ⟨_, v4, ?_⟩
          conv => whnf
          refine (closed57 sp k).mono ?_
          rintro _ hK2 ⟨eh, rfl⟩
          subst eh
          rw [clB_nat hy]
          conv => whnf
          refine ⟨⟨_, v4, rfl⟩, ?_⟩
          conv => whnf
          refine br_mk (fun hz => ?_) (fun hz => ?_)
          · exact absurd hz (by simp)
          clear hz
          conv => whnf
          exact ⟨_, Forget.cons rfl (Forget.cons rfl (Forget.cons rfl (Forget.cons rfl (Forget.cons rfl (Forget.cons rfl (Forget.cons rfl (Forget.nil _))))))), ⟨k + 1, _, hy, succ_i64 hy (by omega), sp, sr, ac, rm1, rm2, rfl⟩, mu_lt hy (by omega)⟩
        · conv => whnf
          exact ⟨_, Forget.cons rfl (Forget.cons rfl (Forget.cons rfl (Forget.cons rfl (Forget.nil _)))), ⟨j + 1, _, V2, hd, succ_i64 hd (by omega), sp, sr, hV, hVl2, ac, rfl⟩, mu_lt hd (by omega)⟩
    · conv => whnf
      refine br_mk (fun hk2 => ?_) (fun hk2 => ?_)
      · conv => whnf
        refine ⟨_, Cell.mk gn rfl, ?_⟩
        conv => whnf
        refine (open48r sp re.is (by omega) hUl).mono ?_
        rintro _ h4 ⟨q4, rfl, r4, sp, m4⟩
        have sr := sr.get m4 (fun i a b => apart i (.inr b) a)
        have ac := ac.get m4
        have re := re.get m4
        have bx := m4.get gn (.inl (fun k => hnb _ (.inr k) rfl))
        conv => whnf
        refine ⟨_, rfl, ?_⟩
        conv => whnf
        refine ⟨_, rfl, ?_⟩
        conv => whnf
        refine ⟨_, Cell.mk bx rfl, ?_⟩
        conv => whnf
        refine (open49r sr (Nums.of_ro re) (by omega) hUl hU).mono ?_
        rintro _ h5 ⟨q5, rfl, r5, sr, m5⟩
        have sp := sp.get m5 (fun i a b => apart i a (.inr b))
        have ac := ac.get m5
        have r4 := r4.get m5
        have bx := m5.get bx (.inl (fun k => hnr _ (.inr k) rfl))
        conv => whnf
        refine ⟨_, rfl, ?_⟩
        conv => whnf
        refine ⟨_, rfl, ?_⟩
        conv => whnf
        have hlo := clO_le (U := U) (inE U.length e.l) 0 e.l
        refine (ints33 r4.is r5.is (by omega)).mono ?_
        rintro _ h6 ⟨eh, rfl⟩
        subst eh
        rw [decide_eq_true rfl]
        conv => whnf
        refine br_mk (fun hz => ?_) (fun hz => ?_)
        · exact absurd hz (by simp)
        clear hz
        have hV := clU_pos hU (ok := inE U.length e.l) (u := 0) (fun _ => Int.le_refl _) e.l
        have hVl := clU_length U (inE U.length e.l) 0 e.l
        generalize clU U (inE U.length e.l) 0 e.l = V2 at sp sr hV hVl
        obtain ⟨hVl2, hV2⟩ : V2.length ≤ 512 ∧ Pos V2 := ⟨by omega, hV⟩
        conv => whnf
        refine (mask52r sp hVl2).mono ?_
        rintro _ hM1 ⟨qm1, rfl, rm1, mM1⟩
        conv => whnf
        refine (mask53r (sr.old mM1 (fun _ _ k => k)) hVl2 hV2).mono ?_
        rintro _ hM2 ⟨qm2, rfl, rm2, mM2⟩
        have rm1 := rm1.get mM2
        have sp := (sp.old mM1 (fun _ _ k => k)).old mM2 (fun _ _ k => k)
        have sr := (sr.old mM1 (fun _ _ k => k)).old mM2 (fun _ _ k => k)
        have ac := (ac.get mM1).get mM2
        have bx := mM2.get (mM1.get bx (.inl (fun k => k))) (.inl (fun k => k))
        conv => whnf
        refine ⟨[0, 1, 2, 3, 4, 5, 6, 8, 7, 9, 10, 11, 12, 13, 14, 15, 16, 18, 19, 20, 17, 21, 22, 23, 24, 25, 26, 27, 28, 29, 30, 31, 32, 33, 34, 35, 36], [0, 1, 0, 4, 15, 31, 63, 127, 63, 511, 1023, 2047, 4095, 8191, 16383, 16383, 49151, 131071, 16383, 278527, 802815, 2097151, 4194303, 8388607, 4194303, 20971519, 67108863, 134217727, 268435455, 536870911, 536870911, 1610612735, 4294967295, 8589934591, 17179869183, 34359738367, 68719476735], by kernel_rfl, ?_⟩
        conv => whnf
        refine br_mk (fun hx => ?_) (fun hx => ?_)
        · exact absurd hx (by simp)
        clear hx
        conv => whnf
        refine (all55r sp hVl2).mono ?_
        rintro _ hA1 ⟨qa1, rfl, ra1, mA1⟩
        conv => whnf
        refine (all56r (sr.old mA1 (fun _ _ k => k)) hVl2 hV2).mono ?_
        rintro _ hA2 ⟨qa2, rfl, ra2, mA2⟩
        have ra1 := ra1.get mA2
        have sp := (sp.old mA1 (fun _ _ k => k)).old mA2 (fun _ _ k => k)
        have sr := (sr.old mA1 (fun _ _ k => k)).old mA2 (fun _ _ k => k)
        have ac := (ac.get mA1).get mA2
        have bx := mA2.get (mA1.get bx (.inl (fun k => k))) (.inl (fun k => k))
        have rm1 := (rm1.get mA1).get mA2
        have rm2 := (rm2.get mA1).get mA2
        have hal := allV_len V2
        conv => whnf
        refine (same54 ra1.is ra2.is rfl rfl (by omega)).mono ?_
        rintro _ hS ⟨eh, rfl⟩
        subst eh
        rw [decide_eq_true rfl]
        conv => whnf
        refine ⟨_, Cell.mk bx rfl, ?_⟩
        conv => whnf
        refine ⟨_, Cell.mk bx rfl, ?_⟩
        conv => whnf
        refine (closed57 sp e.till).mono ?_
        rintro _ hS2 ⟨eh, rfl⟩
        subst eh
        conv => whnf
        refine ⟨⟨_, Cell.mk bx rfl, rfl⟩, ?_⟩
        conv => whnf
        refine br_mk (fun hp1 => ?_) (fun hp1 => ?_)
        · conv => whnf
          have hp1 : 0 ≤ e.till := by simpa using hp1
          refine ⟨_, Cell.mk bx rfl, ?_⟩
          conv => whnf
          refine br_mk (fun hp2 => ?_) (fun hp2 => ?_)
          · conv => whnf
            have hp2 : e.till < (V2.length : Int) := by simpa using hp2
            refine ⟨_, Cell.mk bx rfl, ?_⟩
            conv => whnf
            have hp3 : e.till.toNat < V2.length := by omega
            obtain ⟨i3, c3, v1, v2⟩ := slb_get rm2.is (mask_len _) hp3
            rw [mask_get hp3] at v2
            refine ⟨i3, c3, e.till.toNat, v1, by omega, hp3, ?_⟩
            conv => whnf
            refine ⟨_, v2, ?_⟩
            conv => whnf
            have hcl : clB V2 e.till = decide (0 < V2.getD e.till.toNat 0) := by
              rw [clB, decide_eq_true hp1, decide_eq_true hp2]
              rfl
            refine br_mk (fun hz => ?_) (fun hz => ?_)
            · rw [hcl] at hz
              exact absurd hz (by simp)
            clear hz
            conv => whnf
            refine ⟨fun env hk => ∃ (k : Nat) (zk : Int), k ≤ V2.length ∧ zk = k ∧ St hk g p V2 ∧ St hk gr pr V2 ∧ ShAs hk pa n es ∧ RoSl hk qm1 V2.length 1 (bools (maskV V2)) ∧ RoSl hk qm2 V2.length 1 (bools (maskV V2)) ∧ env = [(19, i64 zk), (17, .sl qm1 V2.length), (18, .sl qm2 V2.length), (5, .ptr (some (g, 0))), (6, .ptr (some (gr, 0))), (7, i64 (j : Int)), (1, .sl pa n)],
              fun env _ => match get env 19 with
                | .int _ z => (V2.length - z).toNat
                | _ => 0, ⟨_, Forget.cons rfl (Forget.cons rfl (Forget.cons rfl (Forget.cons rfl (Forget.cons rfl (Forget.cons rfl (Forget.cons rfl (Forget.nil _))))))), 0, _, Nat.zero_le _, rfl, sp, sr, ac, rm1, rm2, rfl⟩, ?_⟩
            clear sp sr ac rm1 rm2
            rintro _ hK ⟨k, zk, hk2, rfl, sp, sr, ac, rm1, rm2, rfl⟩
            conv => whnf
            refine br_mk (fun hy => ?_) (fun hy => ?_)
            · conv => whnf
              have hy : k < V2.length := by simpa using hy
              refine ⟨[0, 1, 2, 3, 4, 5, 6, 7, 8, 9, 10, 11, 13, 14, 15, 16, 12, 17, 18], [0, 0, 3, 7, 0, 0, 48, 112, 255, 511, 1023, 1023, 4095, 1023, 1023, 25599, 58367, 131071, 262143], by kernel_rfl, ?_⟩
              conv => whnf
              obtain ⟨i3, c3, v1, v2⟩ := slb_get rm1.is (mask_len _) hy
              obtain ⟨i4, c4, v3, v4⟩ := slb_get rm2.is (mask_len _) hy
              rw [mask_get hy] at v2 v4
              refine ⟨i3, c3, k, v1, rfl, hy, ?_⟩
              conv => whnf
              refine ⟨_, v2, ?_⟩
              conv => whnf
              refine ⟨i4, c4, k, v3, rfl, hy, ?_⟩
              conv => whnf
              refine ⟨_, v4, ?_⟩
              conv => whnf
              refine br_mk (fun hz => ?_) (fun hz => ?_)
              · exact absurd hz (by simp)
              clear hz
              conv => whnf
              refine ⟨i4, c4, k, v3, rfl, hy, ?_⟩
              conv => whnf
              refine ⟨_, v4, ?_⟩
              conv => whnf
              refine (closed57 sp k).mono ?_
              rintro _ hK2 ⟨eh, rfl⟩
              subst eh
              rw [clB_nat hy]
              conv => whnf
              refine ⟨⟨_, v4, rfl⟩, ?_⟩
              conv => whnf
              refine br_mk (fun hz => ?_) (fun hz => ?_)
              · exact absurd hz (by simp)
              clear hz
              conv => whnf
              exact ⟨_, Forget.cons rfl (Forget.cons rfl (Forget.cons rfl (Forget.cons rfl (Forget.cons rfl (Forget.cons rfl (Forget.cons rfl (Forget.nil _))))))), ⟨k + 1, _, hy, succ_i64 hy (by omega), sp, sr, ac, rm1, rm2, rfl⟩, mu_lt hy (by omega)⟩
            · conv => whnf
              exact ⟨_, Forget.cons rfl (Forget.cons rfl (Forget.cons rfl (Forget.cons rfl (Forget.nil _)))), ⟨j + 1, _, V2, hd, succ_i64 hd (by omega), sp, sr, hV, hVl2, ac, rfl⟩, mu_lt hd (by omega)⟩
          · conv => whnf
            have hp2 : ¬ e.till < (V2.length : Int) := by simpa using hp2
            have hcl : clB V2 e.till = false := by rw [clB, decide_eq_false hp2, Bool.and_false, Bool.false_and]
            refine br_mk (fun hz => ?_) (fun hz => ?_)
            · rw [hcl] at hz
              exact absurd hz (by simp)
            clear hz
            conv => whnf
            refine ⟨fun env hk => ∃ (k : Nat) (zk : Int), k ≤ V2.length ∧ zk = k ∧ St hk g p V2 ∧ St hk gr pr V2 ∧ ShAs hk pa n es ∧ RoSl hk qm1 V2.length 1 (bools (maskV V2)) ∧ RoSl hk qm2 V2.length 1 (bools (maskV V2)) ∧ env = [(19, i64 zk), (17, .sl qm1 V2.length), (18, .sl qm2 V2.length), (5, .ptr (some (g, 0))), (6, .ptr (some (gr, 0))), (7, i64 (j : Int)), (1, .sl pa n)],
              fun env _ => match get env 19 with
                | .int _ z => (V2.length - z).toNat
                | _ => 0, ⟨_, Forget.cons rfl (Forget.cons rfl (Forget.cons rfl (Forget.cons rfl (Forget.cons rfl (Forget.cons rfl (Forget.cons rfl (Forget.nil _))))))), 0, _, Nat.zero_le _, rfl, sp, sr, ac, rm1, rm2, rfl⟩, ?_⟩
            clear sp sr ac rm1 rm2
            rintro _ hK ⟨k, zk, hk2, rfl, sp, sr, ac, rm1, rm2, rfl⟩
            conv => whnf
            refine br_mk (fun hy => ?_) (fun hy => ?_)
            · conv => whnf
              have hy : k < V2.length := by simpa using hy
              refine ⟨[0, 1, 2, 3, 4, 5, 6, 7, 8, 9, 10, 11, 13, 14, 15, 16, 12, 17, 18], [0, 0, 3, 7, 0, 0, 48, 112, 255, 511, 1023, 1023, 4095, 1023, 1023, 25599, 58367, 131071, 262143], by kernel_rfl, ?_⟩
              conv => whnf
              obtain ⟨i3, c3, v1, v2⟩ := slb_get rm1.is (mask_len _) hy
              obtain ⟨i4, c4, v3, v4⟩ := slb_get rm2.is (mask_len _) hy
              rw [mask_get hy] at v2 v4
              refine ⟨i3, c3, k, v1, rfl, hy, ?_⟩
              conv => whnf
              refine ⟨_, v2, ?_⟩
              conv => whnf
              refine ⟨i4, c4, k, v3, rfl, hy, ?_⟩
              conv => whnf
              refine ⟨_, v4, ?_⟩
              conv => whnf
              refine br_mk (fun hz => ?_) (fun hz => ?_)
              · exact absurd hz (by simp)
              clear hz
              conv => whnf
              refine ⟨i4, c4, k, v3, rfl, hy, ?_⟩
              conv => whnf
              refine ⟨_, v4, ?_⟩
              conv => whnf
              refine (closed57 sp k).mono ?_
              rintro _ hK2 ⟨eh, rfl⟩
              subst eh
              rw [clB_nat hy]
              conv => whnf
              refine ⟨⟨_, v4, rfl⟩, ?_⟩
              conv => whnf
              refine br_mk (fun hz => ?_) (fun hz => ?_)
              · exact absurd hz (by simp)
              clear hz
              conv => whnf
              exact ⟨_, Forget.cons rfl (Forget.cons rfl (Forget.cons rfl (Forget.cons rfl (Forget.cons rfl (Forget.cons rfl (Forget.cons rfl (Forget.nil _))))))), ⟨k + 1, _, hy, succ_i64 hy (by omega), sp, sr, ac, rm1, rm2, rfl⟩, mu_lt hy (by omega)⟩
            · conv => whnf
              exact ⟨_, Forget.cons rfl (Forget.cons rfl (Forget.cons rfl (Forget.cons rfl (Forget.nil _)))), ⟨j + 1, _, V2, hd, succ_i64 hd (by omega), sp, sr, hV, hVl2, ac, rfl⟩, mu_lt hd (by omega)⟩
        · conv => whnf
          have hp1 : ¬ 0 ≤ e.till := by simpa using hp1
          have hcl : clB V2 e.till = false := by rw [clB, decide_eq_false hp1, Bool.false_and, Bool.false_and]
          refine br_mk (fun hz => ?_) (fun hz => ?_)
          · rw [hcl] at hz
            exact absurd hz (by simp)
          clear hz
          conv => whnf
          refine ⟨fun env hk => ∃ (k : Nat) (zk : Int), k ≤ V2.length ∧ zk = k ∧ St hk g p V2 ∧ St hk gr pr V2 ∧ ShAs hk pa n es ∧ RoSl hk qm1 V2.length 1 (bools (maskV V2)) ∧ RoSl hk qm2 V2.length 1 (bools (maskV V2)) ∧ env = [(19, i64 zk), (17, .sl qm1 V2.length), (18, .sl qm2 V2.length), (5, .ptr (some (g, 0))), (6, .ptr (some (gr, 0))), (7, i64 (j : Int)), (1, .sl pa n)],
            fun env _ => match get env 19 with
              | .int _ z => (V2.length - z).toNat
              | _ => 0, ⟨_, Forget.cons rfl (Forget.cons rfl (Forget.cons rfl (Forget.cons rfl (Forget.cons rfl (Forget.cons rfl (Forget.cons rfl (Forget.nil _))))))), 0, _, Nat.zero_le _, rfl, sp, sr, ac, rm1, rm2, rfl⟩, ?_⟩
          clear sp sr ac rm1 rm2
          rintro _ hK ⟨k, zk, hk2, rfl, sp, sr, ac, rm1, rm2, rfl⟩
          conv => whnf
          refine br_mk (fun hy => ?_) (fun hy => ?_)
          · conv => whnf
            have hy : k < V2.length := by simpa using hy
            refine ⟨[0, 1, 2, 3, 4, 5, 6, 7, 8, 9, 10, 11, 13, 14, 15, 16, 12, 17, 18], [0, 0, 3, 7, 0, 0, 48, 112, 255, 511, 1023, 1023, 4095, 1023, 1023, 25599, 58367, 131071, 262143], by kernel_rfl, ?_⟩
            conv => whnf
            obtain ⟨i3, c3, v1, v2⟩ := slb_get rm1.is (mask_len _) hy
            obtain ⟨i4, c4, v3, v4⟩ := slb_get rm2.is (mask_len _) hy
            rw [mask_get hy] at v2 v4
            refine ⟨i3, c3, k, v1, rfl, hy, ?_⟩
            conv => whnf
            refine ⟨_, v2, ?_⟩
            conv => whnf
            refine ⟨i4, c4, k, v3, rfl, hy, ?_⟩
            conv => whnf
            refine ⟨_, v4, ?_⟩
            conv => whnf
            refine br_mk (fun hz => ?_) (fun hz => ?_)
            · exact absurd hz (by simp)
            clear hz
            conv => whnf
            refine ⟨i4, c4, k, v3, rfl, hy, ?_⟩
            conv => whnf
            refine ⟨_, v4, ?_⟩
            conv => whnf
            refine (closed57 sp k).mono ?_
            rintro _ hK2 ⟨eh, rfl⟩
            subst eh
            rw [clB_nat hy]
            conv => whnf
            refine ⟨⟨_, v4, rfl⟩, ?_⟩
            conv => whnf
            refine br_mk (fun hz => ?_) (fun hz => ?_)
            · exact absurd hz (by simp)
            clear hz
            conv => whnf
            exact ⟨_, Forget.cons rfl (Forget.cons rfl (Forget.cons rfl (Forget.cons rfl (Forget.cons rfl (Forget.cons rfl (Forget.cons rfl (Forget.nil _))))))), ⟨k + 1, _, hy, succ_i64 hy (by omega), sp, sr, ac, rm1, rm2, rfl⟩, mu_lt hy (by omega)⟩
          · conv => whnf
            exact ⟨_, Forget.cons rfl (Forget.cons rfl (Forget.cons rfl (Forget.cons rfl (Forget.nil _)))), ⟨j + 1, _, V2, hd, succ_i64 hd (by omega), sp, sr, hV, hVl2, ac, rfl⟩, mu_lt hd (by omega)⟩
      · conv => whnf
        refine br_mk (fun hk3 => ?_) (fun hk3 => ?_)
        · conv => whnf
          refine ⟨[0, 1, 2, 4, 5, 6, 3, 7, 8, 9], [0, 0, 2, 7, 0, 0, 32, 127, 255, 511], by kernel_rfl, ?_⟩
          conv => whnf
          refine ⟨_, Cell.mk gn rfl, ?_⟩
          conv => whnf
          refine ⟨_, Cell.mk gn rfl, ?_⟩
          conv => whnf
          refine (lapse50r sp hUl e.till).mono ?_
          rintro _ h4 ⟨q4, rfl, r4, sp, m4⟩
          have sr := sr.get m4 (fun i a b => apart i (.inr b) a)
          have ac := ac.get m4
          have bx := m4.get gn (.inl (fun k => hnb _ (.inr k) rfl))
          conv => whnf
          refine ⟨⟨_, Cell.mk bx rfl, rfl⟩, ?_⟩
          conv => whnf
          refine (lapse51r sr hUl hU e.till).mono ?_
          rintro _ h5 ⟨q5, rfl, r5, sr, m5⟩
          have sp := sp.get m5 (fun i a b => apart i a (.inr b))
          have ac := ac.get m5
          have r4 := r4.get m5
          have bx := m5.get bx (.inl (fun k => hnr _ (.inr k) rfl))
          conv => whnf
          have hlo : (lapseV U e.till).length ≤ U.length := pl_le _ _
          refine (ints33 r4.is r5.is (by omega)).mono ?_
          rintro _ h6 ⟨eh, rfl⟩
          subst eh
          rw [decide_eq_true rfl]
          have hV := setV_pos hU (Int.le_refl 0) (lapseV U e.till)
          have hVl := setV_length U 0 (lapseV U e.till)
          generalize setV U 0 (lapseV U e.till) = V2 at sp sr hV hVl
          obtain ⟨hVl2, hV2⟩ : V2.length ≤ 512 ∧ Pos V2 := ⟨by omega, hV⟩
          conv => whnf
          refine (mask52r sp hVl2).mono ?_
          rintro _ hM1 ⟨qm1, rfl, rm1, mM1⟩
          conv => whnf
          refine (mask53r (sr.old mM1 (fun _ _ k => k)) hVl2 hV2).mono ?_
          rintro _ hM2 ⟨qm2, rfl, rm2, mM2⟩
          have rm1 := rm1.get mM2
          have sp := (sp.old mM1 (fun _ _ k => k)).old mM2 (fun _ _ k => k)
          have sr := (sr.old mM1 (fun _ _ k => k)).old mM2 (fun _ _ k => k)
          have ac := (ac.get mM1).get mM2
          have bx := mM2.get (mM1.get bx (.inl (fun k => k))) (.inl (fun k => k))
          conv => whnf
          refine ⟨[0, 1, 2, 3, 4, 5, 6, 8, 7, 9, 10, 11, 12, 13, 14, 15, 16, 18, 19, 20, 17, 21, 22, 23, 24, 25, 26, 27, 28, 29, 30, 31, 32, 33, 34, 35, 36], [0, 1, 0, 4, 15, 31, 63, 127, 63, 511, 1023, 2047, 4095, 8191, 16383, 16383, 49151, 131071, 16383, 278527, 802815, 2097151, 4194303, 8388607, 4194303, 20971519, 67108863, 134217727, 268435455, 536870911, 536870911, 1610612735, 4294967295, 8589934591, 17179869183, 34359738367, 68719476735], by kernel_rfl, ?_⟩
          conv => whnf
          refine br_mk (fun hx => ?_) (fun hx => ?_)
          · exact absurd hx (by simp)
          clear hx
          conv => whnf
          refine (all55r sp hVl2).mono ?_
          rintro _ hA1 ⟨qa1, rfl, ra1, mA1⟩
          conv => whnf
          refine (all56r (sr.old mA1 (fun _ _ k => k)) hVl2 hV2).mono ?_
          rintro _ hA2 ⟨qa2, rfl, ra2, mA2⟩
          have ra1 := ra1.get mA2
          have sp := (sp.old mA1 (fun _ _ k => k)).old mA2 (fun _ _ k => k)
          have sr := (sr.old mA1 (fun _ _ k => k)).old mA2 (fun _ _ k => k)
          have ac := (ac.get mA1).get mA2
          have bx := mA2.get (mA1.get bx (.inl (fun k => k))) (.inl (fun k => k))
          have rm1 := (rm1.get mA1).get mA2
          have rm2 := (rm2.get mA1).get mA2
          have hal := allV_len V2
          conv => whnf
          refine (same54 ra1.is ra2.is rfl rfl (by omega)).mono ?_
          rintro _ hS ⟨eh, rfl⟩
          subst eh
          rw [decide_eq_true rfl]
          conv => whnf
          refine ⟨_, Cell.mk bx rfl, ?_⟩
          conv => whnf
          refine ⟨_, Cell.mk bx rfl, ?_⟩
          conv => whnf
          refine (closed57 sp e.till).mono ?_
          rintro _ hS2 ⟨eh, rfl⟩
          subst eh
          conv => whnf
          refine ⟨⟨_, Cell.mk bx rfl, rfl⟩, ?_⟩
          conv => whnf
          refine br_mk (fun hp1 => ?_) (fun hp1 => ?_)
          · conv => whnf
            have hp1 : 0 ≤ e.till := by simpa using hp1
            refine ⟨_, Cell.mk bx rfl, ?_⟩
            conv => whnf
            refine br_mk (fun hp2 => ?_) (fun hp2 => ?_)
            · conv => whnf
              have hp2 : e.till < (V2.length : Int) := by simpa using hp2
              refine ⟨_, Cell.mk bx rfl, ?_⟩
              conv => whnf
              have hp3 : e.till.toNat < V2.length := by omega
              obtain ⟨i3, c3, v1, v2⟩ := slb_get rm2.is (mask_len _) hp3
              rw [mask_get hp3] at v2
              refine ⟨i3, c3, e.till.toNat, v1, by omega, hp3, ?_⟩
              conv => whnf
              refine ⟨_, v2, ?_⟩
              conv => whnf
              have hcl : clB V2 e.till = decide (0 < V2.getD e.till.toNat 0) := by
                rw [clB, decide_eq_true hp1, decide_eq_true hp2]
                rfl
              refine br_mk (fun hz => ?_) (fun hz => ?_)
              · rw [hcl] at hz
                exact absurd hz (by simp)
              clear hz
              conv => whnf
              refine ⟨fun env hk => ∃ (k : Nat) (zk : Int), k ≤ V2.length ∧ zk = k ∧ St hk g p V2 ∧ St hk gr pr V2 ∧ ShAs hk pa n es ∧ RoSl hk qm1 V2.length 1 (bools (maskV V2)) ∧ RoSl hk qm2 V2.length 1 (bools (maskV V2)) ∧ env = [(19, i64 zk), (17, .sl qm1 V2.length), (18, .sl qm2 V2.length), (5, .ptr (some (g, 0))), (6, .ptr (some (gr, 0))), (7, i64 (j : Int)), (1, .sl pa n)],
                fun env _ => match get env 19 with
                  | .int _ z => (V2.length - z).toNat
                  | _ => 0, ⟨_, Forget.cons rfl (Forget.cons rfl (Forget.cons rfl (Forget.cons rfl (Forget.cons rfl (Forget.cons rfl (Forget.cons rfl (Forget.nil _))))))), 0, _, Nat.zero_le _, rfl, sp, sr, ac, rm1, rm2, rfl⟩, ?_⟩
              clear sp sr ac rm1 rm2
              rintro _ hK ⟨k, zk, hk2, rfl, sp, sr, ac, rm1, rm2, rfl⟩
              conv => whnf
              refine br_mk (fun hy => ?_) (fun hy => ?_)
              · conv => whnf
                have hy : k < V2.length := by simpa using hy
                refine ⟨[0, 1, 2, 3, 4, 5, 6, 7, 8, 9, 10, 11, 13, 14, 15, 16, 12, 17, 18], [0, 0, 3, 7, 0, 0, 48, 112, 255, 511, 1023, 1023, 4095, 1023, 1023, 25599, 58367, 131071, 262143], by kernel_rfl, ?_⟩
                conv => whnf
                obtain ⟨i3, c3, v1, v2⟩ := slb_get rm1.is (mask_len _) hy
                obtain ⟨i4, c4, v3, v4⟩ := slb_get rm2.is (mask_len _) hy
                rw [mask_get hy] at v2 v4
                refine ⟨i3, c3, k, v1, rfl, hy, ?_⟩
                conv => whnf
                refine ⟨_, v2, ?_⟩
                conv => whnf
                refine ⟨i4, c4, k, v3, rfl, hy, ?_⟩
                conv => whnf
                refine ⟨_, v4, ?_⟩
                conv => whnf
                refine br_mk (fun hz => ?_) (fun hz => ?_)
                · exact absurd hz (by simp)
                clear hz
                conv => whnf
                refine ⟨i4, c4, k, v3, rfl, hy, ?_⟩
                conv => whnf
                refine ⟨_, v4, ?_⟩
                conv => whnf
                refine (closed57 sp k).mono ?_
                rintro _ hK2 ⟨eh, rfl⟩
                subst eh
                rw [clB_nat hy]
                conv => whnf
                refine ⟨⟨_, v4, rfl⟩, ?_⟩
                conv => whnf
                refine br_mk (fun hz => ?_) (fun hz => ?_)
                · exact absurd hz (by simp)
                clear hz
                conv => whnf
                exact ⟨_, Forget.cons rfl (Forget.cons rfl (Forget.cons rfl (Forget.cons rfl (Forget.cons rfl (Forget.cons rfl (Forget.cons rfl (Forget.nil _))))))), ⟨k + 1, _, hy, succ_i64 hy (by omega), sp, sr, ac, rm1, rm2, rfl⟩, mu_lt hy (by omega)⟩
              · conv => whnf
                exact ⟨_, Forget.cons rfl (Forget.cons rfl (Forget.cons rfl (Forget.cons rfl (Forget.nil _)))), ⟨j + 1, _, V2, hd, succ_i64 hd (by omega), sp, sr, hV, hVl2, ac, rfl⟩, mu_lt hd (by omega)⟩
            · conv => whnf
              have hp2 : ¬ e.till < (V2.length : Int) := by simpa using hp2
              have hcl : clB V2 e.till = false := by rw [clB, decide_eq_false hp2, Bool.and_false, Bool.false_and]
              refine br_mk (fun hz => ?_) (fun hz => ?_)
              · rw [hcl] at hz
                exact absurd hz (by simp)
              clear hz
              conv => whnf
              refine ⟨fun env hk => ∃ (k : Nat) (zk : Int), k ≤ V2.length ∧ zk = k ∧ St hk g p V2 ∧ St hk gr pr V2 ∧ ShAs hk pa n es ∧ RoSl hk qm1 V2.length 1 (bools (maskV V2)) ∧ RoSl hk qm2 V2.length 1 (bools (maskV V2)) ∧ env = [(19, i64 zk), (17, .sl qm1 V2.length), (18, .sl qm2 V2.length), (5, .ptr (some (g, 0))), (6, .ptr (some (gr, 0))), (7, i64 (j : Int)), (1, .sl pa n)],
                fun env _ => match get env 19 with
                  | .int _ z => (V2.length - z).toNat
                  | _ => 0, ⟨_, Forget.cons rfl (Forget.cons rfl (Forget.cons rfl (Forget.cons rfl (Forget.cons rfl (Forget.cons rfl (Forget.cons rfl (Forget.nil _))))))), 0, _, Nat.zero_le _, rfl, sp, sr, ac, rm1, rm2, rfl⟩, ?_⟩
              clear sp sr ac rm1 rm2
              rintro _ hK ⟨k, zk, hk2, rfl, sp, sr, ac, rm1, rm2, rfl⟩
              conv => whnf
              refine br_mk (fun hy => ?_) (fun hy => ?_)
              · conv => whnf
                have hy : k < V2.length := by simpa using hy
                refine ⟨[0, 1, 2, 3, 4, 5, 6, 7, 8, 9, 10, 11, 13, 14, 15, 16, 12, 17, 18], [0, 0, 3, 7, 0, 0, 48, 112, 255, 511, 1023, 1023, 4095, 1023, 1023, 25599, 58367, 131071, 262143], by kernel_rfl, ?_⟩
                conv => whnf
                obtain ⟨i3, c3, v1, v2⟩ := slb_get rm1.is (mask_len _) hy
                obtain ⟨i4, c4, v3, v4⟩ := slb_get rm2.is (mask_len _) hy
                rw [mask_get hy] at v2 v4
                refine ⟨i3, c3, k, v1, rfl, hy, ?_⟩
                conv => whnf
                refine ⟨_, v2, ?_⟩
                conv => whnf
                refine ⟨i4, c4, k, v3, rfl, hy, ?_⟩
                conv => whnf
                refine ⟨_, v4, ?_⟩
                conv => whnf
                refine br_mk (fun hz => ?_) (fun hz => ?_)
                · exact absurd hz (by simp)
                clear hz
                conv => whnf
                refine ⟨i4, c4, k, v3, rfl, hy, ?_⟩
                conv => whnf
                refine ⟨_, v4, ?_⟩
                conv => whnf
                refine (closed57 sp k).mono ?_
                rintro _ hK2 ⟨eh, rfl⟩
                subst eh
                rw [clB_nat hy]
                conv => whnf
                refine ⟨⟨_, v4, rfl⟩, ?_⟩
                conv => whnf
                refine br_mk (fun hz => ?_) (fun hz => ?_)
                · exact absurd hz (by simp)
                clear hz
                conv => whnf
                exact ⟨_, Forget.cons rfl (Forget.cons rfl (Forget.cons rfl (Forget.cons rfl (Forget.cons rfl (Forget.cons rfl (Forget.cons rfl (Forget.nil _))))))), ⟨k + 1, _, hy, succ_i64 hy (by omega), sp, sr, ac, rm1, rm2, rfl⟩, mu_lt hy (by omega)⟩
              · conv => whnf
                exact ⟨_, Forget.cons rfl (Forget.cons rfl (Forget.cons rfl (Forget.cons rfl (Forget.nil _)))), ⟨j + 1, _, V2, hd, succ_i64 hd (by omega), sp, sr, hV, hVl2, ac, rfl⟩, mu_lt hd (by omega)⟩
          · conv => whnf
            have hp1 : ¬ 0 ≤ e.till := by simpa using hp1
            have hcl : clB V2 e.till = false := by rw [clB, decide_eq_false hp1, Bool.false_and, Bool.false_and]
            refine br_mk (fun hz => ?_) (fun hz => ?_)
            · rw [hcl] at hz
              exact absurd hz (by simp)
            clear hz
            conv => whnf
            refine ⟨fun env hk => ∃ (k : Nat) (zk : Int), k ≤ V2.length ∧ zk = k ∧ St hk g p V2 ∧ St hk gr pr V2 ∧ ShAs hk pa n es ∧ RoSl hk qm1 V2.length 1 (bools (maskV V2)) ∧ RoSl hk qm2 V2.length 1 (bools (maskV V2)) ∧ env = [(19, i64 zk), (17, .sl qm1 V2.length), (18, .sl qm2 V2.length), (5, .ptr (some (g, 0))), (6, .ptr (some (gr, 0))), (7, i64 (j : Int)), (1, .sl pa n)],
              fun env _ => match get env 19 with
                | .int _ z => (V2.length - z).toNat
                | _ => 0, ⟨_, Forget.cons rfl (Forget.cons rfl (Forget.cons rfl (Forget.cons rfl (Forget.cons rfl (Forget.cons rfl (Forget.cons rfl (Forget.nil _))))))), 0, _, Nat.zero_le _, rfl, sp, sr, ac, rm1, rm2, rfl⟩, ?_⟩
            clear sp sr ac rm1 rm2
            rintro _ hK ⟨k, zk, hk2, rfl, sp, sr, ac, rm1, rm2, rfl⟩
            conv => whnf
            refine br_mk (fun hy => ?_) (fun hy => ?_)
            · conv => whnf
              have hy : k < V2.length := by simpa using hy
              refine ⟨[0, 1, 2, 3, 4, 5, 6, 7, 8, 9, 10, 11, 13, 14, 15, 16, 12, 17, 18], [0, 0, 3, 7, 0, 0, 48, 112, 255, 511, 1023, 1023, 4095, 1023, 1023, 25599, 58367, 131071, 262143], by kernel_rfl, ?_⟩
              conv => whnf
              obtain ⟨i3, c3, v1, v2⟩ := slb_get rm1.is (mask_len _) hy
              obtain ⟨i4, c4, v3, v4⟩ := slb_get rm2.is (mask_len _) hy
              rw [mask_get hy] at v2 v4
              refine ⟨i3, c3, k, v1, rfl, hy, ?_⟩
              conv => whnf
              refine ⟨_, v2, ?_⟩
              conv => whnf
              refine ⟨i4, c4, k, v3, rfl, hy, ?_⟩
              conv => whnf
              refine ⟨_, v4, ?_⟩
              conv => whnf
              refine br_mk (fun hz => ?_) (fun hz => ?_)
              · exact absurd hz (by simp)
              clear hz
              conv => whnf
              refine ⟨i4, c4, k, v3, rfl, hy, ?_⟩
              conv => whnf
              refine ⟨_, v4, ?_⟩
              conv => whnf
              refine (closed57 sp k).mono ?_
              rintro _ hK2 ⟨eh, rfl⟩
              subst eh
              rw [clB_nat hy]
              conv => whnf
              refine ⟨⟨_, v4, rfl⟩, ?_⟩
              conv => whnf
              refine br_mk (fun hz => ?_) (fun hz => ?_)
              · exact absurd hz (by simp)
              clear hz
              conv => whnf
              exact ⟨_, Forget.cons rfl (Forget.cons rfl (Forget.cons rfl (Forget.cons rfl (Forget.cons rfl (Forget.cons rfl (Forget.cons rfl (Forget.nil _))))))), ⟨k + 1, _, hy, succ_i64 hy (by omega), sp, sr, ac, rm1, rm2, rfl⟩, mu_lt hy (by omega)⟩
            · conv => whnf
              exact ⟨_, Forget.cons rfl (Forget.cons rfl (Forget.cons rfl (Forget.cons rfl (Forget.nil _)))), ⟨j + 1, _, V2, hd, succ_i64 hd (by omega), sp, sr, hV, hVl2, ac, rfl⟩, mu_lt hd (by omega)⟩
        · conv => whnf
          have bx := gn
          obtain ⟨V2, hVe⟩ : ∃ V2, V2 = U := ⟨_, rfl⟩
          have hVl : V2.length = U.length := by rw [hVe]
          have hV : Pos V2 := by rw [hVe]; exact hU
          rw [← hVe] at sp sr
          obtain ⟨hVl2, hV2⟩ : V2.length ≤ 512 ∧ Pos V2 := ⟨by omega, hV⟩
          conv => whnf
          refine (mask52r sp hVl2).mono ?_
          rintro _ hM1 ⟨qm1, rfl, rm1, mM1⟩
          conv => whnf
          refine (mask53r (sr.old mM1 (fun _ _ k => k)) hVl2 hV2).mono ?_
          rintro _ hM2 ⟨qm2, rfl, rm2, mM2⟩
          have rm1 := rm1.get mM2
          have sp := (sp.old mM1 (fun _ _ k => k)).old mM2 (fun _ _ k => k)
          have sr := (sr.old mM1 (fun _ _ k => k)).old mM2 (fun _ _ k => k)
          have ac := (ac.get mM1).get mM2
          have bx := mM2.get (mM1.get bx (.inl (fun k => k))) (.inl (fun k => k))
          conv => whnf
          refine ⟨[0, 1, 2, 3, 4, 5, 6, 8, 7, 9, 10, 11, 12, 13, 14, 15, 16, 18, 19, 20, 17, 21, 22, 23, 24, 25, 26, 27, 28, 29, 30, 31, 32, 33, 34, 35, 36], [0, 1, 0, 4, 15, 31, 63, 127, 63, 511, 1023, 2047, 4095, 8191, 16383, 16383, 49151, 131071, 16383, 278527, 802815, 2097151, 4194303, 8388607, 4194303, 20971519, 67108863, 134217727, 268435455, 536870911, 536870911, 1610612735, 4294967295, 8589934591, 17179869183, 34359738367, 68719476735], by kernel_rfl, ?_⟩
          conv => whnf
          refine br_mk (fun hx => ?_) (fun hx => ?_)
          · exact absurd hx (by simp)
          clear hx
          conv => whnf
          refine (all55r sp hVl2).mono ?_
          rintro _ hA1 ⟨qa1, rfl, ra1, mA1⟩
          conv => whnf
          refine (all56r (sr.old mA1 (fun _ _ k => k)) hVl2 hV2).mono ?_
          rintro _ hA2 ⟨qa2, rfl, ra2, mA2⟩
          have ra1 := ra1.get mA2
          have sp := (sp.old mA1 (fun _ _ k => k)).old mA2 (fun _ _ k => k)
          have sr := (sr.old mA1 (fun _ _ k => k)).old mA2 (fun _ _ k => k)
          have ac := (ac.get mA1).get mA2
          have bx := mA2.get (mA1.get bx (.inl (fun k => k))) (.inl (fun k => k))
          have rm1 := (rm1.get mA1).get mA2
          have rm2 := (rm2.get mA1).get mA2
          have hal := allV_len V2
          conv => whnf
          refine (same54 ra1.is ra2.is rfl rfl (by omega)).mono ?_
          rintro _ hS ⟨eh, rfl⟩
          subst eh
          rw [decide_eq_true rfl]
          conv => whnf
          refine ⟨_, Cell.mk bx rfl, ?_⟩
          conv => whnf
          refine ⟨_, Cell.mk bx rfl, ?_⟩
          conv => whnf
          refine (closed57 sp e.till).mono ?_
          rintro _ hS2 ⟨eh, rfl⟩
          subst eh
          conv => whnf
          refine ⟨⟨_, Cell.mk bx rfl, rfl⟩, ?_⟩
          conv => whnf
          refine br_mk (fun hp1 => ?_) (fun hp1 => ?_)
          · conv => whnf
            have hp1 : 0 ≤ e.till := by simpa using hp1
            refine ⟨_, Cell.mk bx rfl, ?_⟩
            conv => whnf
            refine br_mk (fun hp2 => ?_) (fun hp2 => ?_)
            · conv => whnf
              have hp2 : e.till < (V2.length : Int) := by simpa using hp2
              refine ⟨_, Cell.mk bx rfl, ?_⟩
              conv => whnf
              have hp3 : e.till.toNat < V2.length := by omega
              obtain ⟨i3, c3, v1, v2⟩ := slb_get rm2.is (mask_len _) hp3
              rw [mask_get hp3] at v2
              refine ⟨i3, c3, e.till.toNat, v1, by omega, hp3, ?_⟩
              conv => whnf
              refine ⟨_, v2, ?_⟩
              conv => whnf
              have hcl : clB V2 e.till = decide (0 < V2.getD e.till.toNat 0) := by
                rw [clB, decide_eq_true hp1, decide_eq_true hp2]
                rfl
              refine br_mk (fun hz => ?_) (fun hz => ?_)
              · rw [hcl] at hz
                exact absurd hz (by simp)
              clear hz
              conv => whnf
              refine ⟨fun env hk => ∃ (k : Nat) (zk : Int), k ≤ V2.length ∧ zk = k ∧ St hk g p V2 ∧ St hk gr pr V2 ∧ ShAs hk pa n es ∧ RoSl hk qm1 V2.length 1 (bools (maskV V2)) ∧ RoSl hk qm2 V2.length 1 (bools (maskV V2)) ∧ env = [(19, i64 zk), (17, .sl qm1 V2.length), (18, .sl qm2 V2.length), (5, .ptr (some (g, 0))), (6, .ptr (some (gr, 0))), (7, i64 (j : Int)), (1, .sl pa n)],
                fun env _ => match get env 19 with
                  | .int _ z => (V2.length - z).toNat
                  | _ => 0, ⟨_, Forget.cons rfl (Forget.cons rfl (Forget.cons rfl (Forget.cons rfl (Forget.cons rfl (Forget.cons rfl (Forget.cons rfl (Forget.nil _))))))), 0, _, Nat.zero_le _, rfl, sp, sr, ac, rm1, rm2, rfl⟩, ?_⟩
              clear sp sr ac rm1 rm2
              rintro _ hK ⟨k, zk, hk2, rfl, sp, sr, ac, rm1, rm2, rfl⟩
              conv => whnf
              refine br_mk (fun hy => ?_) (fun hy => ?_)
              · conv => whnf
                have hy : k < V2.length := by simpa using hy
                refine ⟨[0, 1, 2, 3, 4, 5, 6, 7, 8, 9, 10, 11, 13, 14, 15, 16, 12, 17, 18], [0, 0, 3, 7, 0, 0, 48, 112, 255, 511, 1023, 1023, 4095, 1023, 1023, 25599, 58367, 131071, 262143], by kernel_rfl, ?_⟩
                conv => whnf
                obtain ⟨i3, c3, v1, v2⟩ := slb_get rm1.is (mask_len _) hy
                obtain ⟨i4, c4, v3, v4⟩ := slb_get rm2.is (mask_len _) hy
                rw [mask_get hy] at v2 v4
                refine ⟨i3, c3, k, v1, rfl, hy, ?_⟩
                conv => whnf
                refine ⟨_, v2, ?_⟩
                conv => whnf
                refine ⟨i4, c4, k, v3, rfl, hy, ?_⟩
                conv => whnf
                refine ⟨_, v4, ?_⟩
                conv => whnf
                refine br_mk (fun hz => ?_) (fun hz => ?_)
                · exact absurd hz (by simp)
                clear hz
                conv => whnf
                refine ⟨i4, c4, k, v3, rfl, hy, ?_⟩
                conv => whnf
                refine ⟨_, v4, ?_⟩
                conv => whnf
                refine (closed57 sp k).mono ?_
                rintro _ hK2 ⟨eh, rfl⟩
                subst eh
                rw [clB_nat hy]
                conv => whnf
                refine ⟨⟨_, v4, rfl⟩, ?_⟩
                conv => whnf
                refine br_mk (fun hz => ?_) (fun hz => ?_)
                · exact absurd hz (by simp)
                clear hz
                conv => whnf
                exact ⟨_, Forget.cons rfl (Forget.cons rfl (Forget.cons rfl (Forget.cons rfl (Forget.cons rfl (Forget.cons rfl (Forget.cons rfl (Forget.nil _))))))), ⟨k + 1, _, hy, succ_i64 hy (by omega), sp, sr, ac, rm1, rm2, rfl⟩, mu_lt hy (by omega)⟩
              · conv => whnf
                exact ⟨_, Forget.cons rfl (Forget.cons rfl (Forget.cons rfl (Forget.cons rfl (Forget.nil _)))), ⟨j + 1, _, V2, hd, succ_i64 hd (by omega), sp, sr, hV, hVl2, ac, rfl⟩, mu_lt hd (by omega)⟩
            · conv => whnf
              have hp2 : ¬ e.till < (V2.length : Int) := by simpa using hp2
              have hcl : clB V2 e.till = false := by rw [clB, decide_eq_false hp2, Bool.and_false, Bool.false_and]
              refine br_mk (fun hz => ?_) (fun hz => ?_)
              · rw [hcl] at hz
                exact absurd hz (by simp)
              clear hz
              conv => whnf
              refine ⟨fun env hk => ∃ (k : Nat) (zk : Int), k ≤ V2.length ∧ zk = k ∧ St hk g p V2 ∧ St hk gr pr V2 ∧ ShAs hk pa n es ∧ RoSl hk qm1 V2.length 1 (bools (maskV V2)) ∧ RoSl hk qm2 V2.length 1 (bools (maskV V2)) ∧ env = [(19, i64 zk), (17, .sl qm1 V2.length), (18, .sl qm2 V2.length), (5, .ptr (some (g, 0))), (6, .ptr (some (gr, 0))), (7, i64 (j : Int)), (1, .sl pa n)],
                fun env _ => match get env 19 with
                  | .int _ z => (V2.length - z).toNat
                  | _ => 0, ⟨_, Forget.cons rfl (Forget.cons rfl (Forget.cons rfl (Forget.cons rfl (Forget.cons rfl (Forget.cons rfl (Forget.cons rfl (Forget.nil _))))))), 0, _, Nat.zero_le _, rfl, sp, sr, ac, rm1, rm2, rfl⟩, ?_⟩
              clear sp sr ac rm1 rm2
              rintro _ hK ⟨k, zk, hk2, rfl, sp, sr, ac, rm1, rm2, rfl⟩
              conv => whnf
              refine br_mk (fun hy => ?_) (fun hy => ?_)
              · conv => whnf
                have hy : k < V2.length := by simpa using hy
                refine ⟨[0, 1, 2, 3, 4, 5, 6, 7, 8, 9, 10, 11, 13, 14, 15, 16, 12, 17, 18], [0, 0, 3, 7, 0, 0, 48, 112, 255, 511, 1023, 1023, 4095, 1023, 1023, 25599, 58367, 131071, 262143], by kernel_rfl, ?_⟩
                conv => whnf
                obtain ⟨i3, c3, v1, v2⟩ := slb_get rm1.is (mask_len _) hy
                obtain ⟨i4, c4, v3, v4⟩ := slb_get rm2.is (mask_len _) hy
                rw [mask_get hy] at v2 v4
                refine ⟨i3, c3, k, v1, rfl, hy, ?_⟩
                conv => whnf
                refine ⟨_, v2, ?_⟩
                conv => whnf
                refine ⟨i4, c4, k, v3, rfl, hy, ?_⟩
                conv => whnf
                refine ⟨_, v4, ?_⟩
                conv => whnf
                refine br_mk (fun hz => ?_) (fun hz => ?_)
                · exact absurd hz (by simp)
                clear hz
                conv => whnf
                refine ⟨i4, c4, k, v3, rfl, hy, ?_⟩
                conv => whnf
                refine ⟨_, v4, ?_⟩
                conv => whnf
                refine (closed57 sp k).mono ?_
                rintro _ hK2 ⟨eh, rfl⟩
                subst eh
                rw [clB_nat hy]
                conv => whnf
                refine ⟨⟨_, v4, rfl⟩, ?_⟩
                conv => whnf
                refine br_mk (fun hz => ?_) (fun hz => ?_)
                · exact absurd hz (by simp)
                clear hz
                conv => whnf
                exact ⟨_, Forget.cons rfl (Forget.cons rfl (Forget.cons rfl (Forget.cons rfl (Forget.cons rfl (Forget.cons rfl (Forget.cons rfl (Forget.nil _))))))), ⟨k + 1, _, hy, succ_i64 hy (by omega), sp, sr, ac, rm1, rm2, rfl⟩, mu_lt hy (by omega)⟩
              · conv => whnf
                exact ⟨_, Forget.cons rfl (Forget.cons rfl (Forget.cons rfl (Forget.cons rfl (Forget.nil _)))), ⟨j + 1, _, V2, hd, succ_i64 hd (by omega), sp, sr, hV, hVl2, ac, rfl⟩, mu_lt hd (by omega)⟩
          · conv => whnf
            have hp1 : ¬ 0 ≤ e.till := by simpa using hp1
            have hcl : clB V2 e.till = false := by rw [clB, decide_eq_false hp1, Bool.false_and, Bool.false_and]
            refine br_mk (fun hz => ?_) (fun hz => ?_)
            · rw [hcl] at hz
              exact absurd hz (by simp)
            clear hz
            conv => whnf
            refine ⟨fun env hk => ∃ (k : Nat) (zk : Int), k ≤ V2.length ∧ zk = k ∧ St hk g p V2 ∧ St hk gr pr V2 ∧ ShAs hk pa n es ∧ RoSl hk qm1 V2.length 1 (bools (maskV V2)) ∧ RoSl hk qm2 V2.length 1 (bools (maskV V2)) ∧ env = [(19, i64 zk), (17, .sl qm1 V2.length), (18, .sl qm2 V2.length), (5, .ptr (some (g, 0))), (6, .ptr (some (gr, 0))), (7, i64 (j : Int)), (1, .sl pa n)],
              fun env _ => match get env 19 with
                | .int _ z => (V2.length - z).toNat
                | _ => 0, ⟨_, Forget.cons rfl (Forget.cons rfl (Forget.cons rfl (Forget.cons rfl (Forget.cons rfl (Forget.cons rfl (Forget.cons rfl (Forget.nil _))))))), 0, _, Nat.zero_le _, rfl, sp, sr, ac, rm1, rm2, rfl⟩, ?_⟩
            clear sp sr ac rm1 rm2
            rintro _ hK ⟨k, zk, hk2, rfl, sp, sr, ac, rm1, rm2, rfl⟩
            conv => whnf
            refine br_mk (fun hy => ?_) (fun hy => ?_)
            · conv => whnf
              have hy : k < V2.length := by simpa using hy
              refine ⟨[0, 1, 2, 3, 4, 5, 6, 7, 8, 9, 10, 11, 13, 14, 15, 16, 12, 17, 18], [0, 0, 3, 7, 0, 0, 48, 112, 255, 511, 1023, 1023, 4095, 1023, 1023, 25599, 58367, 131071, 262143], by kernel_rfl, ?_⟩
              conv => whnf
              obtain ⟨i3, c3, v1, v2⟩ := slb_get rm1.is (mask_len _) hy
              obtain ⟨i4, c4, v3, v4⟩ := slb_get rm2.is (mask_len _) hy
              rw [mask_get hy] at v2 v4
              refine ⟨i3, c3, k, v1, rfl, hy, ?_⟩
              conv => whnf
              refine ⟨_, v2, ?_⟩
              conv => whnf
              refine ⟨i4, c4, k, v3, rfl, hy, ?_⟩
              conv => whnf
              refine ⟨_, v4, ?_⟩
              conv => whnf
              refine br_mk (fun hz => ?_) (fun hz => ?_)
              · exact absurd hz (by simp)
              clear hz
              conv => whnf
              refine ⟨i4, c4, k, v3, rfl, hy, ?_⟩
              conv => whnf
              refine ⟨_, v4, ?_⟩
              conv => whnf
              refine (closed57 sp k).mono ?_
              rintro _ hK2 ⟨eh, rfl⟩
              subst eh
              rw [clB_nat hy]
              conv => whnf
              refine ⟨⟨_, v4, rfl⟩, ?_⟩
              conv => whnf
              refine br_mk (fun hz => ?_) (fun hz => ?_)
              · exact absurd hz (by simp)
              clear hz
              conv => whnf
              exact ⟨_, Forget.cons rfl (Forget.cons rfl (Forget.cons rfl (Forget.cons rfl (Forget.cons rfl (Forget.cons rfl (Forget.cons rfl (Forget.nil _))))))), ⟨k + 1, _, hy, succ_i64 hy (by omega), sp, sr, ac, rm1, rm2, rfl⟩, mu_lt hy (by omega)⟩
            · conv => whnf
              exact ⟨_, Forget.cons rfl (Forget.cons rfl (Forget.cons rfl (Forget.cons rfl (Forget.nil _)))), ⟨j + 1, _, V2, hd, succ_i64 hd (by omega), sp, sr, hV, hVl2, ac, rfl⟩, mu_lt hd (by omega)⟩
  · conv => whnf
    refine (awake43 hh).mono ?_
    rintro _ h3 rfl
    conv => whnf
end Go.Proofs.Ytpefdmidfllhoaa
