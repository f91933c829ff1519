/- ShutsAlone: its walk. -/
import Derived.Test.YtpefdmidfllhoaaQ13
set_option linter.unusedVariables false
namespace Go.Proofs.Ytpefdmidfllhoaa
open Go Go.Ab
theorem allV_fst (U : List Int) : (allV U).map (·.1) = pl U.length fun k => decide (0 < U.getD k 0) := by
  rw [allV, List.map_map, pl]
  rfl
theorem allV_asc {U : List Int} {i j : Nat} (hij : i < j) (hj : j < (allV U).length) : (allV U)[i].1 < (allV U)[j].1 := by
  have h := pl_asc U.length fun k => decide (0 < U.getD k 0)
  rw [← allV_fst] at h
  have := (List.pairwise_iff_getElem.1 h) i j (by rw [List.length_map]; omega) (by rw [List.length_map]; exact hj) hij
  simpa using this
theorem set2 {U : List Int} {u e : Int} (h0 : 0 ≤ e) (h1 : e < U.length) : setV U u [e, e] = U.set e.toNat u := by
  rw [← set1 h0 h1]
  exact setV_cong U u (by simp)
theorem out2 (U : List Int) (u e : Int) : outV U u [e, e] = outV U u [e] := pl_cong (fun k _ => by simp)
theorem in2 {n : Nat} {e : Int} (h0 : 0 ≤ e) (h1 : e < n) : inE n [e, e] = true := inE_iff.2 (fun x hx => by
  obtain rfl : x = e := by simpa using hx
  exact ⟨h0, h1⟩)
theorem pos_set {U : List Int} (hp : Pos U) {u : Int} (hu : 0 ≤ u) (j : Nat) : Pos (U.set j u) := fun k => by
  by_cases hj : j < U.length
  · rw [getD_set_ _ _ _ _ hj]
    split
    · exact hu
    · exact hp k
  · rw [List.set_eq_of_length_le (by omega)]
    exact hp k
theorem clB_in {U : List Int} {e : Int} (h0 : 0 ≤ e) (h1 : e < U.length) : clB U e = decide (0 < U.getD e.toNat 0) := by
  rw [clB, decide_eq_true h0, decide_eq_true h1]
  rfl
theorem shuts13 {h : H} {pl0 : Option (Nat × Nat)} {m : Nat} {ps : List (Int × Int)} (ro : RoSl h pl0 m 2 (pairs .i64 ps)) (at_ : Int) : ACalls Try.prog 13 [.sl pl0 m, i64 at_] h (fun r _ => r = .bool true) := by
  refine call_ Try.func13 rfl rfl (by kernel_rfl) ?_
  conv => whnf
  refine br_mk (fun ha => ?_) (fun ha => ?_)
  · conv => whnf
    refine (awake43 h).mono ?_
    rintro _ h1 rfl
    conv => whnf
  conv => whnf
  have ha : m ≤ 40 := by
    have : ¬ (m : Int) > 40 := by simpa using ha
    omega
  refine (new44 h 6).mono ?_
  rintro _ h1 q
  obtain ⟨g, p, rfl, s1, _, m1⟩ := new_yes q rfl
  clear q
  have s1 : St h1 g p [0, 0, 0, 0, 0, 0] := s1
  have ro := ro.get m1
  conv => whnf
  refine (round19 (m := 6) (by decide) (by decide) at_ _).mono ?_
  rintro _ h2 ⟨eh, rfl⟩
  subst eh
  have hk0 := Int.emod_nonneg at_ (show (6 : Int) ≠ 0 by decide)
  have hk1 := Int.emod_lt_of_pos at_ (show (0 : Int) < 6 by decide)
  obtain ⟨kk, hkk⟩ : ∃ kk, kk = at_ % 6 := ⟨_, rfl⟩
  rw [← hkk] at hk0 hk1 ⊢
  conv => whnf
  refine ⟨fun env hh => ∃ (j : Nat) (z : Int) (U : List Int) (mine : Int), j ≤ m ∧ z = j ∧ Pos U ∧ U.length = 6 ∧ mine = U.getD kk.toNat 0 ∧ St hh g p U ∧ RoSl hh pl0 m 2 (pairs .i64 ps) ∧ env = [(8, i64 z), (0, .sl pl0 m), (5, .ptr (some (g, 0))), (6, i64 kk), (7, i64 mine)],
    fun env _ => match get env 8 with
      | .int _ z => (m - z).toNat
      | _ => 0, ⟨_, Forget.cons rfl (Forget.cons rfl (Forget.cons rfl (Forget.cons rfl (Forget.cons rfl (Forget.nil _))))), 0, _, [0, 0, 0, 0, 0, 0], 0, Nat.zero_le _, rfl, nuls_pos 6, rfl, (nuls_zero 6 _).symm, s1, ro, rfl⟩, ?_⟩
  clear s1 ro m1
  rintro _ hh ⟨j, z, U, mine, hj, rfl, hU, hUl, hmine, sp, ro, rfl⟩
  conv => whnf
  refine br_mk (fun hd => ?_) (fun hd => ?_)
  · conv => whnf
    have hd : j < m := by simpa using hd
    refine ⟨[0, 1, 2, 3, 4, 6, 7, 8, 9, 10, 5, 11, 12, 13], [0, 0, 3, 7, 15, 31, 0, 0, 192, 448, 960, 2047, 4095, 8191], by kernel_rfl, ?_⟩
    conv => whnf
    obtain ⟨i1, c1, k1, k2, k3⟩ := pair_cell ro hd
    refine ⟨i1, c1, j, k1, rfl, hd, ?_⟩
    conv => whnf
    refine ⟨0, rfl, by decide, ?_⟩
    conv => whnf
    refine ⟨_, k2, ?_⟩
    conv => whnf
    refine ⟨i1, c1, j, k1, rfl, hd, ?_⟩
    conv => whnf
    refine ⟨1, rfl, by decide, ?_⟩
    conv => whnf
    refine ⟨_, k3, ?_⟩
    conv => whnf
    refine (round19 (m := 6) (by decide) (by decide) _ _).mono ?_
    rintro _ h2 ⟨eh, rfl⟩
    subst eh
    conv => whnf
    refine ⟨⟨_, k3, rfl⟩, ?_⟩
    conv => whnf
    refine (round19 (m := 30) (by decide) (by decide) _ _).mono ?_
    rintro _ h2 ⟨eh, rfl⟩
    subst eh
    conv => whnf
    have he0 := Int.emod_nonneg (ps.getD j (0, 0)).1 (show (6 : Int) ≠ 0 by decide)
    have he1 := Int.emod_lt_of_pos (ps.getD j (0, 0)).1 (show (0 : Int) < 6 by decide)
    have hu0 := Int.emod_nonneg (ps.getD j (0, 0)).2 (show (30 : Int) ≠ 0 by decide)
    have hu1 := Int.emod_lt_of_pos (ps.getD j (0, 0)).2 (show (0 : Int) < 30 by decide)
    clear k1 k2 k3
    generalize (ps.getD j (0, 0)).1 % 6 = e at he0 he1 ⊢
    generalize (ps.getD j (0, 0)).2 % 30 = u at hu0 hu1 ⊢
    refine (closed57 sp e).mono ?_
    rintro _ h3 ⟨eh, rfl⟩
    subst eh
    rw [clB_in he0 (by omega)]
    conv => whnf
    refine br_mk (fun hb => ?_) (fun hb => ?_)
    · have hb : u = 0 := by simpa using hb
      conv => whnf
      obtain ⟨lr, nr⟩ := laid_row h3 [e]
      refine (open48r (sp.old nr (fun _ _ k => k)) lr (by simp) (by omega)).mono (fun r h4 c => ?_)
      obtain ⟨q4, rfl, r4, sp, m4⟩ := c.val true (outV U 0 [e]) (U.set e.toNat 0) (in1 he0 (by omega)) rfl (set1 he0 (by omega))
      clear c
      have ro := (ro.get nr).get m4
      conv => whnf
      refine ⟨_, rfl, ?_⟩
      conv => whnf
      refine ⟨_, rfl, ?_⟩
      conv => whnf
      refine br_mk (fun hz => ?_) (fun hz => ?_)
      · rw [out1_len he0 (by omega), turns_open] at hz
        exact absurd hz (by simp)
      clear hz
      conv => whnf
      rw [← hb] at sp
      obtain ⟨w, hw⟩ : ∃ w, w = u := ⟨_, rfl⟩
      have hw0 : 0 ≤ w := by omega
      rw [← hw] at sp ⊢
      have bV := pos_set hU hw0 e.toNat
      obtain ⟨V, hVe⟩ : ∃ V, V = U.set e.toNat w := ⟨_, rfl⟩
      have hVl : V.length = 6 := by rw [hVe, List.length_set]; exact hUl
      have hV : Pos V := by rw [hVe]; exact bV
      rw [← hVe] at sp
      refine br_mk (fun hj2 => ?_) (fun hj2 => ?_)
      · have hj2 : e = kk := by simpa using hj2
        obtain ⟨M, hMe⟩ : ∃ M, M = w := ⟨_, rfl⟩
        have hM : M = V.getD kk.toNat 0 := by rw [hVe, getD_set_ _ _ _ _ (by omega), if_pos (by rw [hj2]), hMe]
        conv => whnf
        rw [← hMe]
        conv => whnf
        have hVl2 : V.length ≤ 512 := by omega
        refine (closed57 sp kk).mono ?_
        rintro _ hC ⟨eh, rfl⟩
        subst eh
        rw [clB_in hk0 (by omega), ← hM]
        conv => whnf
        refine br_mk (fun hx => ?_) (fun hx => ?_)
        · exact absurd hx (by simp)
        clear hx
        conv => whnf
        refine (all55r sp hVl2).mono ?_
        rintro _ hA ⟨qa, rfl, ra, mA⟩
        have sp := sp.old mA (fun _ _ k => k)
        have ro := ro.get mA
        have hal := allV_len V
        conv => whnf
        refine ⟨fun env hk => ∃ (i : Nat) (zi : Int), i ≤ (allV V).length ∧ zi = i ∧ St hk g p V ∧ RoSl hk pl0 m 2 (pairs .i64 ps) ∧ RoSl hk qa (allV V).length 2 ((allV V).flatMap shC) ∧ env = [(17, i64 zi), (16, .sl qa (allV V).length), (8, i64 (j : Int)), (0, .sl pl0 m), (5, .ptr (some (g, 0))), (6, i64 kk), (7, i64 M)],
          fun env _ => match get env 17 with
            | .int _ z => ((allV V).length - z).toNat
            | _ => 0, ⟨_, Forget.cons rfl (Forget.cons rfl (Forget.cons rfl (Forget.cons rfl (Forget.cons rfl (Forget.cons rfl (Forget.cons rfl (Forget.nil _))))))), 0, _, Nat.zero_le _, rfl, sp, ro, ra, rfl⟩, ?_⟩
        clear sp ro ra mA
        rintro _ hK ⟨i, zi, hi, rfl, sp, ro, ra, rfl⟩
        conv => whnf
        refine br_mk (fun hy => ?_) (fun hy => ?_)
        · conv => whnf
          have hy : i < (allV V).length := by simpa using hy
          refine ⟨[0, 1, 2, 3, 4, 5, 6, 7, 8, 9, 10, 11, 12, 13, 14, 15, 16, 17, 18, 19, 20, 21, 22, 23, 24, 25, 26, 27, 28, 29, 30, 31, 32, 33], [0, 1, 3, 7, 7, 23, 63, 127, 255, 7, 7, 1543, 3591, 7687, 16383, 32767, 65535, 131071, 131071, 524287, 1048575, 2097151, 131071, 8388607, 16777215, 33554431, 33554431, 134217727, 268435455, 536870911, 33554431, 2147483647, 4294967295, 8589934591], by kernel_rfl, ?_⟩
          conv => whnf
          obtain ⟨i1, c1, f1, _, f3⟩ := sls_get shC_len ra.is rfl hy
          have g0 := f3 0 (i64 (allV V)[i].1) rfl
          have g1 := f3 1 (i64 (allV V)[i].2) rfl
          obtain ⟨x0, x1, x2, x3⟩ := allV_mem (getElem_in hy)
          refine br_mk (fun hz => ?_) (fun hz => ?_)
          · conv => whnf
            have hz : 0 < i := by simpa using hz
            have hw : IntKind.i64.wrap ((i : Int) - 1) = ((i - 1 : Nat) : Int) := by
              rw [wrap_i64 (by omega) (by omega)]
              omega
            rw [hw]
            have hy1 : i - 1 < (allV V).length := by omega
            obtain ⟨i2, c2, k1, _, k3⟩ := sls_get shC_len ra.is rfl hy1
            have l0 := k3 0 (i64 (allV V)[i - 1].1) rfl
            refine ⟨i2, c2, i - 1, k1, rfl, hy1, ?_⟩
            conv => whnf
            refine ⟨_, l0, ?_⟩
            conv => whnf
            refine ⟨i1, c1, i, f1, rfl, hy, ?_⟩
            conv => whnf
            refine ⟨_, g0, ?_⟩
            conv => whnf
            have hasc := allV_asc (U := V) (i := i - 1) (j := i) (by omega) hy
            refine br_mk (fun hx => ?_) (fun hx => ?_)
            · exact absurd hx (by simp; omega)
            clear hx
            conv => whnf
            refine ⟨i1, c1, i, f1, rfl, hy, ?_⟩
            conv => whnf
            refine ⟨_, g0, ?_⟩
            conv => whnf
            refine br_mk (fun hq => ?_) (fun hq => ?_)
            · conv => whnf
              have hq : (allV V)[i].1 = kk := by simpa using hq
              refine ⟨i1, c1, i, f1, rfl, hy, ?_⟩
              conv => whnf
              refine ⟨_, g1, ?_⟩
              conv => whnf
              have hv : (allV V)[i].2 = M := by rw [x3, hq, hM]
              rw [hv]
              refine br_mk (fun hx => ?_) (fun hx => ?_)
              · exact absurd hx (by simp)
              clear hx
              conv => whnf
              exact ⟨_, Forget.cons rfl (Forget.cons rfl (Forget.cons rfl (Forget.cons rfl (Forget.cons rfl (Forget.cons rfl (Forget.cons rfl (Forget.nil _))))))), ⟨i + 1, _, hy, succ_i64 hy (by omega), sp, ro, ra, rfl⟩, mu_lt hy (by omega)⟩
            · conv => whnf
              exact ⟨_, Forget.cons rfl (Forget.cons rfl (Forget.cons rfl (Forget.cons rfl (Forget.cons rfl (Forget.cons rfl (Forget.cons rfl (Forget.nil _))))))), ⟨i + 1, _, hy, succ_i64 hy (by omega), sp, ro, ra, rfl⟩, mu_lt hy (by omega)⟩
          · conv => whnf
            conv => whnf
            refine ⟨i1, c1, i, f1, rfl, hy, ?_⟩
            conv => whnf
            refine ⟨_, g0, ?_⟩
            conv => whnf
            refine br_mk (fun hq => ?_) (fun hq => ?_)
            · conv => whnf
              have hq : (allV V)[i].1 = kk := by simpa using hq
              refine ⟨i1, c1, i, f1, rfl, hy, ?_⟩
              conv => whnf
              refine ⟨_, g1, ?_⟩
              conv => whnf
              have hv : (allV V)[i].2 = M := by rw [x3, hq, hM]
              rw [hv]
              refine br_mk (fun hx => ?_) (fun hx => ?_)
              · exact absurd hx (by simp)
              clear hx
              conv => whnf
              exact ⟨_, Forget.cons rfl (Forget.cons rfl (Forget.cons rfl (Forget.cons rfl (Forget.cons rfl (Forget.cons rfl (Forget.cons rfl (Forget.nil _))))))), ⟨i + 1, _, hy, succ_i64 hy (by omega), sp, ro, ra, rfl⟩, mu_lt hy (by omega)⟩
            · conv => whnf
              exact ⟨_, Forget.cons rfl (Forget.cons rfl (Forget.cons rfl (Forget.cons rfl (Forget.cons rfl (Forget.cons rfl (Forget.cons rfl (Forget.nil _))))))), ⟨i + 1, _, hy, succ_i64 hy (by omega), sp, ro, ra, rfl⟩, mu_lt hy (by omega)⟩
        · conv => whnf
          exact ⟨_, Forget.cons rfl (Forget.cons rfl (Forget.cons rfl (Forget.cons rfl (Forget.cons rfl (Forget.nil _))))), ⟨j + 1, _, V, M, hd, succ_i64 hd (by omega), hV, hVl, hM, sp, ro, rfl⟩, mu_lt hd (by omega)⟩
      · have hj2 : e ≠ kk := by
          intro x
          rw [x] at hj2
          simp at hj2
        obtain ⟨M, hMe⟩ : ∃ M, M = mine := ⟨_, rfl⟩
        have hM : M = V.getD kk.toNat 0 := by rw [hVe, getD_set_ _ _ _ _ (by omega), if_neg (by omega), hMe, hmine]
        rw [← hMe]
        conv => whnf
        have hVl2 : V.length ≤ 512 := by omega
        refine (closed57 sp kk).mono ?_
        rintro _ hC ⟨eh, rfl⟩
        subst eh
        rw [clB_in hk0 (by omega), ← hM]
        conv => whnf
        refine br_mk (fun hx => ?_) (fun hx => ?_)
        · exact absurd hx (by simp)
        clear hx
        conv => whnf
        refine (all55r sp hVl2).mono ?_
        rintro _ hA ⟨qa, rfl, ra, mA⟩
        have sp := sp.old mA (fun _ _ k => k)
        have ro := ro.get mA
        have hal := allV_len V
        conv => whnf
        refine ⟨fun env hk => ∃ (i : Nat) (zi : Int), i ≤ (allV V).length ∧ zi = i ∧ St hk g p V ∧ RoSl hk pl0 m 2 (pairs .i64 ps) ∧ RoSl hk qa (allV V).length 2 ((allV V).flatMap shC) ∧ env = [(17, i64 zi), (16, .sl qa (allV V).length), (8, i64 (j : Int)), (0, .sl pl0 m), (5, .ptr (some (g, 0))), (6, i64 kk), (7, i64 M)],
          fun env _ => match get env 17 with
            | .int _ z => ((allV V).length - z).toNat
            | _ => 0, ⟨_, Forget.cons rfl (Forget.cons rfl (Forget.cons rfl (Forget.cons rfl (Forget.cons rfl (Forget.cons rfl (Forget.cons rfl (Forget.nil _))))))), 0, _, Nat.zero_le _, rfl, sp, ro, ra, rfl⟩, ?_⟩
        clear sp ro ra mA
        rintro _ hK ⟨i, zi, hi, rfl, sp, ro, ra, rfl⟩
        conv => whnf
        refine br_mk (fun hy => ?_) (fun hy => ?_)
        · conv => whnf
          have hy : i < (allV V).length := by simpa using hy
          refine ⟨[0, 1, 2, 3, 4, 5, 6, 7, 8, 9, 10, 11, 12, 13, 14, 15, 16, 17, 18, 19, 20, 21, 22, 23, 24, 25, 26, 27, 28, 29, 30, 31, 32, 33], [0, 1, 3, 7, 7, 23, 63, 127, 255, 7, 7, 1543, 3591, 7687, 16383, 32767, 65535, 131071, 131071, 524287, 1048575, 2097151, 131071, 8388607, 16777215, 33554431, 33554431, 134217727, 268435455, 536870911, 33554431, 2147483647, 4294967295, 8589934591], by kernel_rfl, ?_⟩
          conv => whnf
          obtain ⟨i1, c1, f1, _, f3⟩ := sls_get shC_len ra.is rfl hy
          have g0 := f3 0 (i64 (allV V)[i].1) rfl
          have g1 := f3 1 (i64 (allV V)[i].2) rfl
          obtain ⟨x0, x1, x2, x3⟩ := allV_mem (getElem_in hy)
          refine br_mk (fun hz => ?_) (fun hz => ?_)
          · conv => whnf
            have hz : 0 < i := by simpa using hz
            have hw : IntKind.i64.wrap ((i : Int) - 1) = ((i - 1 : Nat) : Int) := by
              rw [wrap_i64 (by omega) (by omega)]
              omega
            rw [hw]
            have hy1 : i - 1 < (allV V).length := by omega
            obtain ⟨i2, c2, k1, _, k3⟩ := sls_get shC_len ra.is rfl hy1
            have l0 := k3 0 (i64 (allV V)[i - 1].1) rfl
            refine ⟨i2, c2, i - 1, k1, rfl, hy1, ?_⟩
            conv => whnf
            refine ⟨_, l0, ?_⟩
            conv => whnf
            refine ⟨i1, c1, i, f1, rfl, hy, ?_⟩
            conv => whnf
            refine ⟨_, g0, ?_⟩
            conv => whnf
            have hasc := allV_asc (U := V) (i := i - 1) (j := i) (by omega) hy
            refine br_mk (fun hx => ?_) (fun hx => ?_)
            · exact absurd hx (by simp; omega)
            clear hx
            conv => whnf
            refine ⟨i1, c1, i, f1, rfl, hy, ?_⟩
            conv => whnf
            refine ⟨_, g0, ?_⟩
            conv => whnf
            refine br_mk (fun hq => ?_) (fun hq => ?_)
            · conv => whnf
              have hq : (allV V)[i].1 = kk := by simpa using hq
              refine ⟨i1, c1, i, f1, rfl, hy, ?_⟩
              conv => whnf
              refine ⟨_, g1, ?_⟩
              conv => whnf
              have hv : (allV V)[i].2 = M := by rw [x3, hq, hM]
              rw [hv]
              refine br_mk (fun hx => ?_) (fun hx => ?_)
              · exact absurd hx (by simp)
              clear hx
              conv => whnf
              exact ⟨_, Forget.cons rfl (Forget.cons rfl (Forget.cons rfl (Forget.cons rfl (Forget.cons rfl (Forget.cons rfl (Forget.cons rfl (Forget.nil _))))))), ⟨i + 1, _, hy, succ_i64 hy (by omega), sp, ro, ra, rfl⟩, mu_lt hy (by omega)⟩
            · conv => whnf
              exact ⟨_, Forget.cons rfl (Forget.cons rfl (Forget.cons rfl (Forget.cons rfl (Forget.cons rfl (Forget.cons rfl (Forget.cons rfl (Forget.nil _))))))), ⟨i + 1, _, hy, succ_i64 hy (by omega), sp, ro, ra, rfl⟩, mu_lt hy (by omega)⟩
          · conv => whnf
            conv => whnf
            refine ⟨i1, c1, i, f1, rfl, hy, ?_⟩
            conv => whnf
            refine ⟨_, g0, ?_⟩
            conv => whnf
            refine br_mk (fun hq => ?_) (fun hq => ?_)
            · conv => whnf
              have hq : (allV V)[i].1 = kk := by simpa using hq
              refine ⟨i1, c1, i, f1, rfl, hy, ?_⟩
              conv => whnf
              refine ⟨_, g1, ?_⟩
              conv => whnf
              have hv : (allV V)[i].2 = M := by rw [x3, hq, hM]
              rw [hv]
              refine br_mk (fun hx => ?_) (fun hx => ?_)
              · exact absurd hx (by simp)
              clear hx
              conv => whnf
              exact ⟨_, Forget.cons rfl (Forget.cons rfl (Forget.cons rfl (Forget.cons rfl (Forget.cons rfl (Forget.cons rfl (Forget.cons rfl (Forget.nil _))))))), ⟨i + 1, _, hy, succ_i64 hy (by omega), sp, ro, ra, rfl⟩, mu_lt hy (by omega)⟩
            · conv => whnf
              exact ⟨_, Forget.cons rfl (Forget.cons rfl (Forget.cons rfl (Forget.cons rfl (Forget.cons rfl (Forget.cons rfl (Forget.cons rfl (Forget.nil _))))))), ⟨i + 1, _, hy, succ_i64 hy (by omega), sp, ro, ra, rfl⟩, mu_lt hy (by omega)⟩
        · conv => whnf
          exact ⟨_, Forget.cons rfl (Forget.cons rfl (Forget.cons rfl (Forget.cons rfl (Forget.cons rfl (Forget.nil _))))), ⟨j + 1, _, V, M, hd, succ_i64 hd (by omega), hV, hVl, hM, sp, ro, rfl⟩, mu_lt hd (by omega)⟩
    · have hb : u ≠ 0 := by
        intro x
        rw [x] at hb
        simp at hb
      conv => whnf
      obtain ⟨lr, nr⟩ := laid_row h3 [e, e]
      refine (close46r (sp.old nr (fun _ _ k => k)) lr (by simp) (by omega) u).mono (fun r h4 c => ?_)
      obtain ⟨q4, rfl, r4, sp, m4⟩ := c.val true (outV U u [e]) (U.set e.toNat u) (by
        rw [okC, inR, decide_eq_true (show 1 ≤ u by omega), decide_eq_true (show u ≤ 1099511627776 by omega), in2 he0 (by omega)]
        rfl) (out2 U u e) (set2 he0 (by omega))
      clear c
      have ro := (ro.get nr).get m4
      conv => whnf
      refine ⟨_, rfl, ?_⟩
      conv => whnf
      refine ⟨_, rfl, ?_⟩
      conv => whnf
      refine br_mk (fun hz => ?_) (fun hz => ?_)
      · rw [out1_len he0 (by omega), turns_close U (by omega)] at hz
        exact absurd hz (by simp)
      clear hz
      conv => whnf
      obtain ⟨w, hw⟩ : ∃ w, w = u := ⟨_, rfl⟩
      have hw0 : 0 ≤ w := by omega
      rw [← hw] at sp ⊢
      have bV := pos_set hU hw0 e.toNat
      obtain ⟨V, hVe⟩ : ∃ V, V = U.set e.toNat w := ⟨_, rfl⟩
      have hVl : V.length = 6 := by rw [hVe, List.length_set]; exact hUl
      have hV : Pos V := by rw [hVe]; exact bV
      rw [← hVe] at sp
      refine br_mk (fun hj2 => ?_) (fun hj2 => ?_)
      · have hj2 : e = kk := by simpa using hj2
        obtain ⟨M, hMe⟩ : ∃ M, M = w := ⟨_, rfl⟩
        have hM : M = V.getD kk.toNat 0 := by rw [hVe, getD_set_ _ _ _ _ (by omega), if_pos (by rw [hj2]), hMe]
        conv => whnf
        rw [← hMe]
        conv => whnf
        have hVl2 : V.length ≤ 512 := by omega
        refine (closed57 sp kk).mono ?_
        rintro _ hC ⟨eh, rfl⟩
        subst eh
        rw [clB_in hk0 (by omega), ← hM]
        conv => whnf
        refine br_mk (fun hx => ?_) (fun hx => ?_)
        · exact absurd hx (by simp)
        clear hx
        conv => whnf
        refine (all55r sp hVl2).mono ?_
        rintro _ hA ⟨qa, rfl, ra, mA⟩
        have sp := sp.old mA (fun _ _ k => k)
        have ro := ro.get mA
        have hal := allV_len V
        conv => whnf
        refine ⟨fun env hk => ∃ (i : Nat) (zi : Int), i ≤ (allV V).length ∧ zi = i ∧ St hk g p V ∧ RoSl hk pl0 m 2 (pairs .i64 ps) ∧ RoSl hk qa (allV V).length 2 ((allV V).flatMap shC) ∧ env = [(17, i64 zi), (16, .sl qa (allV V).length), (8, i64 (j : Int)), (0, .sl pl0 m), (5, .ptr (some (g, 0))), (6, i64 kk), (7, i64 M)],
          fun env _ => match get env 17 with
            | .int _ z => ((allV V).length - z).toNat
            | _ => 0, ⟨_, Forget.cons rfl (Forget.cons rfl (Forget.cons rfl (Forget.cons rfl (Forget.cons rfl (Forget.cons rfl (Forget.cons rfl (Forget.nil _))))))), 0, _, Nat.zero_le _, rfl, sp, ro, ra, rfl⟩, ?_⟩
        clear sp ro ra mA
        rintro _ hK ⟨i, zi, hi, rfl, sp, ro, ra, rfl⟩
        conv => whnf
        refine br_mk (fun hy => ?_) (fun hy => ?_)
        · conv => whnf
          have hy : i < (allV V).length := by simpa using hy
          refine ⟨[0, 1, 2, 3, 4, 5, 6, 7, 8, 9, 10, 11, 12, 13, 14, 15, 16, 17, 18, 19, 20, 21, 22, 23, 24, 25, 26, 27, 28, 29, 30, 31, 32, 33], [0, 1, 3, 7, 7, 23, 63, 127, 255, 7, 7, 1543, 3591, 7687, 16383, 32767, 65535, 131071, 131071, 524287, 1048575, 2097151, 131071, 8388607, 16777215, 33554431, 33554431, 134217727, 268435455, 536870911, 33554431, 2147483647, 4294967295, 8589934591], by kernel_rfl, ?_⟩
          conv => whnf
          obtain ⟨i1, c1, f1, _, f3⟩ := sls_get shC_len ra.is rfl hy
          have g0 := f3 0 (i64 (allV V)[i].1) rfl
          have g1 := f3 1 (i64 (allV V)[i].2) rfl
          obtain ⟨x0, x1, x2, x3⟩ := allV_mem (getElem_in hy)
          refine br_mk (fun hz => ?_) (fun hz => ?_)
          · conv => whnf
            have hz : 0 < i := by simpa using hz
            have hw : IntKind.i64.wrap ((i : Int) - 1) = ((i - 1 : Nat) : Int) := by
              rw [wrap_i64 (by omega) (by omega)]
              omega
            rw [hw]
            have hy1 : i - 1 < (allV V).length := by omega
            obtain ⟨i2, c2, k1, _, k3⟩ := sls_get shC_len ra.is rfl hy1
            have l0 := k3 0 (i64 (allV V)[i - 1].1) rfl
            refine ⟨i2, c2, i - 1, k1, rfl, hy1, ?_⟩
            conv => whnf
            refine ⟨_, l0, ?_⟩
            conv => whnf
            refine ⟨i1, c1, i, f1, rfl, hy, ?_⟩
            conv => whnf
            refine ⟨_, g0, ?_⟩
            conv => whnf
            have hasc := allV_asc (U := V) (i := i - 1) (j := i) (by omega) hy
            refine br_mk (fun hx => ?_) (fun hx => ?_)
            · exact absurd hx (by simp; omega)
            clear hx
            conv => whnf
            refine ⟨i1, c1, i, f1, rfl, hy, ?_⟩
            conv => whnf
            refine ⟨_, g0, ?_⟩
            conv => whnf
            refine br_mk (fun hq => ?_) (fun hq => ?_)
            · conv => whnf
              have hq : (allV V)[i].1 = kk := by simpa using hq
              refine ⟨i1, c1, i, f1, rfl, hy, ?_⟩
              conv => whnf
              refine ⟨_, g1, ?_⟩
              conv => whnf
              have hv : (allV V)[i].2 = M := by rw [x3, hq, hM]
              rw [hv]
              refine br_mk (fun hx => ?_) (fun hx => ?_)
              · exact absurd hx (by simp)
              clear hx
              conv => whnf
              exact ⟨_, Forget.cons rfl (Forget.cons rfl (Forget.cons rfl (Forget.cons rfl (Forget.cons rfl (Forget.cons rfl (Forget.cons rfl (Forget.nil _))))))), ⟨i + 1, _, hy, succ_i64 hy (by omega), sp, ro, ra, rfl⟩, mu_lt hy (by omega)⟩
            · conv => whnf
              exact ⟨_, Forget.cons rfl (Forget.cons rfl (Forget.cons rfl (Forget.cons rfl (Forget.cons rfl (Forget.cons rfl (Forget.cons rfl (Forget.nil _))))))), ⟨i + 1, _, hy, succ_i64 hy (by omega), sp, ro, ra, rfl⟩, mu_lt hy (by omega)⟩
          · conv => whnf
            conv => whnf
            refine ⟨i1, c1, i, f1, rfl, hy, ?_⟩
            conv => whnf
            refine ⟨_, g0, ?_⟩
            conv => whnf
            refine br_mk (fun hq => ?_) (fun hq => ?_)
            · conv => whnf
              have hq : (allV V)[i].1 = kk := by simpa using hq
              refine ⟨i1, c1, i, f1, rfl, hy, ?_⟩
              conv => whnf
              refine ⟨_, g1, ?_⟩
              conv => whnf
              have hv : (allV V)[i].2 = M := by rw [x3, hq, hM]
              rw [hv]
              refine br_mk (fun hx => ?_) (fun hx => ?_)
              · exact absurd hx (by simp)
              clear hx
              conv => whnf
              exact ⟨_, Forget.cons rfl (Forget.cons rfl (Forget.cons rfl (Forget.cons rfl (Forget.cons rfl (Forget.cons rfl (Forget.cons rfl (Forget.nil _))))))), ⟨i + 1, _, hy, succ_i64 hy (by omega), sp, ro, ra, rfl⟩, mu_lt hy (by omega)⟩
            · conv => whnf
              exact ⟨_, Forget.cons rfl (Forget.cons rfl (Forget.cons rfl (Forget.cons rfl (Forget.cons rfl (Forget.cons rfl (Forget.cons rfl (Forget.nil _))))))), ⟨i + 1, _, hy, succ_i64 hy (by omega), sp, ro, ra, rfl⟩, mu_lt hy (by omega)⟩
        · conv => whnf
          exact ⟨_, Forget.cons rfl (Forget.cons rfl (Forget.cons rfl (Forget.cons rfl (Forget.cons rfl (Forget.nil _))))), ⟨j + 1, _, V, M, hd, succ_i64 hd (by omega), hV, hVl, hM, sp, ro, rfl⟩, mu_lt hd (by omega)⟩
      · have hj2 : e ≠ kk := by
          intro x
          rw [x] at hj2
          simp at hj2
        obtain ⟨M, hMe⟩ : ∃ M, M = mine := ⟨_, rfl⟩
        have hM : M = V.getD kk.toNat 0 := by rw [hVe, getD_set_ _ _ _ _ (by omega), if_neg (by omega), hMe, hmine]
        rw [← hMe]
        conv => whnf
        have hVl2 : V.length ≤ 512 := by omega
        refine (closed57 sp kk).mono ?_
        rintro _ hC ⟨eh, rfl⟩
        subst eh
        rw [clB_in hk0 (by omega), ← hM]
        conv => whnf
        refine br_mk (fun hx => ?_) (fun hx => ?_)
        · exact absurd hx (by simp)
        clear hx
        conv => whnf
        refine (all55r sp hVl2).mono ?_
        rintro _ hA ⟨qa, rfl, ra, mA⟩
        have sp := sp.old mA (fun _ _ k => k)
        have ro := ro.get mA
        have hal := allV_len V
        conv => whnf
        refine ⟨fun env hk => ∃ (i : Nat) (zi : Int), i ≤ (allV V).length ∧ zi = i ∧ St hk g p V ∧ RoSl hk pl0 m 2 (pairs .i64 ps) ∧ RoSl hk qa (allV V).length 2 ((allV V).flatMap shC) ∧ env = [(17, i64 zi), (16, .sl qa (allV V).length), (8, i64 (j : Int)), (0, .sl pl0 m), (5, .ptr (some (g, 0))), (6, i64 kk), (7, i64 M)],
          fun env _ => match get env 17 with
            | .int _ z => ((allV V).length - z).toNat
            | _ => 0, ⟨_, Forget.cons rfl (Forget.cons rfl (Forget.cons rfl (Forget.cons rfl (Forget.cons rfl (Forget.cons rfl (Forget.cons rfl (Forget.nil _))))))), 0, _, Nat.zero_le _, rfl, sp, ro, ra, rfl⟩, ?_⟩
        clear sp ro ra mA
        rintro _ hK ⟨i, zi, hi, rfl, sp, ro, ra, rfl⟩
        conv => whnf
        refine br_mk (fun hy => ?_) (fun hy => ?_)
        · conv => whnf
          have hy : i < (allV V).length := by simpa using hy
          refine ⟨[0, 1, 2, 3, 4, 5, 6, 7, 8, 9, 10, 11, 12, 13, 14, 15, 16, 17, 18, 19, 20, 21, 22, 23, 24, 25, 26, 27, 28, 29, 30, 31, 32, 33], [0, 1, 3, 7, 7, 23, 63, 127, 255, 7, 7, 1543, 3591, 7687, 16383, 32767, 65535, 131071, 131071, 524287, 1048575, 2097151, 131071, 8388607, 16777215, 33554431, 33554431, 134217727, 268435455, 536870911, 33554431, 2147483647, 4294967295, 8589934591], by kernel_rfl, ?_⟩
          conv => whnf
          obtain ⟨i1, c1, f1, _, f3⟩ := sls_get shC_len ra.is rfl hy
          have g0 := f3 0 (i64 (allV V)[i].1) rfl
          have g1 := f3 1 (i64 (allV V)[i].2) rfl
          obtain ⟨x0, x1, x2, x3⟩ := allV_mem (getElem_in hy)
          refine br_mk (fun hz => ?_) (fun hz => ?_)
          · conv => whnf
            have hz : 0 < i := by simpa using hz
            have hw : IntKind.i64.wrap ((i : Int) - 1) = ((i - 1 : Nat) : Int) := by
              rw [wrap_i64 (by omega) (by omega)]
              omega
            rw [hw]
            have hy1 : i - 1 < (allV V).length := by omega
            obtain ⟨i2, c2, k1, _, k3⟩ := sls_get shC_len ra.is rfl hy1
            have l0 := k3 0 (i64 (allV V)[i - 1].1) rfl
            refine ⟨i2, c2, i - 1, k1, rfl, hy1, ?_⟩
            conv => whnf
            refine ⟨_, l0, ?_⟩
            conv => whnf
            refine ⟨i1, c1, i, f1, rfl, hy, ?_⟩
            conv => whnf
            refine ⟨_, g0, ?_⟩
            conv => whnf
            have hasc := allV_asc (U := V) (i := i - 1) (j := i) (by omega) hy
            refine br_mk (fun hx => ?_) (fun hx => ?_)
            · exact absurd hx (by simp; omega)
            clear hx
            conv => whnf
            refine ⟨i1, c1, i, f1, rfl, hy, ?_⟩
            conv => whnf
            refine ⟨_, g0, ?_⟩
            conv => whnf
            refine br_mk (fun hq => ?_) (fun hq => ?_)
            · conv => whnf
              have hq : (allV V)[i].1 = kk := by simpa using hq
              refine ⟨i1, c1, i, f1, rfl, hy, ?_⟩
              conv => whnf
              refine ⟨_, g1, ?_⟩
              conv => whnf
              have hv : (allV V)[i].2 = M := by rw [x3, hq, hM]
              rw [hv]
              refine br_mk (fun hx => ?_) (fun hx => ?_)
              · exact absurd hx (by simp)
              clear hx
              conv => whnf
              exact ⟨_, Forget.cons rfl (Forget.cons rfl (Forget.cons rfl (Forget.cons rfl (Forget.cons rfl (Forget.cons rfl (Forget.cons rfl (Forget.nil _))))))), ⟨i + 1, _, hy, succ_i64 hy (by omega), sp, ro, ra, rfl⟩, mu_lt hy (by omega)⟩
            · conv => whnf
              exact ⟨_, Forget.cons rfl (Forget.cons rfl (Forget.cons rfl (Forget.cons rfl (Forget.cons rfl (Forget.cons rfl (Forget.cons rfl (Forget.nil _))))))), ⟨i + 1, _, hy, succ_i64 hy (by omega), sp, ro, ra, rfl⟩, mu_lt hy (by omega)⟩
          · conv => whnf
            conv => whnf
            refine ⟨i1, c1, i, f1, rfl, hy, ?_⟩
            conv => whnf
            refine ⟨_, g0, ?_⟩
            conv => whnf
            refine br_mk (fun hq => ?_) (fun hq => ?_)
            · conv => whnf
              have hq : (allV V)[i].1 = kk := by simpa using hq
              refine ⟨i1, c1, i, f1, rfl, hy, ?_⟩
              conv => whnf
              refine ⟨_, g1, ?_⟩
              conv => whnf
              have hv : (allV V)[i].2 = M := by rw [x3, hq, hM]
              rw [hv]
              refine br_mk (fun hx => ?_) (fun hx => ?_)
              · exact absurd hx (by simp)
              clear hx
              conv => whnf
              exact ⟨_, Forget.cons rfl (Forget.cons rfl (Forget.cons rfl (Forget.cons rfl (Forget.cons rfl (Forget.cons rfl (Forget.cons rfl (Forget.nil _))))))), ⟨i + 1, _, hy, succ_i64 hy (by omega), sp, ro, ra, rfl⟩, mu_lt hy (by omega)⟩
            · conv => whnf
              exact ⟨_, Forget.cons rfl (Forget.cons rfl (Forget.cons rfl (Forget.cons rfl (Forget.cons rfl (Forget.cons rfl (Forget.cons rfl (Forget.nil _))))))), ⟨i + 1, _, hy, succ_i64 hy (by omega), sp, ro, ra, rfl⟩, mu_lt hy (by omega)⟩
        · conv => whnf
          exact ⟨_, Forget.cons rfl (Forget.cons rfl (Forget.cons rfl (Forget.cons rfl (Forget.cons rfl (Forget.nil _))))), ⟨j + 1, _, V, M, hd, succ_i64 hd (by omega), hV, hVl, hM, sp, ro, rfl⟩, mu_lt hd (by omega)⟩
  · conv => whnf
    refine (awake43 hh).mono ?_
    rintro _ h3 rfl
    conv => whnf
end Go.Proofs.Ytpefdmidfllhoaa
