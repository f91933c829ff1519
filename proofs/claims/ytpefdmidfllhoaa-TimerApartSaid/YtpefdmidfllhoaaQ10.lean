/- Lapsing, asking: the document's set; two lists held against each other. -/
import Derived.Test.YtpefdmidfllhoaaQ9
set_option linter.unusedVariables false
namespace Go.Proofs.Ytpefdmidfllhoaa
open Go Go.Ab
theorem pos_ne {U : List Int} (hp : Pos U) (j : Nat) : (U.getD j 0 != 0) = decide (0 < U.getD j 0) := by
  have := hp j
  by_cases h0 : U.getD j 0 = 0
  · rw [h0]
    rfl
  · rw [decide_eq_true (by omega)]
    simpa using h0
theorem all56 {h : H} {g : Nat} {p : Option (Nat × Nat)} {U : List Int} (s : St h g p U) (hU : U.length ≤ 512) (hp : Pos U) : ACalls Try.prog 56 [.ptr (some (g, 0))] h (AllQ h U) := by
  refine call_ Try.func56 rfl rfl (by kernel_rfl) ?_
  conv => whnf
  refine ⟨fun env hh => ∃ (j : Nat) (z : Int) (po : Option (Nat × Nat)), j ≤ U.length ∧ z = j ∧ NewSl h hh po (allJ U j).length 2 ((allJ U j).flatMap shC) ∧ Ab.Mod none_ h hh ∧
      env = [(4, i64 z), (3, .sl po (allJ U j).length), (0, .ptr (some (g, 0)))],
    fun env _ => match get env 4 with
      | .int _ z => (U.length - z).toNat
      | _ => 0, ⟨_, Forget.cons rfl (Forget.cons rfl (Forget.cons rfl (Forget.nil _))), 0, _, none, Nat.zero_le _, rfl, NewSl.nil _ _ _, ⟨Nat.le_refl _, fun _ _ _ => rfl⟩, rfl⟩, ?_⟩
  rintro _ hh ⟨j, z, po, hj, rfl, no, mo, rfl⟩
  conv => whnf
  have st := s.old mo (fun _ _ k => k)
  refine ⟨_, Cell.mk st.box rfl, ?_⟩
  conv => whnf
  refine br_mk (fun hd => ?_) (fun hd => ?_)
  · conv => whnf
    have hd : j < U.length := by simpa using hd
    obtain ⟨i1, c1, f1, f2⟩ := st.cell hd
    refine ⟨_, Cell.mk st.box rfl, ?_⟩
    conv => whnf
    refine ⟨i1, c1, j, f1, rfl, hd, ?_⟩
    conv => whnf
    refine ⟨_, f2, ?_⟩
    conv => whnf
    rw [pos_ne hp]
    have hjl := allJ_le U j
    refine br_mk (fun hb => ?_) (fun hb => ?_)
    · have e0 : allJ U (j + 1) = allJ U j ++ [((j : Int), U.getD j 0)] := by rw [allJ_succ, if_pos hb]
      conv => whnf
      refine ⟨_, Cell.mk st.box rfl, ?_⟩
      conv => whnf
      refine ⟨i1, c1, j, f1, rfl, hd, ?_⟩
      conv => whnf
      refine ⟨_, f2, ?_⟩
      conv => whnf
      obtain ⟨q1', q2', q3'⟩ := app1 no mo (shC ((j : Int), U.getD j 0)) rfl
      refine ⟨_, _, q1', q2', by rw [show (T.at_ 108).bytes = 16 from rfl]; omega, by omega, fun po2 h4 hs hm4 hf => ?_⟩
      obtain ⟨no2, mo2, m6⟩ := q3' po2 h4 hs hm4 hf
      conv => whnf
      have e6 : (allJ U j).flatMap shC ++ shC ((j : Int), U.getD j 0) = (allJ U (j + 1)).flatMap shC := by rw [e0, List.flatMap_append]; simp
      have e7 : (allJ U j).length + 1 = (allJ U (j + 1)).length := by rw [e0]; simp
      rw [e6, e7] at no2
      rw [e7]
      exact ⟨_, Forget.cons rfl (Forget.cons rfl (Forget.cons rfl (Forget.nil _))), ⟨j + 1, _, po2, hd, succ_i64 hd (by omega), no2, mo2, rfl⟩, mu_lt hd (by omega)⟩
    · have e0 : allJ U (j + 1) = allJ U j := by rw [allJ_succ, if_neg (by rw [hb]; simp), List.append_nil]
      conv => whnf
      rw [← e0] at no ⊢
      exact ⟨_, Forget.cons rfl (Forget.cons rfl (Forget.cons rfl (Forget.nil _))), ⟨j + 1, _, po, hd, succ_i64 hd (by omega), no, mo, rfl⟩, mu_lt hd (by omega)⟩
  · conv => whnf
    have hd : ¬ j < U.length := by simpa using hd
    obtain rfl : j = U.length := by omega
    rw [allJ_all] at no ⊢
    exact ⟨po, rfl, no, mo⟩
def lpF (U : List Int) (now : Int) (k : Nat) : Bool := decide (0 < U.getD k 0) && decide (U.getD k 0 ≤ now)
theorem lapse51 {h : H} {g : Nat} {p : Option (Nat × Nat)} {U : List Int} (s : St h g p U) (hU : U.length ≤ 512) (hp : Pos U) (now : Int) : ACalls Try.prog 51 [.ptr (some (g, 0)), i64 now] h (LapseQ h g p U now) := by
  refine call_ Try.func51 rfl rfl (by kernel_rfl) ?_
  conv => whnf
  have hpq : ∀ i, inSl p i → i < h.next := fun i hi => s.lt i (.inr hi)
  refine ⟨fun env hh => ∃ (j : Nat) (z : Int) (po : Option (Nat × Nat)), j ≤ U.length ∧ z = j ∧ NewSl h hh po (pl j (lpF U now)).length 1 (ints .i64 (pl j (lpF U now))) ∧ St hh g p (setV U 0 (pl j (lpF U now))) ∧ Ab.Mod (inSl p) h hh ∧
      env = [(6, i64 z), (5, .sl po (pl j (lpF U now)).length), (0, .ptr (some (g, 0))), (1, i64 now)],
    fun env _ => match get env 6 with
      | .int _ z => (U.length - z).toNat
      | _ => 0, ⟨_, Forget.cons rfl (Forget.cons rfl (Forget.cons rfl (Forget.cons rfl (Forget.nil _)))), 0, _, none, Nat.zero_le _, rfl, NewSl.nil _ _ _, by rw [pl_zero, setV_nil]; exact s, ⟨Nat.le_refl _, fun _ _ _ => rfl⟩, rfl⟩, ?_⟩
  rintro _ hh ⟨j, z, po, hj, rfl, no, st, mo, rfl⟩
  conv => whnf
  refine ⟨_, Cell.mk st.box rfl, ?_⟩
  conv => whnf
  rw [setV_length]
  have hjl := pl_le j (lpF U now)
  refine br_mk (fun hd => ?_) (fun hd => ?_)
  · conv => whnf
    have hd : j < U.length := by simpa using hd
    have hsl : j < (setV U 0 (pl j (lpF U now))).length := by rw [setV_length]; exact hd
    obtain ⟨i1, c1, f1, f2⟩ := st.cell hsl
    rw [setV_get _ _ _ hd, if_neg (by
      rw [pl_mem]
      rintro ⟨k, hk, _, e⟩
      omega)] at f2
    refine ⟨_, Cell.mk st.box rfl, ?_⟩
    conv => whnf
    refine ⟨i1, c1, j, f1, rfl, hsl, ?_⟩
    conv => whnf
    refine ⟨_, f2, ?_⟩
    conv => whnf
    rw [pos_ne hp]
    have no' : lpF U now j = false → pl (j + 1) (lpF U now) = pl j (lpF U now) := fun hf => by rw [pl_succ, if_neg (by rw [hf]; simp), List.append_nil]
    refine br_mk (fun hb => ?_) (fun hb => ?_)
    · conv => whnf
      refine ⟨_, Cell.mk st.box rfl, ?_⟩
      conv => whnf
      refine ⟨i1, c1, j, f1, rfl, hsl, ?_⟩
      conv => whnf
      refine ⟨_, f2, ?_⟩
      conv => whnf
      refine br_mk (fun hc => ?_) (fun hc => ?_)
      · have hF : lpF U now j = true := by rw [lpF, hb, hc]; rfl
        have e0 : pl (j + 1) (lpF U now) = pl j (lpF U now) ++ [(j : Int)] := by rw [pl_succ, if_pos hF]
        conv => whnf
        refine ⟨_, Cell.mk st.box rfl, ?_⟩
        conv => whnf
        obtain ⟨i3, c3, sz3, cs3, a1, a2, a3, a4, a5⟩ := st.put hsl 0
        refine ⟨i3, c3, j, a1, rfl, hsl, ?_⟩
        conv => whnf
        refine ⟨_, _, a2, a3, ?_⟩
        conv => whnf
        have es : (setV U 0 (pl j (lpF U now))).set j 0 = setV U 0 (pl (j + 1) (lpF U now)) := by
          have := setV_snoc U 0 (pl j (lpF U now)) (e := (j : Int)) (by omega) (by omega)
          rw [show ((j : Int)).toNat = j by omega] at this
          rw [this, e0]
        rw [es] at a4
        have noS := NewSl.keep no a5 hpq
        have moS := mo.trans' a5 (fun _ _ k => k) (fun _ _ k => k)
        obtain ⟨q1', q2', q3'⟩ := app1 noS moS [i64 (j : Int)] rfl
        refine ⟨_, _, q1', q2', by rw [show (T.at_ 3).bytes = 8 from rfl]; omega, by omega, fun po2 h6 hs hm6 hf => ?_⟩
        obtain ⟨no2, mo2, m6⟩ := q3' po2 h6 hs hm6 hf
        have st2 := St.apart (h0 := h) a4 m6 (fun i hi => s.lt i hi) noS.2
        conv => whnf
        have e6 : ints .i64 (pl j (lpF U now)) ++ [i64 (j : Int)] = ints .i64 (pl (j + 1) (lpF U now)) := by rw [e0, ints_append]; rfl
        have e7 : (pl j (lpF U now)).length + 1 = (pl (j + 1) (lpF U now)).length := by rw [e0]; simp
        rw [e6, e7] at no2
        rw [e7]
        exact ⟨_, Forget.cons rfl (Forget.cons rfl (Forget.cons rfl (Forget.cons rfl (Forget.nil _)))), ⟨j + 1, _, po2, hd, succ_i64 hd (by omega), no2, st2, mo2, rfl⟩, mu_lt hd (by omega)⟩
      · have e0 := no' (by rw [lpF, show decide (U.getD j 0 ≤ now) = false from hc, Bool.and_false])
        conv => whnf
        rw [← e0] at no st ⊢
        exact ⟨_, Forget.cons rfl (Forget.cons rfl (Forget.cons rfl (Forget.cons rfl (Forget.nil _)))), ⟨j + 1, _, po, hd, succ_i64 hd (by omega), no, st, mo, rfl⟩, mu_lt hd (by omega)⟩
    · have e0 := no' (by rw [lpF, hb, Bool.false_and])
      conv => whnf
      rw [← e0] at no st ⊢
      exact ⟨_, Forget.cons rfl (Forget.cons rfl (Forget.cons rfl (Forget.cons rfl (Forget.nil _)))), ⟨j + 1, _, po, hd, succ_i64 hd (by omega), no, st, mo, rfl⟩, mu_lt hd (by omega)⟩
  · conv => whnf
    have hd : ¬ j < U.length := by simpa using hd
    obtain rfl : j = U.length := by omega
    exact ⟨po, rfl, no, st, mo⟩
theorem ints33 {h : H} {p q : Option (Nat × Nat)} {n m : Nat} {a b : List Int} (sa : SlIs h p n false 1 (ints .i64 a)) (sb : SlIs h q m false 1 (ints .i64 b)) (hn : n ≤ 1000000) :
    ACalls Try.prog 33 [.sl p n, .sl q m] h (fun r h' => h' = h ∧ r = .bool (decide (a = b))) := by
  have la := slo_len sa
  have lb := slo_len sb
  refine call_ Try.func33 rfl rfl (by kernel_rfl) ?_
  conv => whnf
  refine br_mk (fun hd => ?_) (fun hd => ?_)
  · conv => whnf
    have hd : ¬ n = m := by
      intro e
      subst e
      simp at hd
    exact ⟨rfl, by rw [decide_eq_false (by rintro rfl; omega)]⟩
  conv => whnf
  have hnm : n = m := by
    have : (n : Int) = m := by simpa using hd
    omega
  clear hd
  refine ⟨fun env hh => ∃ (j : Nat) (z : Int), j ≤ n ∧ z = j ∧ hh = h ∧ (∀ k, k < j → a.getD k 0 = b.getD k 0) ∧ env = [(5, i64 z), (0, .sl p n), (1, .sl q m)],
    fun env _ => match get env 5 with
      | .int _ z => (n - z).toNat
      | _ => 0, ⟨_, Forget.cons rfl (Forget.cons rfl (Forget.cons rfl (Forget.nil _))), 0, _, Nat.zero_le _, rfl, rfl, fun k hk => absurd hk (Nat.not_lt_zero k), rfl⟩, ?_⟩
  rintro _ hh ⟨j, z, hj, rfl, eh, hall, rfl⟩
  subst eh
  conv => whnf
  refine br_mk (fun hd => ?_) (fun hd => ?_)
  · conv => whnf
    have hd : j < n := by simpa using hd
    refine ⟨[0, 1, 2, 3, 4, 5, 6, 7, 8], [0, 0, 3, 7, 0, 0, 48, 112, 255], by kernel_rfl, ?_⟩
    conv => whnf
    obtain ⟨i1, c1, f1, f2⟩ := slo_get sa hd
    refine ⟨i1, c1, j, f1, rfl, hd, ?_⟩
    conv => whnf
    refine ⟨_, f2, ?_⟩
    conv => whnf
    have hdm : j < m := by omega
    obtain ⟨i2, c2, k1, k2⟩ := slo_get sb hdm
    refine ⟨i2, c2, j, k1, rfl, hdm, ?_⟩
    conv => whnf
    refine ⟨_, k2, ?_⟩
    conv => whnf
    refine br_mk (fun he => ?_) (fun he => ?_)
    · conv => whnf
      refine ⟨rfl, by rw [decide_eq_false]; rintro rfl; simp at he⟩
    · conv => whnf
      have he : a.getD j 0 = b.getD j 0 := by
        by_cases e : a.getD j 0 = b.getD j 0
        · exact e
        · exact absurd he (by rw [bne_iff_ne.2 e]; simp)
      refine ⟨_, Forget.cons rfl (Forget.cons rfl (Forget.cons rfl (Forget.nil _))), ⟨j + 1, _, hd, succ_i64 hd (by omega), rfl, fun k hk => ?_, rfl⟩, mu_lt hd hn⟩
      by_cases e : k = j
      · subst e; exact he
      · exact hall k (by omega)
  · conv => whnf
    have hd : ¬ j < n := by simpa using hd
    exact ⟨rfl, by rw [decide_eq_true (list_ext0 (by omega) (fun k hk => hall k (by omega)))]⟩
theorem round19 {m : Int} (hm : 0 < m) (hm2 : m ≤ 72057594037927936) (x : Int) (h : H) : ACalls Try.prog 19 [i64 x, i64 m] h (fun r h' => h' = h ∧ r = i64 (x % m)) := by
  have hr := tmod_round (x := x) hm
  refine call_ Try.func19 rfl rfl (by kernel_rfl) ?_
  conv => whnf
  refine ⟨by omega, ?_⟩
  conv => whnf
  refine br_mk (fun ha => ?_) (fun ha => ?_)
  · conv => whnf
    have ha : x.tmod m < 0 := by simpa using ha
    rw [if_pos ha] at hr
    have h1 := Int.emod_nonneg x (show m ≠ 0 by omega)
    have h2 := Int.emod_lt_of_pos x hm
    exact ⟨rfl, by rw [wrap_i64 (by omega) (by omega), hr]⟩
  · conv => whnf
    have ha : ¬ x.tmod m < 0 := by simpa using ha
    rw [if_neg ha] at hr
    exact ⟨rfl, by rw [hr]⟩
theorem same54 {h : H} {p q : Option (Nat × Nat)} {n m : Nat} {a b : List (Int × Int)} (sa : SlIs h p n false 2 (a.flatMap shC)) (sb : SlIs h q m false 2 (b.flatMap shC)) (la : n = a.length) (lb : m = b.length) (hn : n ≤ 1000000) :
    ACalls Try.prog 54 [.sl p n, .sl q m] h (fun r h' => h' = h ∧ r = .bool (decide (a = b))) := by
  refine call_ Try.func54 rfl rfl (by kernel_rfl) ?_
  conv => whnf
  refine br_mk (fun hd => ?_) (fun hd => ?_)
  · conv => whnf
    have hd : ¬ n = m := by
      intro e
      subst e
      simp at hd
    exact ⟨rfl, by rw [decide_eq_false (by rintro rfl; omega)]⟩
  conv => whnf
  have hnm : n = m := by
    have : (n : Int) = m := by simpa using hd
    omega
  clear hd
  refine ⟨fun env hh => ∃ (j : Nat) (z : Int), j ≤ n ∧ z = j ∧ hh = h ∧ (∀ k, k < j → a[k]? = b[k]?) ∧ env = [(5, i64 z), (0, .sl p n), (1, .sl q m)],
    fun env _ => match get env 5 with
      | .int _ z => (n - z).toNat
      | _ => 0, ⟨_, Forget.cons rfl (Forget.cons rfl (Forget.cons rfl (Forget.nil _))), 0, _, Nat.zero_le _, rfl, rfl, fun k hk => absurd hk (Nat.not_lt_zero k), rfl⟩, ?_⟩
  rintro _ hh ⟨j, z, hj, rfl, eh, hall, rfl⟩
  subst eh
  conv => whnf
  refine br_mk (fun hd => ?_) (fun hd => ?_)
  · conv => whnf
    have hd : j < n := by simpa using hd
    refine ⟨[0, 1, 2, 3, 4, 5, 6, 7, 8], [0, 0, 3, 7, 0, 0, 48, 112, 255], by kernel_rfl, ?_⟩
    conv => whnf
    have hda : j < a.length := by omega
    have hdb : j < b.length := by omega
    have hdm : j < m := by omega
    obtain ⟨i1, c1, f1, f2, _⟩ := sls_get shC_len sa la hda
    refine ⟨i1, c1, j, f1, rfl, hd, ?_⟩
    conv => whnf
    refine ⟨_, f2, ?_⟩
    conv => whnf
    obtain ⟨i2, c2, k1, k2, _⟩ := sls_get shC_len sb lb hdb
    refine ⟨i2, c2, j, k1, rfl, hdm, ?_⟩
    conv => whnf
    refine ⟨_, k2, ?_⟩
    conv => whnf
    refine ⟨[a[j].1, a[j].2], [b[j].1, b[j].2], rfl, rfl, ?_⟩
    conv => whnf
    refine br_mk (fun he => ?_) (fun he => ?_)
    · conv => whnf
      refine ⟨rfl, by rw [decide_eq_false]; rintro rfl; simp at he⟩
    · conv => whnf
      have he : a[j] = b[j] := by
        have he : ([a[j].1, a[j].2] == [b[j].1, b[j].2]) = true := by
          cases h0 : ([a[j].1, a[j].2] == [b[j].1, b[j].2])
          · rw [h0] at he; cases he
          · rfl
        have := eq_of_beq he
        simp at this
        exact Prod.ext this.1 this.2
      refine ⟨_, Forget.cons rfl (Forget.cons rfl (Forget.cons rfl (Forget.nil _))), ⟨j + 1, _, hd, succ_i64 hd (by omega), rfl, fun k hk => ?_, rfl⟩, mu_lt hd hn⟩
      by_cases e : k = j
      · subst e
        rw [List.getElem?_eq_getElem hda, List.getElem?_eq_getElem hdb, he]
      · exact hall k (by omega)
  · conv => whnf
    have hd : ¬ j < n := by simpa using hd
    refine ⟨rfl, ?_⟩
    rw [decide_eq_true]
    apply List.ext_getElem?
    intro k
    by_cases hk : k < a.length
    · exact hall k (by omega)
    · rw [List.getElem?_eq_none (by omega), List.getElem?_eq_none (by omega)]
end Go.Proofs.Ytpefdmidfllhoaa
