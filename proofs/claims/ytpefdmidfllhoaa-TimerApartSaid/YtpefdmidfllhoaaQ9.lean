/- Closing and opening: the document's set. -/
import Derived.Test.YtpefdmidfllhoaaQ8
set_option linter.unusedVariables false
namespace Go.Proofs.Ytpefdmidfllhoaa
open Go Go.Ab
def frF (U : List Int) (u : Int) (E : List Int) (k : Nat) : Bool := decide ((k : Int) ∈ E) && turnsB U u k
theorem frF_snoc {U : List Int} {u : Int} {E : List Int} {e : Int} (h0 : 0 ≤ e) {n : Nat} (h1 : e.toNat < n) : (bt n (frF U u E)).set e.toNat (turnsB U u e) = bt n (frF U u (E ++ [e])) := by
  refine bt_set h1 ?_ (fun k hk hke => ?_)
  · rw [frF, show ((e.toNat : Nat) : Int) = e by omega, decide_eq_true (by simp), Bool.true_and]
  · rw [frF, frF]
    congr 1
    refine decide_eq_decide.2 ?_
    rw [List.mem_append]
    constructor
    · rintro (a | a)
      · exact a
      · have a : (k : Int) = e := by simpa using a
        omega
    · exact .inl
theorem fresh_close {U : List Int} {u : Int} {E : List Int} (hp : Pos U) (hu : 1 ≤ u) {e : Int} (h0 : 0 ≤ e) (h1 : e < U.length) (hf : frF U u E e.toNat = false) : ((setV U u E).getD e.toNat 0 == 0) = turnsB U u e := by
  rw [setV_get _ _ _ (by omega)]
  have he : ((e.toNat : Nat) : Int) = e := by omega
  rw [frF, he] at hf
  rw [he]
  by_cases hm : e ∈ E
  · rw [if_pos hm]
    rw [decide_eq_true hm, Bool.true_and] at hf
    rw [hf]
    simp
    omega
  · rw [if_neg hm, turnsB, decide_eq_true (show 0 < u by omega)]
    have := hp e.toNat
    by_cases hz : U.getD e.toNat 0 = 0
    · rw [hz]; rfl
    · rw [decide_eq_true (show 0 < U.getD e.toNat 0 by omega)]
      simpa using hz
theorem fresh_open {U : List Int} {E : List Int} (hp : Pos U) {e : Int} (h0 : 0 ≤ e) (h1 : e < U.length) (hf : frF U 0 E e.toNat = false) : ((setV U 0 E).getD e.toNat 0 != 0) = turnsB U 0 e := by
  rw [setV_get _ _ _ (by omega)]
  have he : ((e.toNat : Nat) : Int) = e := by omega
  rw [frF, he] at hf
  rw [he]
  by_cases hm : e ∈ E
  · rw [if_pos hm]
    rw [decide_eq_true hm, Bool.true_and] at hf
    rw [hf]
    rfl
  · rw [if_neg hm, turnsB, decide_eq_false (show ¬ (0 : Int) < 0 by omega)]
    have := hp e.toNat
    by_cases hz : U.getD e.toNat 0 = 0
    · rw [hz]; rfl
    · rw [decide_eq_true (show 0 < U.getD e.toNat 0 by omega)]
      simpa using hz
theorem fresh_yes {U : List Int} {u : Int} {E : List Int} {e : Int} (h0 : 0 ≤ e) (hf : frF U u E e.toNat = true) : turnsB U u e = true := by
  rw [frF, show ((e.toNat : Nat) : Int) = e by omega] at hf
  simp only [Bool.and_eq_true] at hf
  exact hf.2
theorem inR_len {x : Int} {n : Nat} (hn : n ≤ 512) : inR x 0 (IntKind.i64.wrap ((n : Int) - 1)) = (decide (0 ≤ x) && decide (x < n)) := by
  rw [wrap_i64 (by omega) (by omega), inR, show decide (x ≤ (n : Int) - 1) = decide (x < n) from decide_eq_decide.2 (by omega)]
theorem close47 {h : H} {g : Nat} {p q : Option (Nat × Nat)} {U E : List Int} (s : St h g p U) {m : Nat} (nm : Nums (inSl p) h q m E) (hm : m ≤ 100000) (hU : U.length ≤ 512) (hp : Pos U) (u : Int) :
    ACalls Try.prog 47 [.ptr (some (g, 0)), i64 u, .sl q m] h (ClQ h g p U (okC U.length u E) u E) := by
  have hl := nm.len
  refine call_ Try.func47 rfl rfl (by kernel_rfl) ?_
  conv => whnf
  refine (within70 h u 1 1099511627776).mono ?_
  rintro _ h' ⟨eh, rfl⟩
  subst eh
  conv => whnf
  refine br_mk (fun ha => ?_) (fun ha => ?_)
  · conv => whnf
    have ha : inR u 1 1099511627776 = false := by simpa using ha
    exact .inl ⟨by rw [okC, ha]; rfl, rfl, s, ⟨Nat.le_refl _, fun _ _ _ => rfl⟩⟩
  conv => whnf
  have ha : inR u 1 1099511627776 = true := by simpa using ha
  have hu : 1 ≤ u ∧ u ≤ 1099511627776 := by simpa [inR] using ha
  refine ⟨fun env hh => ∃ (j : Nat) (z : Int), j ≤ m ∧ z = j ∧ hh = h' ∧ (∀ k, k < j → 0 ≤ E.getD k 0 ∧ E.getD k 0 < U.length) ∧ env = [(8, i64 z), (0, .ptr (some (g, 0))), (1, i64 u), (2, .sl q m)],
    fun env _ => match get env 8 with
      | .int _ z => (m - z).toNat
      | _ => 0, ⟨_, Forget.cons rfl (Forget.cons rfl (Forget.cons rfl (Forget.cons rfl (Forget.nil _)))), 0, _, Nat.zero_le _, rfl, rfl, fun k hk => absurd hk (Nat.not_lt_zero k), rfl⟩, ?_⟩
  rintro _ hB ⟨j, z, hj, rfl, ehh, hall, rfl⟩
  subst ehh
  conv => whnf
  refine br_mk (fun hd => ?_) (fun hd => ?_)
  · conv => whnf
    have hd : j < m := by simpa using hd
    refine ⟨[0, 1, 2, 3, 4, 5, 6, 7, 8, 9, 10, 11], [0, 0, 3, 7, 0, 16, 48, 112, 240, 496, 1023, 2047], by kernel_rfl, ?_⟩
    conv => whnf
    obtain ⟨i1, c1, f1, f2⟩ := nm.cell hd
    refine ⟨i1, c1, j, f1, rfl, hd, ?_⟩
    conv => whnf
    refine ⟨_, f2, ?_⟩
    conv => whnf
    refine ⟨_, Cell.mk s.box rfl, ?_⟩
    conv => whnf
    refine (within70 _ (E.getD j 0) 0 (IntKind.i64.wrap ((U.length : Int) - 1))).mono ?_
    rintro _ h2 ⟨eh, rfl⟩
    subst eh
    rw [inR_len hU]
    conv => whnf
    refine br_mk (fun he => ?_) (fun he => ?_)
    · conv => whnf
      have hc : inE U.length E = false := by
        cases hh : inE U.length E with
        | false => rfl
        | true =>
          have := inE_iff.1 hh (E.getD j 0) (getD_mem (by omega))
          rw [decide_eq_true this.1, decide_eq_true this.2] at he
          cases he
      exact .inl ⟨by rw [okC, hc, Bool.and_false], rfl, s, ⟨Nat.le_refl _, fun _ _ _ => rfl⟩⟩
    conv => whnf
    have he : 0 ≤ E.getD j 0 ∧ E.getD j 0 < U.length := by
      have he := congrArg (! ·) he
      simp only [Bool.not_not, Bool.not_false, Bool.and_eq_true, decide_eq_true_eq] at he
      exact he
    refine ⟨_, Forget.cons rfl (Forget.cons rfl (Forget.cons rfl (Forget.cons rfl (Forget.nil _)))), ⟨j + 1, _, hd, succ_i64 hd (by omega), rfl, fun k hk => ?_, rfl⟩, mu_lt hd (by omega)⟩
    by_cases e : k = j
    · subst e; exact he
    · exact hall k (by omega)
  conv => whnf
  have hd : ¬ j < m := by simpa using hd
  have hall2 : ∀ k, k < m → 0 ≤ E.getD k 0 ∧ E.getD k 0 < U.length := fun k hk => hall k (by omega)
  have hE : inE U.length E = true := inE_iff.2 (fun e he => by
    obtain ⟨k, hk, rfl⟩ := List.getElem_of_mem he
    have := hall k (by omega)
    rw [List.getD_eq_getElem?_getD, List.getElem?_eq_getElem hk] at this
    exact this)
  clear hall hd hj
  refine ⟨_, Cell.mk s.box rfl, ?_⟩
  conv => whnf
  refine ⟨U.length, rfl, rfl, by omega, by rw [show (T.at_ 4).bytes = 1 from rfl]; omega, ?_⟩
  conv => whnf
  have m0 : Ab.Mod (inSl p) hB (hB.push (.row true 1 (zerosV U.length [V.bool false]))) := (Mod.push none_ hB _).mono (fun _ _ k => k.elim)
  have n0 := new_bools hB U.length
  have s0 := s.old (Mod.push none_ hB (.row true 1 (zerosV U.length [V.bool false]))) (fun _ _ k => k)
  refine ⟨fun env hh => ∃ (j : Nat) (z : Int), j ≤ m ∧ z = j ∧ NewSl hB hh (some (H.next hB, 0)) U.length 1 (bools (bt U.length (frF U u (E.take j)))) ∧ St hh g p (setV U u (E.take j)) ∧ Ab.Mod (inSl p) hB hh ∧ env = [(10, i64 z), (9, .sl (some (H.next hB, 0)) U.length), (0, .ptr (some (g, 0))), (1, i64 u), (2, .sl q m)],
    fun env _ => match get env 10 with
      | .int _ z => (m - z).toNat
      | _ => 0, ⟨_, Forget.cons rfl (Forget.cons rfl (Forget.cons rfl (Forget.cons rfl (Forget.cons rfl (Forget.nil _))))), 0, _, Nat.zero_le _, rfl, by
        rw [bt_cong (G := fun _ => false) (fun k hk => by simp [frF])]
        exact n0, by rw [List.take_zero, setV_nil]; exact s0, m0, rfl⟩, ?_⟩
  clear n0 m0 s0
  rintro _ hh ⟨j, z, hj, rfl, no, st, mo, rfl⟩
  conv => whnf
  refine br_mk (fun hd => ?_) (fun hd => ?_)
  · conv => whnf
    have hd : j < m := by simpa using hd
    obtain ⟨g0, g1⟩ := hall2 j hd
    have hen : (E.getD j 0).toNat < U.length := by omega
    have hsl : (E.getD j 0).toNat < (setV U u (E.take j)).length := by rw [setV_length]; exact hen
    obtain ⟨i1, c1, f1, f2⟩ := (nm.get mo).cell hd
    obtain ⟨i2, c2, k1, k2⟩ := slb_get no.1 (bt_len _ _) hen
    rw [bt_get _ hen] at k2
    refine ⟨[0, 1, 2, 3, 4, 5, 6, 7, 8, 9, 10, 11, 12, 13, 14, 15, 16, 17, 18, 19, 20, 21, 22, 23, 24, 25, 26], [0, 0, 0, 6, 14, 0, 0, 0, 192, 448, 992, 2016, 4064, 8160, 16352, 32736, 65504, 8160, 8160, 401376, 925664, 2097120, 4194272, 8388576, 16777184, 33554431, 67108863], by kernel_rfl, ?_⟩
    conv => whnf
    refine ⟨i1, c1, j, f1, rfl, hd, ?_⟩
    conv => whnf
    refine ⟨_, f2, ?_⟩
    conv => whnf
    refine ⟨i1, c1, j, f1, rfl, hd, ?_⟩
    conv => whnf
    refine ⟨_, f2, ?_⟩
    conv => whnf
    refine ⟨i2, c2, (E.getD j 0).toNat, k1, by omega, hen, ?_⟩
    conv => whnf
    refine ⟨_, k2, ?_⟩
    conv => whnf
    refine br_mk (fun hb => ?_) (fun hb => ?_)
    · conv => whnf
      obtain ⟨i3, c3, sz3, cs3, b1, b2, b3, b4, b5, b6⟩ := NewSl.put no mo hen (.bool (true))
      refine ⟨i3, c3, (E.getD j 0).toNat, b1, by omega, hen, ?_⟩
      conv => whnf
      refine ⟨_, _, b2, b3, ?_⟩
      conv => whnf
      have eb : (bools (bt U.length (frF U u (E.take j)))).set (E.getD j 0).toNat (.bool (true)) = bools (bt U.length (frF U u (E.take (j + 1)))) := by
        rw [bools_set, show true = turnsB U u (E.getD j 0) from (fresh_yes g0 hb).symm, frF_snoc g0 hen, ← take_snoc_ (by omega)]
      rw [eb] at b4
      have st2 := St.apart (h0 := hB) st b6 (fun i hi => s.lt i hi) no.2
      refine ⟨[0, 1, 2, 3, 4, 5, 6, 7, 8, 9, 10], [0, 1, 3, 7, 0, 0, 48, 112, 0, 511, 1023], by kernel_rfl, ?_⟩
      conv => whnf
      refine ⟨_, Cell.mk st2.box rfl, ?_⟩
      conv => whnf
      obtain ⟨i4, c4, d1, d2⟩ := (nm.get b5).cell hd
      refine ⟨i4, c4, j, d1, rfl, hd, ?_⟩
      conv => whnf
      refine ⟨_, d2, ?_⟩
      conv => whnf
      obtain ⟨i5, c5, sz5, cs5, a1, a2, a3, a4, a5⟩ := st2.put hsl u
      refine ⟨i5, c5, (E.getD j 0).toNat, a1, by omega, hsl, ?_⟩
      conv => whnf
      refine ⟨_, _, a2, a3, ?_⟩
      conv => whnf
      rw [setV_snoc U u _ g0 g1, ← take_snoc_ (by omega)] at a4
      exact ⟨_, Forget.cons rfl (Forget.cons rfl (Forget.cons rfl (Forget.cons rfl (Forget.cons rfl (Forget.nil _))))), ⟨j + 1, _, hd, succ_i64 hd (by omega), NewSl.keep b4 a5 (fun i hi => s.lt i (.inr hi)), a4, b5.trans' a5 (fun _ _ k => k) (fun _ _ k => k), rfl⟩, mu_lt hd (by omega)⟩
    · conv => whnf
      refine ⟨_, Cell.mk st.box rfl, ?_⟩
      conv => whnf
      refine ⟨i1, c1, j, f1, rfl, hd, ?_⟩
      conv => whnf
      refine ⟨_, f2, ?_⟩
      conv => whnf
      obtain ⟨i6, c6, l1, l2⟩ := st.cell hsl
      refine ⟨i6, c6, (E.getD j 0).toNat, l1, by omega, hsl, ?_⟩
      conv => whnf
      refine ⟨_, l2, ?_⟩
      conv => whnf
      obtain ⟨i3, c3, sz3, cs3, b1, b2, b3, b4, b5, b6⟩ := NewSl.put no mo hen (.bool ((setV U u (E.take j)).getD (E.getD j 0).toNat 0 == 0))
      refine ⟨i3, c3, (E.getD j 0).toNat, b1, by omega, hen, ?_⟩
      conv => whnf
      refine ⟨_, _, b2, b3, ?_⟩
      conv => whnf
      have eb : (bools (bt U.length (frF U u (E.take j)))).set (E.getD j 0).toNat (.bool ((setV U u (E.take j)).getD (E.getD j 0).toNat 0 == 0)) = bools (bt U.length (frF U u (E.take (j + 1)))) := by
        rw [bools_set, fresh_close hp hu.1 g0 g1 hb, frF_snoc g0 hen, ← take_snoc_ (by omega)]
      rw [eb] at b4
      have st2 := St.apart (h0 := hB) st b6 (fun i hi => s.lt i hi) no.2
      refine ⟨[0, 1, 2, 3, 4, 5, 6, 7, 8, 9, 10], [0, 1, 3, 7, 0, 0, 48, 112, 0, 511, 1023], by kernel_rfl, ?_⟩
      conv => whnf
      refine ⟨_, Cell.mk st2.box rfl, ?_⟩
      conv => whnf
      obtain ⟨i4, c4, d1, d2⟩ := (nm.get b5).cell hd
      refine ⟨i4, c4, j, d1, rfl, hd, ?_⟩
      conv => whnf
      refine ⟨_, d2, ?_⟩
      conv => whnf
      obtain ⟨i5, c5, sz5, cs5, a1, a2, a3, a4, a5⟩ := st2.put hsl u
      refine ⟨i5, c5, (E.getD j 0).toNat, a1, by omega, hsl, ?_⟩
      conv => whnf
      refine ⟨_, _, a2, a3, ?_⟩
      conv => whnf
      rw [setV_snoc U u _ g0 g1, ← take_snoc_ (by omega)] at a4
      exact ⟨_, Forget.cons rfl (Forget.cons rfl (Forget.cons rfl (Forget.cons rfl (Forget.cons rfl (Forget.nil _))))), ⟨j + 1, _, hd, succ_i64 hd (by omega), NewSl.keep b4 a5 (fun i hi => s.lt i (.inr hi)), a4, b5.trans' a5 (fun _ _ k => k) (fun _ _ k => k), rfl⟩, mu_lt hd (by omega)⟩
  · conv => whnf
    have hd : ¬ j < m := by simpa using hd
    obtain rfl : j = m := by omega
    rw [hl, List.take_length] at no st
    refine (listed73 no.1.weak (bt_len _ _) (by omega)).mono ?_
    rintro _ h6 ⟨q6, rfl, n6, m6⟩
    conv => whnf
    have e6 : (pl U.length fun k => (bt U.length (frF U u E)).getD k false) = outV U u E := pl_cong (fun k hk => by rw [bt_get _ hk]; rfl)
    rw [e6] at n6 ⊢
    exact .inr ⟨by rw [okC, ha, hE]; rfl, q6, rfl, ⟨n6.1, fun i o e => Nat.le_trans mo.next (n6.2 i o e)⟩, st.old m6 (fun _ _ k => k), mo.trans' m6 (fun _ _ k => k) (fun _ _ k => k.elim)⟩
theorem open49 {h : H} {g : Nat} {p q : Option (Nat × Nat)} {U E : List Int} (s : St h g p U) {m : Nat} (nm : Nums (inSl p) h q m E) (hm : m ≤ 100000) (hU : U.length ≤ 512) (hp : Pos U) :
    ACalls Try.prog 49 [.ptr (some (g, 0)), .sl q m] h (ClQ h g p U (inE U.length E) 0 E) := by
  have hl := nm.len
  refine call_ Try.func49 rfl rfl (by kernel_rfl) ?_
  conv => whnf
  refine ⟨fun env hh => ∃ (j : Nat) (z : Int), j ≤ m ∧ z = j ∧ hh = h ∧ (∀ k, k < j → 0 ≤ E.getD k 0 ∧ E.getD k 0 < U.length) ∧ env = [(6, i64 z), (0, .ptr (some (g, 0))), (1, .sl q m)],
    fun env _ => match get env 6 with
      | .int _ z => (m - z).toNat
      | _ => 0, ⟨_, Forget.cons rfl (Forget.cons rfl (Forget.cons rfl (Forget.nil _))), 0, _, Nat.zero_le _, rfl, rfl, fun k hk => absurd hk (Nat.not_lt_zero k), rfl⟩, ?_⟩
  rintro _ hB ⟨j, z, hj, rfl, ehh, hall, rfl⟩
  subst ehh
  conv => whnf
  refine br_mk (fun hd => ?_) (fun hd => ?_)
  · conv => whnf
    have hd : j < m := by simpa using hd
    refine ⟨[0, 1, 2, 3, 4, 5, 6, 7, 8, 9, 10, 11], [0, 0, 3, 7, 0, 16, 48, 112, 240, 496, 1023, 2047], by kernel_rfl, ?_⟩
    conv => whnf
    obtain ⟨i1, c1, f1, f2⟩ := nm.cell hd
    refine ⟨i1, c1, j, f1, rfl, hd, ?_⟩
    conv => whnf
    refine ⟨_, f2, ?_⟩
    conv => whnf
    refine ⟨_, Cell.mk s.box rfl, ?_⟩
    conv => whnf
    refine (within70 _ (E.getD j 0) 0 (IntKind.i64.wrap ((U.length : Int) - 1))).mono ?_
    rintro _ h2 ⟨eh, rfl⟩
    subst eh
    rw [inR_len hU]
    conv => whnf
    refine br_mk (fun he => ?_) (fun he => ?_)
    · conv => whnf
      have hc : inE U.length E = false := by
        cases hh : inE U.length E with
        | false => rfl
        | true =>
          have := inE_iff.1 hh (E.getD j 0) (getD_mem (by omega))
          rw [decide_eq_true this.1, decide_eq_true this.2] at he
          cases he
      exact .inl ⟨hc, rfl, s, ⟨Nat.le_refl _, fun _ _ _ => rfl⟩⟩
    conv => whnf
    have he : 0 ≤ E.getD j 0 ∧ E.getD j 0 < U.length := by
      have he := congrArg (! ·) he
      simp only [Bool.not_not, Bool.not_false, Bool.and_eq_true, decide_eq_true_eq] at he
      exact he
    refine ⟨_, Forget.cons rfl (Forget.cons rfl (Forget.cons rfl (Forget.nil _))), ⟨j + 1, _, hd, succ_i64 hd (by omega), rfl, fun k hk => ?_, rfl⟩, mu_lt hd (by omega)⟩
    by_cases e : k = j
    · subst e; exact he
    · exact hall k (by omega)
  conv => whnf
  have hd : ¬ j < m := by simpa using hd
  have hall2 : ∀ k, k < m → 0 ≤ E.getD k 0 ∧ E.getD k 0 < U.length := fun k hk => hall k (by omega)
  have hE : inE U.length E = true := inE_iff.2 (fun e he => by
    obtain ⟨k, hk, rfl⟩ := List.getElem_of_mem he
    have := hall k (by omega)
    rw [List.getD_eq_getElem?_getD, List.getElem?_eq_getElem hk] at this
    exact this)
  clear hall hd hj
  refine ⟨_, Cell.mk s.box rfl, ?_⟩
  conv => whnf
  refine ⟨U.length, rfl, rfl, by omega, by rw [show (T.at_ 4).bytes = 1 from rfl]; omega, ?_⟩
  conv => whnf
  have m0 : Ab.Mod (inSl p) hB (hB.push (.row true 1 (zerosV U.length [V.bool false]))) := (Mod.push none_ hB _).mono (fun _ _ k => k.elim)
  have n0 := new_bools hB U.length
  have s0 := s.old (Mod.push none_ hB (.row true 1 (zerosV U.length [V.bool false]))) (fun _ _ k => k)
  refine ⟨fun env hh => ∃ (j : Nat) (z : Int), j ≤ m ∧ z = j ∧ NewSl hB hh (some (H.next hB, 0)) U.length 1 (bools (bt U.length (frF U 0 (E.take j)))) ∧ St hh g p (setV U 0 (E.take j)) ∧ Ab.Mod (inSl p) hB hh ∧ env = [(8, i64 z), (7, .sl (some (H.next hB, 0)) U.length), (0, .ptr (some (g, 0))), (1, .sl q m)],
    fun env _ => match get env 8 with
      | .int _ z => (m - z).toNat
      | _ => 0, ⟨_, Forget.cons rfl (Forget.cons rfl (Forget.cons rfl (Forget.cons rfl (Forget.nil _)))), 0, _, Nat.zero_le _, rfl, by
        rw [bt_cong (G := fun _ => false) (fun k hk => by simp [frF])]
        exact n0, by rw [List.take_zero, setV_nil]; exact s0, m0, rfl⟩, ?_⟩
  clear n0 m0 s0
  rintro _ hh ⟨j, z, hj, rfl, no, st, mo, rfl⟩
  conv => whnf
  refine br_mk (fun hd => ?_) (fun hd => ?_)
  · conv => whnf
    have hd : j < m := by simpa using hd
    obtain ⟨g0, g1⟩ := hall2 j hd
    have hen : (E.getD j 0).toNat < U.length := by omega
    have hsl : (E.getD j 0).toNat < (setV U 0 (E.take j)).length := by rw [setV_length]; exact hen
    obtain ⟨i1, c1, f1, f2⟩ := (nm.get mo).cell hd
    obtain ⟨i2, c2, k1, k2⟩ := slb_get no.1 (bt_len _ _) hen
    rw [bt_get _ hen] at k2
    refine ⟨[0, 1, 2, 3, 4, 5, 6, 7, 8, 9, 10, 11, 12, 13, 14, 15, 16, 17, 18, 19, 20, 21, 22, 23, 24, 25, 26], [0, 0, 0, 6, 14, 0, 0, 0, 192, 448, 992, 2016, 4064, 8160, 16352, 32736, 65504, 8160, 8160, 401376, 925664, 2097120, 4194272, 8388576, 16777184, 33554431, 67108863], by kernel_rfl, ?_⟩
    conv => whnf
    refine ⟨i1, c1, j, f1, rfl, hd, ?_⟩
    conv => whnf
    refine ⟨_, f2, ?_⟩
    conv => whnf
    refine ⟨i1, c1, j, f1, rfl, hd, ?_⟩
    conv => whnf
    refine ⟨_, f2, ?_⟩
    conv => whnf
    refine ⟨i2, c2, (E.getD j 0).toNat, k1, by omega, hen, ?_⟩
    conv => whnf
    refine ⟨_, k2, ?_⟩
    conv => whnf
    refine br_mk (fun hb => ?_) (fun hb => ?_)
    · conv => whnf
      obtain ⟨i3, c3, sz3, cs3, b1, b2, b3, b4, b5, b6⟩ := NewSl.put no mo hen (.bool (true))
      refine ⟨i3, c3, (E.getD j 0).toNat, b1, by omega, hen, ?_⟩
      conv => whnf
      refine ⟨_, _, b2, b3, ?_⟩
      conv => whnf
      have eb : (bools (bt U.length (frF U 0 (E.take j)))).set (E.getD j 0).toNat (.bool (true)) = bools (bt U.length (frF U 0 (E.take (j + 1)))) := by
        rw [bools_set, show true = turnsB U 0 (E.getD j 0) from (fresh_yes g0 hb).symm, frF_snoc g0 hen, ← take_snoc_ (by omega)]
      rw [eb] at b4
      have st2 := St.apart (h0 := hB) st b6 (fun i hi => s.lt i hi) no.2
      refine ⟨[0, 1, 2, 3, 4, 5, 6, 7, 8, 9], [0, 1, 3, 7, 0, 0, 48, 112, 255, 511], by kernel_rfl, ?_⟩
      conv => whnf
      refine ⟨_, Cell.mk st2.box rfl, ?_⟩
      conv => whnf
      obtain ⟨i4, c4, d1, d2⟩ := (nm.get b5).cell hd
      refine ⟨i4, c4, j, d1, rfl, hd, ?_⟩
      conv => whnf
      refine ⟨_, d2, ?_⟩
      conv => whnf
      obtain ⟨i5, c5, sz5, cs5, a1, a2, a3, a4, a5⟩ := st2.put hsl 0
      refine ⟨i5, c5, (E.getD j 0).toNat, a1, by omega, hsl, ?_⟩
      conv => whnf
      refine ⟨_, _, a2, a3, ?_⟩
      conv => whnf
      rw [setV_snoc U 0 _ g0 g1, ← take_snoc_ (by omega)] at a4
      exact ⟨_, Forget.cons rfl (Forget.cons rfl (Forget.cons rfl (Forget.cons rfl (Forget.nil _)))), ⟨j + 1, _, hd, succ_i64 hd (by omega), NewSl.keep b4 a5 (fun i hi => s.lt i (.inr hi)), a4, b5.trans' a5 (fun _ _ k => k) (fun _ _ k => k), rfl⟩, mu_lt hd (by omega)⟩
    · conv => whnf
      refine ⟨_, Cell.mk st.box rfl, ?_⟩
      conv => whnf
      refine ⟨i1, c1, j, f1, rfl, hd, ?_⟩
      conv => whnf
      refine ⟨_, f2, ?_⟩
      conv => whnf
      obtain ⟨i6, c6, l1, l2⟩ := st.cell hsl
      refine ⟨i6, c6, (E.getD j 0).toNat, l1, by omega, hsl, ?_⟩
      conv => whnf
      refine ⟨_, l2, ?_⟩
      conv => whnf
      obtain ⟨i3, c3, sz3, cs3, b1, b2, b3, b4, b5, b6⟩ := NewSl.put no mo hen (.bool ((setV U 0 (E.take j)).getD (E.getD j 0).toNat 0 != 0))
      refine ⟨i3, c3, (E.getD j 0).toNat, b1, by omega, hen, ?_⟩
      conv => whnf
      refine ⟨_, _, b2, b3, ?_⟩
      conv => whnf
      have eb : (bools (bt U.length (frF U 0 (E.take j)))).set (E.getD j 0).toNat (.bool ((setV U 0 (E.take j)).getD (E.getD j 0).toNat 0 != 0)) = bools (bt U.length (frF U 0 (E.take (j + 1)))) := by
        rw [bools_set, fresh_open hp g0 g1 hb, frF_snoc g0 hen, ← take_snoc_ (by omega)]
      rw [eb] at b4
      have st2 := St.apart (h0 := hB) st b6 (fun i hi => s.lt i hi) no.2
      refine ⟨[0, 1, 2, 3, 4, 5, 6, 7, 8, 9], [0, 1, 3, 7, 0, 0, 48, 112, 255, 511], by kernel_rfl, ?_⟩
      conv => whnf
      refine ⟨_, Cell.mk st2.box rfl, ?_⟩
      conv => whnf
      obtain ⟨i4, c4, d1, d2⟩ := (nm.get b5).cell hd
      refine ⟨i4, c4, j, d1, rfl, hd, ?_⟩
      conv => whnf
      refine ⟨_, d2, ?_⟩
      conv => whnf
      obtain ⟨i5, c5, sz5, cs5, a1, a2, a3, a4, a5⟩ := st2.put hsl 0
      refine ⟨i5, c5, (E.getD j 0).toNat, a1, by omega, hsl, ?_⟩
      conv => whnf
      refine ⟨_, _, a2, a3, ?_⟩
      conv => whnf
      rw [setV_snoc U 0 _ g0 g1, ← take_snoc_ (by omega)] at a4
      exact ⟨_, Forget.cons rfl (Forget.cons rfl (Forget.cons rfl (Forget.cons rfl (Forget.nil _)))), ⟨j + 1, _, hd, succ_i64 hd (by omega), NewSl.keep b4 a5 (fun i hi => s.lt i (.inr hi)), a4, b5.trans' a5 (fun _ _ k => k) (fun _ _ k => k), rfl⟩, mu_lt hd (by omega)⟩
  · conv => whnf
    have hd : ¬ j < m := by simpa using hd
    obtain rfl : j = m := by omega
    rw [hl, List.take_length] at no st
    refine (listed73 no.1.weak (bt_len _ _) (by omega)).mono ?_
    rintro _ h6 ⟨q6, rfl, n6, m6⟩
    conv => whnf
    have e6 : (pl U.length fun k => (bt U.length (frF U 0 E)).getD k false) = outV U 0 E := pl_cong (fun k hk => by rw [bt_get _ hk]; rfl)
    rw [e6] at n6 ⊢
    exact .inr ⟨hE, q6, rfl, ⟨n6.1, fun i o e => Nat.le_trans mo.next (n6.2 i o e)⟩, st.old m6 (fun _ _ k => k), mo.trans' m6 (fun _ _ k => k) (fun _ _ k => k.elim)⟩
end Go.Proofs.Ytpefdmidfllhoaa
