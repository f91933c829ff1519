/- G8: texts of another seat, turned to this one. -/
import Derived.Test.YtmififfaljihgaaGreatG7
set_option linter.unusedVariables false
set_option linter.unusedSimpArgs false
namespace Go.Proofs.YtmififfaljihgaaGreat
open Go Go.Ab Go.Shelf
theorem within68 (h : H) (x lo hi : Int) : ACalls Tryz.prog 37 [i64 x, i64 lo, i64 hi] h (fun r h' => h' = h ∧ r = .bool (inR x lo hi)) := by
  refine call_ Tryz.func37 rfl rfl (by kernel_rfl) ?_
  conv => whnf
  refine br_mk (fun ha => ?_) (fun ha => ?_)
  · conv => whnf
    have ha : lo ≤ x := by simpa using ha
    exact ⟨rfl, by rw [inR, decide_eq_true ha, Bool.true_and]⟩
  · conv => whnf
    have ha : ¬ lo ≤ x := by simpa using ha
    exact ⟨rfl, by rw [inR, decide_eq_false ha, Bool.false_and]⟩
theorem new36 (h : H) (B M R : Int) : ACalls Tryz.prog 63 [i64 B, i64 M, i64 R] h (fun r h' => NewRQ B M R h r h') := by
  refine call_ Tryz.func63 rfl rfl (by kernel_rfl) ?_
  conv => whnf
  refine (within68 h B 1 1000).mono ?_
  rintro _ h1 ⟨eh, rfl⟩
  subst eh
  conv => whnf
  refine br_mk (fun ha => ?_) (fun ha => ?_)
  · conv => whnf
    have ha : inR B 1 1000 = false := by simpa using ha
    exact .inl ⟨by rw [okT_inR, ha]; rfl, rfl, rfl⟩
  conv => whnf
  have ha : inR B 1 1000 = true := by simpa using ha
  refine (within68 _ M B 1000).mono ?_
  rintro _ h1 ⟨eh, rfl⟩
  subst eh
  conv => whnf
  refine br_mk (fun hb => ?_) (fun hb => ?_)
  · conv => whnf
    have hb : inR M B 1000 = false := by simpa using hb
    exact .inl ⟨by rw [okT_inR, hb, Bool.and_false, Bool.false_and], rfl, rfl⟩
  conv => whnf
  have hb : inR M B 1000 = true := by simpa using hb
  refine (within68 _ R 0 20).mono ?_
  rintro _ h1 ⟨eh, rfl⟩
  subst eh
  conv => whnf
  refine br_mk (fun hc => ?_) (fun hc => ?_)
  · conv => whnf
    have hc : inR R 0 20 = false := by simpa using hc
    exact .inl ⟨by rw [okT_inR, hc, Bool.and_false], rfl, rfl⟩
  conv => whnf
  have hc : inR R 0 20 = true := by simpa using hc
  exact .inr ⟨by rw [okT_inR, ha, hb, hc]; rfl, _, rfl, ⟨none, H.obj_push_new _ _, RoSl.nil _ _ _⟩, Nat.le_refl _, Mod.push none_ _ _⟩
theorem wait38 {h : H} {g : Nat} {B M R : Int} {x : V} (hb : h.obj g = some (.row true 4 [i64 B, i64 M, i64 R, x])) (h1 : 1 ≤ B) (h2 : B ≤ M) (h3 : M ≤ 1000) {n : Int} (hn : n ≤ 9223372036854775807) :
    ACalls Tryz.prog 115 [.ptr (some (g, 0)), i64 n] h (fun r h' => h' = h ∧ r = i64 (waitV B M n)) := by
  refine call_ Tryz.func115 rfl rfl (by kernel_rfl) ?_
  conv => whnf
  refine ⟨_, Cell.mk hb rfl, ?_⟩
  conv => whnf
  refine ⟨fun env hh => ∃ (w z : Int), hh = h ∧ 1 ≤ w ∧ w ≤ 2000 ∧ waitW M w (n - z).toNat = waitW M B n.toNat ∧ 0 ≤ z ∧ (z = 0 ∨ z ≤ n) ∧ env = [(6, i64 z), (5, i64 w), (0, .ptr (some (g, 0))), (1, i64 n)],
    fun env _ => match get env 6 with
      | .int _ z => (n - z).toNat
      | _ => 0, ⟨_, Forget.cons rfl (Forget.cons rfl (Forget.cons rfl (Forget.cons rfl (Forget.nil _)))), B, 0, rfl, h1, by omega, by rw [Int.sub_zero], Int.le_refl _, .inl rfl, rfl⟩, ?_⟩
  rintro _ hh ⟨w, z, eh, w1, w2, w3, z1, z2, rfl⟩
  subst eh
  conv => whnf
  have fin : waitW M w (n - z).toNat = w → ∀ x, x = w → (if M < x then M else x) = waitV B M n := fun e x hx => by
    rw [waitV, ← w3, e, hx]
  refine br_mk (fun ha => ?_) (fun ha => ?_)
  · conv => whnf
    have ha : z < n := by simpa using ha
    refine ⟨_, Cell.mk hb rfl, ?_⟩
    conv => whnf
    refine br_mk (fun hc => ?_) (fun hc => ?_)
    · conv => whnf
      have hc : w < M := by simpa using hc
      have e1 : IntKind.i64.wrap (2 * w) = 2 * w := wrap_i64 (by omega) (by omega)
      have e2 : (n - z).toNat = (n - (z + 1)).toNat + 1 := by omega
      have e3 : IntKind.i64.wrap (z + 1) = z + 1 := wrap_i64 (by omega) (by omega)
      rw [e1, e3]
      refine ⟨_, Forget.cons rfl (Forget.cons rfl (Forget.cons rfl (Forget.cons rfl (Forget.nil _)))), ⟨2 * w, z + 1, rfl, by omega, by omega, ?_, by omega, .inr (by omega), rfl⟩, ?_⟩
      · rw [← w3, e2, waitW, if_pos hc]
      · show (n - (z + 1)).toNat < (n - z).toNat
        omega
    · conv => whnf
      have hc : ¬ w < M := by simpa using hc
      refine ⟨_, Cell.mk hb rfl, ?_⟩
      conv => whnf
      exact ⟨rfl, congrArg i64 (fin (waitW_stop hc _) w rfl)⟩
  · conv => whnf
    have ha : ¬ z < n := by simpa using ha
    refine ⟨_, Cell.mk hb rfl, ?_⟩
    conv => whnf
    refine ⟨rfl, congrArg i64 (fin ?_ w rfl)⟩
    rw [show (n - z).toNat = 0 by omega]
    rfl
theorem stop41 {h : H} {g : Nat} {B M R : Int} {S : List Wt} (s : RSt h g B M R S) (hS : S.length ≤ 100000) (id : Int) :
    ACalls Tryz.prog 110 [.ptr (some (g, 0)), i64 id] h (fun r h' => RSt h' g B M R (delS S id) ∧ Ab.Mod (one g) h h') := by
  have hg := s.lt
  refine ACalls.ro (Q := fun r h' => ∃ po, h'.obj g = some (.row true 4 [i64 B, i64 M, i64 R, .sl po (delS S id).length]) ∧ NewSl h h' po (delS S id).length 3 ((delS S id).flatMap wC) ∧ Ab.Mod (one g) h h') ?_ (by
    rintro r h' ⟨po, a, b, c⟩
    obtain ⟨i, _, h1, h2⟩ := rst_ro hg a b c
    exact ⟨i, h1, h2⟩)
  obtain ⟨p, hb, hr⟩ := s.box
  refine call_ Tryz.func110 rfl rfl (by kernel_rfl) ?_
  conv => whnf
  refine ⟨fun env hh => ∃ (j : Nat) (z : Int) (po : Option (Nat × Nat)), j ≤ S.length ∧ z = j ∧ NewSl h hh po (delS (S.take j) id).length 3 ((delS (S.take j) id).flatMap wC) ∧ Ab.Mod none_ h hh ∧ env = [(5, i64 z), (4, .sl po (delS (S.take j) id).length), (0, .ptr (some (g, 0))), (1, i64 id)],
    fun env _ => match get env 5 with
      | .int _ z => (S.length - z).toNat
      | _ => 0, ⟨_, Forget.cons rfl (Forget.cons rfl (Forget.cons rfl (Forget.cons rfl (Forget.nil _)))), 0, _, none, Nat.zero_le _, rfl, NewSl.nil _ _ _, ⟨Nat.le_refl _, fun _ _ _ => rfl⟩, rfl⟩, ?_⟩
  rintro _ hh ⟨j, z, po, hj, rfl, no, mo, rfl⟩
  conv => whnf
  have bx := mo.get hb (.inl (fun k => k))
  refine ⟨_, Cell.mk bx rfl, ?_⟩
  conv => whnf
  refine br_mk (fun hd => ?_) (fun hd => ?_)
  · conv => whnf
    have hd : j < S.length := by simpa using hd
    have htk : S.take (j + 1) = S.take j ++ [S[j]] := List.take_succ_eq_append_getElem hd
    have hjl : (delS (S.take j) id).length ≤ S.length := by
      have := delS_le (S.take j) id
      rw [List.length_take] at this
      omega
    obtain ⟨i1, c1, f1, f2, f3⟩ := sls_get wC_len (hr.get mo).is rfl hd
    have k0 := f3 0 (i64 S[j].1) rfl
    refine ⟨_, Cell.mk bx rfl, ?_⟩
    conv => whnf
    refine ⟨i1, c1, j, f1, rfl, hd, ?_⟩
    conv => whnf
    refine ⟨_, k0, ?_⟩
    conv => whnf
    refine br_mk (fun hx => ?_) (fun hx => ?_)
    · have e0 : delS (S.take (j + 1)) id = delS (S.take j) id ++ [S[j]] := by rw [htk, delS_snoc, if_pos hx]
      conv => whnf
      refine ⟨_, Cell.mk bx rfl, ?_⟩
      conv => whnf
      refine ⟨i1, c1, j, f1, rfl, hd, ?_⟩
      conv => whnf
      refine ⟨_, f2, ?_⟩
      conv => whnf
      obtain ⟨y1, y2, y3⟩ := app1 no mo (wC S[j]) rfl
      refine ⟨_, _, y1, y2, by rw [show (T.at_ 199).bytes = 24 from rfl]; omega, by omega, fun po2 hY hs hm hf => ?_⟩
      obtain ⟨no2, mo2, my⟩ := y3 po2 hY hs hm hf
      have e6 : (delS (S.take j) id).flatMap wC ++ wC S[j] = (delS (S.take (j + 1)) id).flatMap wC := by rw [e0, List.flatMap_append]; simp
      have e7 : (delS (S.take j) id).length + 1 = (delS (S.take (j + 1)) id).length := by rw [e0]; simp
      rw [e6, e7] at no2
      conv => whnf
      rw [e7]
      exact ⟨_, Forget.cons rfl (Forget.cons rfl (Forget.cons rfl (Forget.cons rfl (Forget.nil _)))), ⟨j + 1, _, po2, hd, succ_i64 hd (by omega), no2, mo2, rfl⟩, mu_lt hd (by omega)⟩
    · have e0 : delS (S.take (j + 1)) id = delS (S.take j) id := by rw [htk, delS_snoc, if_neg (by rw [hx]; simp), List.append_nil]
      conv => whnf
      rw [← e0] at no ⊢
      exact ⟨_, Forget.cons rfl (Forget.cons rfl (Forget.cons rfl (Forget.cons rfl (Forget.nil _)))), ⟨j + 1, _, po, hd, succ_i64 hd (by omega), no, mo, rfl⟩, mu_lt hd (by omega)⟩
  · conv => whnf
    have hd : ¬ j < S.length := by simpa using hd
    obtain rfl : j = S.length := by omega
    rw [List.take_length] at no ⊢
    refine ⟨_, _, bx, Nat.le_of_ble_eq_true rfl, ?_⟩
    conv => whnf
    have mS : Ab.Mod (one g) hh (hh.set g (.row true 4 [i64 B, i64 M, i64 R, .sl po (delS S id).length])) := Mod.set rfl bx rfl
    exact ⟨po, H.obj_set_same bx, NewSl.keep no mS (fun i hi => by
      have : i = g := hi
      omega), mo.trans' mS (fun _ _ k => k.elim) (fun _ _ k => k)⟩
set_option maxHeartbeats 1000000 in
theorem start39 {h : H} {g : Nat} {B M R : Int} {S : List Wt} (s : RSt h g B M R S) (ha : AscS S) (ok : okT B M R = true) (hS : S.length ≤ 100000) (id : Int) {now : Int} (hn0 : -1000000000 ≤ now) (hn1 : now ≤ 1000000000) :
    ACalls Tryz.prog 116 [.ptr (some (g, 0)), i64 id, i64 now] h (fun r h' => RSt h' g B M R (insS S id (now + waitV B M 0, 0)) ∧ Ab.Mod (one g) h h') := by
  have hg := s.lt
  obtain ⟨b1, b2, b3, b4, b5, b6⟩ := okT_iff.1 ok
  obtain ⟨w1, w2⟩ := waitV_rng b1 b3 0
  refine ACalls.ro (Q := fun r h' => ∃ po, h'.obj g = some (.row true 4 [i64 B, i64 M, i64 R, .sl po (insS S id (now + waitV B M 0, 0)).length]) ∧ NewSl h h' po (insS S id (now + waitV B M 0, 0)).length 3 ((insS S id (now + waitV B M 0, 0)).flatMap wC) ∧ Ab.Mod (one g) h h') ?_ (by
    rintro r h' ⟨po, a, b, c⟩
    obtain ⟨i, _, h1, h2⟩ := rst_ro hg a b c
    exact ⟨i, h1, h2⟩)
  refine call_ Tryz.func116 rfl rfl (by kernel_rfl) ?_
  conv => whnf
  refine (stop41 s hS id).mono ?_
  rintro _ h1 ⟨s1, m1⟩
  conv => whnf
  obtain ⟨p, hb, hr⟩ := s1.box
  have hDl := delS_le S id
  have key := fun n => @ins_at S ha id (now + waitV B M 0, 0) n
  generalize delS S id = D at hb hr hDl key
  refine ⟨fun env hh => ∃ (j : Nat) (z : Int), j ≤ D.length ∧ z = j ∧ hh = h1 ∧ (∀ k (hk : k < D.length), k < j → D[k].1 < id) ∧ env = [(6, i64 z), (0, .ptr (some (g, 0))), (1, i64 id), (2, i64 now)],
    fun env _ => match get env 6 with
      | .int _ z => (D.length - z).toNat
      | _ => 0, ⟨_, Forget.cons rfl (Forget.cons rfl (Forget.cons rfl (Forget.cons rfl (Forget.nil _)))), 0, _, Nat.zero_le _, rfl, rfl, fun k _ hk => absurd hk (Nat.not_lt_zero k), rfl⟩, ?_⟩
  rintro _ hh ⟨j, z, hj, rfl, eh, hall, rfl⟩
  subst eh
  conv => whnf
  refine ⟨_, Cell.mk hb rfl, ?_⟩
  conv => whnf
  have fin : (j = D.length ∨ ∃ hk : j < D.length, ¬ D[j].1 < id) → D.take j ++ (id, now + waitV B M 0, 0) :: D.drop j = insS S id (now + waitV B M 0, 0) := fun h2 => key j hj hall h2
  refine br_mk (fun hd => ?_) (fun hd => ?_)
  · conv => whnf
    have hd : j < D.length := by simpa using hd
    obtain ⟨i1, c1, f1, f2, f3⟩ := sls_get wC_len hr.is rfl hd
    have k0 := f3 0 (i64 D[j].1) rfl
    refine ⟨_, Cell.mk hb rfl, ?_⟩
    conv => whnf
    refine ⟨i1, c1, j, f1, rfl, hd, ?_⟩
    conv => whnf
    refine ⟨_, k0, ?_⟩
    conv => whnf
    refine br_mk (fun hx => ?_) (fun hx => ?_)
    · conv => whnf
      have hx : D[j].1 < id := by simpa using hx
      refine ⟨_, Forget.cons rfl (Forget.cons rfl (Forget.cons rfl (Forget.cons rfl (Forget.nil _)))), ⟨j + 1, _, hd, succ_i64 hd (by omega), rfl, fun k hk hkj => ?_, rfl⟩, mu_lt hd (by omega)⟩
      by_cases e : k = j
      · subst e; exact hx
      · exact hall k hk (by omega)
    · have hx : ¬ D[j].1 < id := by simpa using hx
      have efin := fin (.inr ⟨hd, hx⟩)
      conv => whnf
      refine ⟨[0, 2, 3, 4, 5, 6, 7, 9, 10, 11, 17, 18, 19, 20, 21, 22, 1, 8, 12, 13, 14, 15, 16, 23, 24, 25, 26], [0, 0, 0, 4, 12, 28, 0, 124, 254, 0, 0, 0, 2558, 7678, 16382, 32766, 65534, 0, 131072, 393216, 917504, 0, 4063232, 8388606, 16777215, 33554431, 67108863], by kernel_rfl, ?_⟩
      conv => whnf
      refine ⟨_, Cell.mk hb rfl, ?_⟩
      conv => whnf
      have rt := ro_take wC_len hr hj
      have rd := ro_drop wC_len hr hj
      refine ⟨⟨_, hr.is⟩, j, rfl, Nat.zero_le _, hj, ?_⟩
      conv => whnf
      refine ⟨_, Cell.mk hb rfl, ?_⟩
      conv => whnf
      refine ⟨⟨_, hr.is⟩, j, rfl, hj, Nat.le_refl _, ?_⟩
      conv => whnf
      obtain ⟨y1, y2, y3⟩ := app0 (h0 := hh) rt.is
      refine ⟨_, _, y1, y2, by rw [show (T.at_ 199).bytes = 24 from rfl]; omega, by omega, fun pA hA hs hm hf => ?_⟩
      obtain ⟨nA, mA⟩ := y3 pA hA hs hm hf
      have bA := mA.get hb (.inl (fun k => k))
      have hrA := hr.get mA
      conv => whnf
      refine ⟨⟨⟨_, hrA.is⟩, j, rfl, hj, Nat.le_refl _, rfl⟩, ?_⟩
      conv => whnf
      refine ⟨⟨_, Cell.mk bA rfl, rfl⟩, ?_⟩
      conv => whnf
      refine (wait38 bA b1 b3 b4 (n := 0) (by decide)).mono ?_
      rintro _ h6 ⟨eh, rfl⟩
      subst eh
      conv => whnf
      refine ⟨⟨⟨_, hrA.is⟩, j, rfl, hj, Nat.le_refl _, rfl⟩, ?_⟩
      conv => whnf
      refine ⟨⟨_, Cell.mk bA rfl, rfl⟩, ?_⟩
      conv => whnf
      rw [wrap_i64 (x := now + waitV B M 0) (by omega) (by omega)]
      rw [show 0 + (j - 0) = j - 0 from Nat.zero_add _]
      obtain ⟨z1, z2, z3⟩ := app1 nA mA (wC (id, now + waitV B M 0, 0)) rfl
      refine ⟨_, _, z1, z2, by rw [show (T.at_ 199).bytes = 24 from rfl]; omega, by omega, fun pB hB hs2 hm2 hf2 => ?_⟩
      obtain ⟨nB, mB, _⟩ := z3 pB hB hs2 hm2 hf2
      have bB := mB.get hb (.inl (fun k => k))
      have hrB := hr.get mB
      conv => whnf
      refine ⟨⟨⟨_, hrB.is⟩, j, rfl, hj, Nat.le_refl _, rfl⟩, ?_⟩
      conv => whnf
      refine ⟨⟨_, Cell.mk bB rfl, rfl⟩, ?_⟩
      conv => whnf
      refine ⟨_, _, nB.1, (rd.get mB).is, by rw [show (T.at_ 199).bytes = 24 from rfl]; omega, by omega, fun pC hC hs3 hm3 hf3 => ?_⟩
      obtain ⟨nC, mC⟩ := appN nB mB pC hC hs3 hm3 hf3
      have bC := mC.get hb (.inl (fun k => k))
      conv => whnf
      refine ⟨_, _, bC, Nat.le_of_ble_eq_true rfl, ?_⟩
      conv => whnf
      have el : j - 0 + 1 + (D.length - j) = (insS S id (now + waitV B M 0, 0)).length := by
        rw [← efin, List.length_append, List.length_cons, List.length_take, List.length_drop]
        omega
      have ef : (D.take j).flatMap wC ++ wC (id, now + waitV B M 0, 0) ++ (D.drop j).flatMap wC = (insS S id (now + waitV B M 0, 0)).flatMap wC := by
        rw [← efin, List.flatMap_append, List.flatMap_cons, List.append_assoc]
      rw [el, ef] at nC
      rw [el]
      have mS : Ab.Mod (one g) hC (hC.set g (.row true 4 [i64 B, i64 M, i64 R, .sl pC (insS S id (now + waitV B M 0, 0)).length])) := Mod.set rfl bC rfl
      have nF := NewSl.keep nC mS (fun i hi => by
        have : i = g := hi
        have := m1.next
        omega)
      exact ⟨pC, H.obj_set_same bC, ⟨nF.1, fun i o e => Nat.le_trans m1.next (nF.2 i o e)⟩, m1.trans' (mC.trans' mS (S2 := one g) (fun _ _ k => k.elim) (fun _ _ k => k)) (fun _ _ k => k) (fun _ _ k => k)⟩
  · have hd : ¬ j < D.length := by simpa using hd
    have efin := fin (.inl (by omega))
    conv => whnf
    refine ⟨[0, 2, 3, 4, 5, 6, 7, 9, 10, 11, 17, 18, 19, 20, 21, 22, 1, 8, 12, 13, 14, 15, 16, 23, 24, 25, 26], [0, 0, 0, 4, 12, 28, 0, 124, 254, 0, 0, 0, 2558, 7678, 16382, 32766, 65534, 0, 131072, 393216, 917504, 0, 4063232, 8388606, 16777215, 33554431, 67108863], by kernel_rfl, ?_⟩
    conv => whnf
    refine ⟨_, Cell.mk hb rfl, ?_⟩
    conv => whnf
    have rt := ro_take wC_len hr hj
    have rd := ro_drop wC_len hr hj
    refine ⟨⟨_, hr.is⟩, j, rfl, Nat.zero_le _, hj, ?_⟩
    conv => whnf
    refine ⟨_, Cell.mk hb rfl, ?_⟩
    conv => whnf
    refine ⟨⟨_, hr.is⟩, j, rfl, hj, Nat.le_refl _, ?_⟩
    conv => whnf
    obtain ⟨y1, y2, y3⟩ := app0 (h0 := hh) rt.is
    refine ⟨_, _, y1, y2, by rw [show (T.at_ 199).bytes = 24 from rfl]; omega, by omega, fun pA hA hs hm hf => ?_⟩
    obtain ⟨nA, mA⟩ := y3 pA hA hs hm hf
    have bA := mA.get hb (.inl (fun k => k))
    have hrA := hr.get mA
    conv => whnf
    refine ⟨⟨⟨_, hrA.is⟩, j, rfl, hj, Nat.le_refl _, rfl⟩, ?_⟩
    conv => whnf
    refine ⟨⟨_, Cell.mk bA rfl, rfl⟩, ?_⟩
    conv => whnf
    refine (wait38 bA b1 b3 b4 (n := 0) (by decide)).mono ?_
    rintro _ h6 ⟨eh, rfl⟩
    subst eh
    conv => whnf
    refine ⟨⟨⟨_, hrA.is⟩, j, rfl, hj, Nat.le_refl _, rfl⟩, ?_⟩
    conv => whnf
    refine ⟨⟨_, Cell.mk bA rfl, rfl⟩, ?_⟩
    conv => whnf
    rw [wrap_i64 (x := now + waitV B M 0) (by omega) (by omega)]
    rw [show 0 + (j - 0) = j - 0 from Nat.zero_add _]
    obtain ⟨z1, z2, z3⟩ := app1 nA mA (wC (id, now + waitV B M 0, 0)) rfl
    refine ⟨_, _, z1, z2, by rw [show (T.at_ 199).bytes = 24 from rfl]; omega, by omega, fun pB hB hs2 hm2 hf2 => ?_⟩
    obtain ⟨nB, mB, _⟩ := z3 pB hB hs2 hm2 hf2
    have bB := mB.get hb (.inl (fun k => k))
    have hrB := hr.get mB
    conv => whnf
    refine ⟨⟨⟨_, hrB.is⟩, j, rfl, hj, Nat.le_refl _, rfl⟩, ?_⟩
    conv => whnf
    refine ⟨⟨_, Cell.mk bB rfl, rfl⟩, ?_⟩
    conv => whnf
    refine ⟨_, _, nB.1, (rd.get mB).is, by rw [show (T.at_ 199).bytes = 24 from rfl]; omega, by omega, fun pC hC hs3 hm3 hf3 => ?_⟩
    obtain ⟨nC, mC⟩ := appN nB mB pC hC hs3 hm3 hf3
    have bC := mC.get hb (.inl (fun k => k))
    conv => whnf
    refine ⟨_, _, bC, Nat.le_of_ble_eq_true rfl, ?_⟩
    conv => whnf
    have el : j - 0 + 1 + (D.length - j) = (insS S id (now + waitV B M 0, 0)).length := by
      rw [← efin, List.length_append, List.length_cons, List.length_take, List.length_drop]
      omega
    have ef : (D.take j).flatMap wC ++ wC (id, now + waitV B M 0, 0) ++ (D.drop j).flatMap wC = (insS S id (now + waitV B M 0, 0)).flatMap wC := by
      rw [← efin, List.flatMap_append, List.flatMap_cons, List.append_assoc]
    rw [el, ef] at nC
    rw [el]
    have mS : Ab.Mod (one g) hC (hC.set g (.row true 4 [i64 B, i64 M, i64 R, .sl pC (insS S id (now + waitV B M 0, 0)).length])) := Mod.set rfl bC rfl
    have nF := NewSl.keep nC mS (fun i hi => by
      have : i = g := hi
      have := m1.next
      omega)
    exact ⟨pC, H.obj_set_same bC, ⟨nF.1, fun i o e => Nat.le_trans m1.next (nF.2 i o e)⟩, m1.trans' (mC.trans' mS (S2 := one g) (fun _ _ k => k.elim) (fun _ _ k => k)) (fun _ _ k => k) (fun _ _ k => k)⟩
set_option maxHeartbeats 1000000 in
theorem due42 {h : H} {g : Nat} {B M R : Int} {S : List Wt} (s : RSt h g B M R S) (ok : okT B M R = true) (hS : S.length ≤ 100000) (hN : ∀ x ∈ S, 0 ≤ x.2.2) {now : Int} (hn0 : -1000000000 ≤ now) (hn1 : now ≤ 1000000000) :
    ACalls Tryz.prog 103 [.ptr (some (g, 0)), i64 now] h (Due42Q h g B M R S now) := by
  obtain ⟨b1, b2, b3, b4, b5, b6⟩ := okT_iff.1 ok
  have hg := s.lt
  obtain ⟨p, hb, hr⟩ := s.box
  refine call_ Tryz.func103 rfl rfl (by kernel_rfl) ?_
  conv => whnf
  refine ⟨fun env hh => ∃ (j : Nat) (z : Int) (pa po pr : Option (Nat × Nat)), j ≤ S.length ∧ z = j ∧ NewSl h hh pa (agS R now (S.take j)).length 1 (ints .i64 (agS R now (S.take j))) ∧ NewSl h hh po (ovS R now (S.take j)).length 1 (ints .i64 (ovS R now (S.take j))) ∧
      NewSl h hh pr (rsS B M R now (S.take j)).length 3 ((rsS B M R now (S.take j)).flatMap wC) ∧ (∀ i, inSl pa i → inSl po i → False) ∧ (∀ i, inSl pa i → inSl pr i → False) ∧ (∀ i, inSl po i → inSl pr i → False) ∧ Ab.Mod none_ h hh ∧
      env = [(9, i64 z), (6, .sl pa (agS R now (S.take j)).length), (7, .sl po (ovS R now (S.take j)).length), (8, .sl pr (rsS B M R now (S.take j)).length), (0, .ptr (some (g, 0))), (1, i64 now)],
    fun env _ => match get env 9 with
      | .int _ z => (S.length - z).toNat
      | _ => 0, ⟨_, Forget.cons rfl (Forget.cons rfl (Forget.cons rfl (Forget.cons rfl (Forget.cons rfl (Forget.cons rfl (Forget.nil _)))))), 0, _, none, none, none, Nat.zero_le _, rfl, NewSl.nil _ _ _, NewSl.nil _ _ _, NewSl.nil _ _ _, (fun i a => by
        obtain ⟨o, a⟩ := a
        cases a), (fun i a => by
        obtain ⟨o, a⟩ := a
        cases a), (fun i a => by
        obtain ⟨o, a⟩ := a
        cases a), ⟨Nat.le_refl _, fun _ _ _ => rfl⟩, rfl⟩, ?_⟩
  rintro _ hh ⟨j, z, pa, po, pr, hj, rfl, na, no, nr, d1, d2, d3, mo, rfl⟩
  conv => whnf
  have bx := mo.get hb (.inl (fun k => k))
  refine ⟨_, Cell.mk bx rfl, ?_⟩
  conv => whnf
  refine br_mk (fun hd => ?_) (fun hd => ?_)
  rotate_left
  · conv => whnf
    have hd : ¬ j < S.length := by simpa using hd
    obtain rfl : j = S.length := by omega
    rw [List.take_length] at na no nr ⊢
    refine ⟨_, _, bx, Nat.le_of_ble_eq_true rfl, ?_⟩
    conv => whnf
    have mS : Ab.Mod (one g) hh (hh.set g (.row true 4 [i64 B, i64 M, i64 R, .sl pr (rsS B M R now S).length])) := Mod.set rfl bx rfl
    have kp : ∀ i, one g i → i < h.next := fun i hi => by
      have : i = g := hi
      omega
    exact ⟨pa, po, pr, rfl, NewSl.keep na mS kp, NewSl.keep no mS kp, NewSl.keep nr mS kp, H.obj_set_same bx, mo.trans' mS (fun _ _ k => k.elim) (fun _ _ k => k)⟩
  conv => whnf
  have hd : j < S.length := by simpa using hd
  have htk : S.take (j + 1) = S.take j ++ [S[j]] := List.take_succ_eq_append_getElem hd
  have hx0 := hN _ (getElem_in hd)
  have hjl : (agS R now (S.take j)).length ≤ S.length ∧ (ovS R now (S.take j)).length ≤ S.length ∧ (rsS B M R now (S.take j)).length ≤ S.length := by
    have h1 := agS_le R now (S.take j)
    have h2 := ovS_le R now (S.take j)
    have h3 := rsS_le B M R now (S.take j)
    rw [List.length_take] at h1 h2 h3
    omega
  obtain ⟨i1, c1, f1, f2, f3⟩ := sls_get wC_len (hr.get mo).is rfl hd
  refine ⟨_, Cell.mk bx rfl, ?_⟩
  conv => whnf
  refine ⟨i1, c1, j, f1, rfl, hd, ?_⟩
  conv => whnf
  refine ⟨_, f2, ?_⟩
  conv => whnf
  generalize S[j] = x at f2 f3 htk hx0 ⊢
  have la := fun i (k : inSl pa i) => SlIs.own_lt na.1 k
  have lo := fun i (k : inSl po i) => SlIs.own_lt no.1 k
  have lr := fun i (k : inSl pr i) => SlIs.own_lt nr.1 k
  obtain ⟨gm, gn, ml⟩ := lay_row (h := hh) (sz := 3) [i64 0, i64 0, i64 0] (wC x)
  refine ⟨_, _, gm, Nat.le_of_ble_eq_true rfl, ?_⟩
  conv => whnf
  refine ⟨_, Cell.mk gn rfl, ?_⟩
  conv => whnf
  have na1 := NewSl.kept na ml
  have no1 := NewSl.kept no ml
  have nr1 := NewSl.kept nr ml
  have mo1 := mod_none mo ml
  refine br_mk (fun hq => ?_) (fun hq => ?_)
  · conv => whnf
    have hF : dueF B M R now x = some x := by rw [dueF, if_pos (by simpa using hq)]
    have hA : agB R now x = false := by rw [agB, show decide (x.2.1 > now) = true from hq]; rfl
    have hO : ovB R now x = false := by rw [ovB, show decide (x.2.1 > now) = true from hq]; rfl
    have ea : agS R now (S.take (j + 1)) = agS R now (S.take j) := by rw [htk, agS_snoc, hA]; simp
    have eo : ovS R now (S.take (j + 1)) = ovS R now (S.take j) := by rw [htk, ovS_snoc, hO]; simp
    have er : rsS B M R now (S.take (j + 1)) = rsS B M R now (S.take j) ++ [x] := by rw [htk, rsS_snoc, hF]; rfl
    refine ⟨_, Cells.mk gn (Nat.le_of_ble_eq_true rfl) rfl, ?_⟩
    conv => whnf
    obtain ⟨y1, y2, y3⟩ := app1 nr1 mo1 (wC x) rfl
    refine ⟨_, _, y1, y2, by rw [show (T.at_ 199).bytes = 24 from rfl]; omega, by omega, fun pr2 hY hs hm hf => ?_⟩
    obtain ⟨nr2, mo2, my⟩ := y3 pr2 hY hs hm hf
    obtain ⟨na2, e2⟩ := app1d na1 (fun i a b => d2 i b a) my hf
    obtain ⟨no2, e3⟩ := app1d no1 (fun i a b => d3 i b a) my hf
    have e6 : (rsS B M R now (S.take j)).flatMap wC ++ wC x = (rsS B M R now (S.take (j + 1))).flatMap wC := by rw [er, List.flatMap_append]; simp
    have e7 : (rsS B M R now (S.take j)).length + 1 = (rsS B M R now (S.take (j + 1))).length := by rw [er]; simp
    rw [e6, e7] at nr2
    rw [← ea] at na2
    rw [← eo] at no2
    conv => whnf
    rw [e7, ← ea, ← eo]
    exact ⟨_, Forget.cons rfl (Forget.cons rfl (Forget.cons rfl (Forget.cons rfl (Forget.cons rfl (Forget.cons rfl (Forget.nil _)))))), ⟨j + 1, _, pa, po, pr2, hd, succ_i64 hd (by omega), na2, no2, nr2, d1, fun i a b => e2 i b a, fun i a b => e3 i b a, mo2, rfl⟩, mu_lt hd (by omega)⟩
  conv => whnf
  refine ⟨[0, 1, 2, 3, 4, 5, 6, 7], [0, 1, 0, 4, 12, 28, 63, 127], by kernel_rfl, ?_⟩
  conv => whnf
  refine ⟨_, Cell.mk gn rfl, ?_⟩
  conv => whnf
  have bx1 := ml.get bx (.inl (fun k => k))
  refine ⟨_, Cell.mk bx1 rfl, ?_⟩
  conv => whnf
  refine br_mk (fun hc => ?_) (fun hc => ?_)
  · conv => whnf
    have hc' : x.2.2 < R := by simpa using hc
    have hF : dueF B M R now x = some (x.1, now + waitV B M (x.2.2 + 1), x.2.2 + 1) := by rw [dueF, if_neg (by simpa using hq), if_pos hc']
    have hA : agB R now x = true := by rw [agB, show decide (x.2.1 > now) = false from hq, hc]; rfl
    have hO : ovB R now x = false := by rw [ovB, show decide (x.2.1 > now) = false from hq, hc]; rfl
    have ea : agS R now (S.take (j + 1)) = agS R now (S.take j) ++ [x.1] := by rw [htk, agS_snoc, hA]; simp
    have eo : ovS R now (S.take (j + 1)) = ovS R now (S.take j) := by rw [htk, ovS_snoc, hO]; simp
    have er : rsS B M R now (S.take (j + 1)) = rsS B M R now (S.take j) ++ [(x.1, now + waitV B M (x.2.2 + 1), x.2.2 + 1)] := by rw [htk, rsS_snoc, hF]; rfl
    refine ⟨_, Cell.mk gn rfl, ?_⟩
    conv => whnf
    have ew : IntKind.i64.wrap (x.2.2 + 1) = x.2.2 + 1 := wrap_i64 (by omega) (by omega)
    rw [ew]
    refine ⟨_, _, gn, Nat.le_of_ble_eq_true rfl, ?_⟩
    conv => whnf
    have gn2 := H.obj_set_same (ob' := .row true 3 [i64 x.1, i64 x.2.1, i64 (x.2.2 + 1)]) gn
    have ml2 : Ab.Mod (one hh.next) _ _ := Mod.set (ob := .row true 3 [i64 x.1, i64 x.2.1, i64 (x.2.2 + 1)]) rfl gn rfl
    have bx2 := ml2.get bx1 (.inl (fun k => by
      have : g = hh.next := k
      have := mo.next
      omega))
    refine ⟨_, Cell.mk gn2 rfl, ?_⟩
    conv => whnf
    refine (wait38 bx2 b1 b3 b4 (n := x.2.2 + 1) (by omega)).mono ?_
    rintro _ h4 ⟨eh, rfl⟩
    subst eh
    conv => whnf
    rw [wrap_i64 (x := now + waitV B M (x.2.2 + 1)) (by have := waitV_rng b1 b3 (x.2.2 + 1); omega) (by have := waitV_rng b1 b3 (x.2.2 + 1); omega)]
    refine ⟨_, _, gn2, Nat.le_of_ble_eq_true rfl, ?_⟩
    conv => whnf
    have gn3 := H.obj_set_same (ob' := .row true 3 (wC (x.1, now + waitV B M (x.2.2 + 1), x.2.2 + 1))) gn2
    have ml3 : Ab.Mod (one hh.next) _ _ := Mod.set (ob := .row true 3 (wC (x.1, now + waitV B M (x.2.2 + 1), x.2.2 + 1))) rfl gn2 rfl
    have na3 := NewSl.keep1 (NewSl.keep1 na1 ml2 la) ml3 la
    have no3 := NewSl.keep1 (NewSl.keep1 no1 ml2 lo) ml3 lo
    have nr3 := NewSl.keep1 (NewSl.keep1 nr1 ml2 lr) ml3 lr
    have hfr : ∀ i, i < h.next → one hh.next i → none_ i := fun i hi k => by
      have : i = hh.next := k
      have := mo.next
      omega
    have mo3 := (mo1.trans' ml2 (fun _ _ k => k) hfr).trans' ml3 (fun _ _ k => k) hfr
    refine ⟨_, Cell.mk gn3 rfl, ?_⟩
    conv => whnf
    obtain ⟨y1, y2, y3⟩ := app1 na3 mo3 [i64 x.1] rfl
    refine ⟨_, _, y1, y2, by rw [show (T.at_ 3).bytes = 8 from rfl]; omega, by omega, fun pa2 hY hs hm hf => ?_⟩
    obtain ⟨na4, mo4, my⟩ := y3 pa2 hY hs hm hf
    obtain ⟨no4, e1⟩ := app1d no3 d1 my hf
    obtain ⟨nr4, e2⟩ := app1d nr3 d2 my hf
    have gn4 := my.get gn3 (.inl (fun k => by
      have := la _ k
      omega))
    conv => whnf
    refine ⟨_, Cells.mk gn4 (Nat.le_of_ble_eq_true rfl) rfl, ?_⟩
    conv => whnf
    obtain ⟨z1, z2, z3⟩ := app1 nr4 mo4 (wC (x.1, now + waitV B M (x.2.2 + 1), x.2.2 + 1)) rfl
    refine ⟨_, _, z1, z2, by rw [show (T.at_ 199).bytes = 24 from rfl]; omega, by omega, fun pr2 hZ hs2 hm2 hf2 => ?_⟩
    obtain ⟨nr5, mo5, mz⟩ := z3 pr2 hZ hs2 hm2 hf2
    obtain ⟨na5, e3⟩ := app1d na4 (fun i a b => e2 i b a) mz hf2
    obtain ⟨no5, e4⟩ := app1d no4 (fun i a b => d3 i b a) mz hf2
    have q6 : ints .i64 (agS R now (S.take j)) ++ [i64 x.1] = ints .i64 (agS R now (S.take (j + 1))) := by rw [ea, ints_append]; rfl
    have q7 : (agS R now (S.take j)).length + 1 = (agS R now (S.take (j + 1))).length := by rw [ea]; simp
    have r6 : (rsS B M R now (S.take j)).flatMap wC ++ wC (x.1, now + waitV B M (x.2.2 + 1), x.2.2 + 1) = (rsS B M R now (S.take (j + 1))).flatMap wC := by rw [er, List.flatMap_append]; simp
    have r7 : (rsS B M R now (S.take j)).length + 1 = (rsS B M R now (S.take (j + 1))).length := by rw [er]; simp
    rw [q6, q7] at na5
    rw [r6, r7] at nr5
    rw [← eo] at no5
    conv => whnf
    rw [q7, r7, ← eo]
    exact ⟨_, Forget.cons rfl (Forget.cons rfl (Forget.cons rfl (Forget.cons rfl (Forget.cons rfl (Forget.cons rfl (Forget.nil _)))))), ⟨j + 1, _, pa2, po, pr2, hd, succ_i64 hd (by omega), na5, no5, nr5, e1, fun i a b => e3 i b a, fun i a b => e4 i b a, mo5, rfl⟩, mu_lt hd (by omega)⟩
  · conv => whnf
    have hF : dueF B M R now x = none := by rw [dueF, if_neg (by simpa using hq), if_neg (by simpa using hc)]
    have hA : agB R now x = false := by rw [agB, hc, Bool.and_false]
    have hO : ovB R now x = true := by rw [ovB, show decide (x.2.1 > now) = false from hq, hc]; rfl
    have ea : agS R now (S.take j) = agS R now (S.take (j + 1)) := by rw [htk, agS_snoc, hA]; simp
    have eo : ovS R now (S.take (j + 1)) = ovS R now (S.take j) ++ [x.1] := by rw [htk, ovS_snoc, hO]; simp
    have er : rsS B M R now (S.take j) = rsS B M R now (S.take (j + 1)) := by rw [htk, rsS_snoc, hF]; simp
    refine ⟨_, Cell.mk gn rfl, ?_⟩
    conv => whnf
    obtain ⟨y1, y2, y3⟩ := app1 no1 mo1 [i64 x.1] rfl
    refine ⟨_, _, y1, y2, by rw [show (T.at_ 3).bytes = 8 from rfl]; omega, by omega, fun po2 hY hs hm hf => ?_⟩
    obtain ⟨no2, mo2, my⟩ := y3 po2 hY hs hm hf
    obtain ⟨na2, e2⟩ := app1d na1 (fun i a b => d1 i b a) my hf
    obtain ⟨nr2, e3⟩ := app1d nr1 d3 my hf
    have e6 : ints .i64 (ovS R now (S.take j)) ++ [i64 x.1] = ints .i64 (ovS R now (S.take (j + 1))) := by rw [eo, ints_append]; rfl
    have e7 : (ovS R now (S.take j)).length + 1 = (ovS R now (S.take (j + 1))).length := by rw [eo]; simp
    rw [e6, e7] at no2
    rw [ea] at na2
    rw [er] at nr2
    conv => whnf
    rw [e7, ea, er]
    exact ⟨_, Forget.cons rfl (Forget.cons rfl (Forget.cons rfl (Forget.cons rfl (Forget.cons rfl (Forget.cons rfl (Forget.nil _)))))), ⟨j + 1, _, pa, po2, pr, hd, succ_i64 hd (by omega), na2, no2, nr2, fun i a b => e2 i b a, d2, e3, mo2, rfl⟩, mu_lt hd (by omega)⟩
theorem due42r {h : H} {g : Nat} {B M R : Int} {S : List Wt} (s : RSt h g B M R S) (ok : okT B M R = true) (hS : S.length ≤ 100000) (hN : ∀ x ∈ S, 0 ≤ x.2.2) {now : Int} (hn0 : -1000000000 ≤ now) (hn1 : now ≤ 1000000000) :
    ACalls Tryz.prog 103 [.ptr (some (g, 0)), i64 now] h (Due42R h g B M R S now) := by
  have hg := s.lt
  let W : H → Option (Nat × Nat) → List Int → Prop := fun h' q l => SlIs h' q l.length false 1 (ints .i64 l) ∧ ∀ i o, q = some (i, o) → h.next ≤ i
  refine ACalls.ro (Q := fun r h' => ∃ qa qo, r = .tup [.sl qa (agS R now S).length, .sl qo (ovS R now S).length] ∧ RoSl h' qa (agS R now S).length 1 (ints .i64 (agS R now S)) ∧ W h' qo (ovS R now S) ∧ RSt h' g B M R (rsS B M R now S) ∧ Ab.Mod (one g) h h') ?_ ?_
  · refine ACalls.ro (Q := fun r h' => ∃ qa qo, r = .tup [.sl qa (agS R now S).length, .sl qo (ovS R now S).length] ∧ W h' qa (agS R now S) ∧ W h' qo (ovS R now S) ∧ RSt h' g B M R (rsS B M R now S) ∧ Ab.Mod (one g) h h') ?_ ?_
    · refine (due42 s ok hS hN hn0 hn1).ro ?_
      rintro r h' ⟨qa, qo, qr, rfl, na, no, nr, bx, m⟩
      obtain ⟨i, h1, h2, h3⟩ := rst_ro hg bx nr m
      exact ⟨i, qa, qo, rfl, ⟨SlIs.ro_weak na.1.weak i, na.2⟩, ⟨SlIs.ro_weak no.1.weak i, no.2⟩, h2, h3⟩
    · rintro r h' ⟨qa, qo, rfl, na, no, st, m⟩
      obtain ⟨i, h1, h2⟩ := SlIs.freeze na.1
      have hi : h.next ≤ i := by
        rcases h1 with ⟨o, h1⟩ | h1
        · exact na.2 i o h1
        · exact Nat.le_trans m.next h1
      exact ⟨i, qa, qo, rfl, h2, ⟨SlIs.ro_weak no.1 i, no.2⟩, st.ro (by omega), m.ro_new hi⟩
  · rintro r h' ⟨qa, qo, rfl, na, no, st, m⟩
    obtain ⟨i, h1, h2⟩ := SlIs.freeze no.1
    have hi : h.next ≤ i := by
      rcases h1 with ⟨o, h1⟩ | h1
      · exact no.2 i o h1
      · exact Nat.le_trans m.next h1
    exact ⟨i, qa, qo, rfl, na.ro i, h2, st.ro (by omega), m.ro_new hi⟩
theorem new28 (h : H) (W : Int) : ACalls Tryz.prog 64 [i64 W] h (fun r h' => NewRT W h r h') := by
  refine call_ Tryz.func64 rfl rfl (by kernel_rfl) ?_
  conv => whnf
  refine (within68 h W 1 16).mono ?_
  rintro _ h1 ⟨eh, rfl⟩
  subst eh
  conv => whnf
  refine br_mk (fun ha => ?_) (fun ha => ?_)
  · conv => whnf
    have ha : inR W 1 16 = false := by simpa using ha
    exact .inl ⟨ha, rfl, rfl⟩
  conv => whnf
  have ha : inR W 1 16 = true := by simpa using ha
  exact .inr ⟨ha, _, rfl, ⟨⟨none, H.obj_push_new _ _, RoSl.nil _ _ _⟩, fun x hx => by cases hx⟩, Nat.le_refl _, Mod.push none_ _ _⟩
set_option maxHeartbeats 4000000 in
theorem take30 {h : H} {g : Nat} {W N : Int} {S : Ent} (s : RTk h g W N S) (ha : AscS S) (ok : okW W = true) (hN0 : 0 ≤ N) (hN1 : N ≤ 1000000) (hS : S.length ≤ 1000) {seq : Int} (hs : inI seq) {q : Option (Nat × Nat)} {m : Nat} {body : List Int} (nm : SlIs h q m false 1 (ints .u8 body)) (hm : m ≤ 100000) :
    ACalls Tryz.prog 91 [.ptr (some (g, 0)), i64 seq, .sl q m] h (TakeR h g W N S seq m body) := by
  have hW : 1 ≤ W ∧ W ≤ 16 := by simpa [okW] using ok
  have hml := slo_len nm
  have hg := s.lt
  have hsb : seq ≤ 9223372036854775807 := by
    have := hs.2
    simp [IntKind.max, IntKind.signed, IntKind.bits] at this
    exact this
  obtain ⟨⟨p, hb, hr⟩, hent⟩ := s
  refine call_ Tryz.func91 rfl rfl (by kernel_rfl) ?_
  conv => whnf
  refine ⟨[0, 1, 2, 3, 4, 5, 6, 7, 8, 9, 10, 11, 12, 13, 14, 15, 16, 17, 18], [0, 0, 2, 6, 14, 31, 63, 127, 127, 383, 895, 1919, 4095, 127, 8319, 24703, 57471, 131071, 262143], by kernel_rfl, ?_⟩
  conv => whnf
  refine ⟨_, Cell.mk hb rfl, ?_⟩
  conv => whnf
  have no : mayT W N seq S = false → TakeR h g W N S seq m body (.tup [.sl none 0, .bool false]) h := fun hn => .inl ⟨hn, rfl, rfl⟩
  refine br_mk (fun hc => ?_) (fun hc => ?_)
  · conv => whnf
    have hc : seq < N := by simpa using hc
    exact no (by rw [mayT, decide_eq_false (by omega)]; rfl)
  conv => whnf
  have hc : ¬ seq < N := by simpa using hc
  refine ⟨_, Cell.mk hb rfl, ?_⟩
  conv => whnf
  refine ⟨_, Cell.mk hb rfl, ?_⟩
  conv => whnf
  have hsub : IntKind.i64.wrap (seq - N) = seq - N := wrap_i64 (by omega) (by omega)
  rw [hsub]
  refine br_mk (fun hd => ?_) (fun hd => ?_)
  · conv => whnf
    have hd : seq - N ≥ W := by simpa using hd
    exact no (by rw [mayT, decide_eq_false (show ¬ seq < N + W by omega), Bool.and_false, Bool.false_and])
  conv => whnf
  have hd : ¬ seq - N ≥ W := by simpa using hd
  have may : sget S seq = none → mayT W N seq S = true := fun hz => by
    rw [mayT, hz, decide_eq_true (show N ≤ seq by omega), decide_eq_true (show seq < N + W by omega)]
    rfl
  clear hc hd
  refine ⟨fun env hh => ∃ (j : Nat) (z : Int), j ≤ S.length ∧ z = j ∧ hh = h ∧ (∀ k (hk : k < S.length), k < j → S[k].1 < seq) ∧ env = [(8, i64 z), (0, .ptr (some (g, 0))), (1, i64 seq), (2, .sl q m)],
    fun env _ => match get env 8 with
      | .int _ z => (S.length - z).toNat
      | _ => 0, ⟨_, Forget.cons rfl (Forget.cons rfl (Forget.cons rfl (Forget.cons rfl (Forget.nil _)))), 0, _, Nat.zero_le _, rfl, rfl, fun k _ hk => absurd hk (Nat.not_lt_zero k), rfl⟩, ?_⟩
  rintro _ hh ⟨j, z, hj, rfl, eh, hall, rfl⟩
  subst eh
  conv => whnf
  refine ⟨_, Cell.mk hb rfl, ?_⟩
  conv => whnf
  refine br_mk (fun hd => ?_) (fun hd => ?_)
  · conv => whnf
    have hd : j < S.length := by simpa using hd
    obtain ⟨i1, c1, f1, f2, f3⟩ := sls_get eC_len hr.is rfl hd
    have k0 := f3 0 (i64 S[j].1) rfl
    refine ⟨_, Cell.mk hb rfl, ?_⟩
    conv => whnf
    refine ⟨i1, c1, j, f1, rfl, hd, ?_⟩
    conv => whnf
    refine ⟨_, k0, ?_⟩
    conv => whnf
    refine br_mk (fun hx => ?_) (fun hx => ?_)
    · conv => whnf
      have hx : S[j].1 < seq := by simpa using hx
      refine ⟨_, Forget.cons rfl (Forget.cons rfl (Forget.cons rfl (Forget.cons rfl (Forget.nil _)))), ⟨j + 1, _, hd, succ_i64 hd (by omega), rfl, fun k hk hkj => ?_, rfl⟩, mu_lt hd (by omega)⟩
      by_cases e : k = j
      · subst e; exact hx
      · exact hall k hk (by omega)
    · have hx : ¬ S[j].1 < seq := by simpa using hx
      conv => whnf
      refine ⟨_, Cell.mk hb rfl, ?_⟩
      conv => whnf
      refine br_mk (fun hd2 => ?_) (fun hd2 => ?_)
      rotate_left
      · have : ¬ (j : Int) < S.length := by simpa using hd2
        omega
      conv => whnf
      refine ⟨_, Cell.mk hb rfl, ?_⟩
      conv => whnf
      refine ⟨i1, c1, j, f1, rfl, hd, ?_⟩
      conv => whnf
      refine ⟨_, k0, ?_⟩
      conv => whnf
      refine br_mk (fun he => ?_) (fun he => ?_)
      · conv => whnf
        have he : S[j].1 = seq := by simpa using he
        have hz : sget S seq = some S[j].2 := by
          rw [← he]
          exact (sget_mem ha.nodup).2 (List.getElem_mem hd)
        exact no (by rw [mayT, hz]; simp)
      have he : ¬ S[j].1 = seq := by
        intro e
        rw [e] at he
        simp at he
      have hne : ∀ p ∈ S, p.1 ≠ seq := fun x hx2 => by
        obtain ⟨k, hk, rfl⟩ := List.getElem_of_mem hx2
        by_cases e1 : k < j
        · have := hall k hk e1
          omega
        · by_cases e2 : k = j
          · subst e2
            exact he
          · have := (List.pairwise_iff_getElem.1 ha) j k (by rw [keys_length]; exact hd) (by rw [keys_length]; exact hk) (by omega)
            simp only [keys, List.getElem_map] at this
            omega
      have hmay := may (sget_none.2 (fun k => by
        obtain ⟨x, hx2, e⟩ := List.mem_map.1 k
        exact hne x hx2 e))
      have efin := fun v => ins_atE ha hne v hj hall (.inr ⟨hd, hx⟩)
      conv => whnf
      refine ⟨[], [1, 10], rfl, ?_, ?_⟩
      · conv => whnf
        refine ⟨[], [8, 10], rfl, ?_, ?_⟩
        · conv => whnf
          refine ⟨[0, 2, 3, 4, 5, 6, 7, 9, 11, 16, 17, 18, 19, 20, 21, 1, 8, 10, 12, 13, 14, 15, 22, 23, 24, 25], [0, 0, 0, 4, 12, 28, 0, 124, 254, 0, 510, 0, 3582, 8190, 16382, 32766, 0, 65536, 196608, 458752, 0, 2031616, 4194302, 8388607, 16777215, 33554431], by kernel_rfl, ?_⟩
          conv => whnf
          refine ⟨_, Cell.mk hb rfl, ?_⟩
          conv => whnf
          refine ⟨⟨_, hr.is⟩, j, rfl, Nat.zero_le _, hj, ?_⟩
          conv => whnf
          refine ⟨_, Cell.mk hb rfl, ?_⟩
          conv => whnf
          refine ⟨⟨_, hr.is⟩, j, rfl, hj, Nat.le_refl _, ?_⟩
          conv => whnf
          have rt := ro_take eC_len hr hj
          have rd := ro_drop eC_len hr hj
          have mo := mod_refl none_ hh
          obtain ⟨nA, mo⟩ := new0 2 mo
          refine ⟨_, _, nA.1, (rt.get mo).is, by rw [show (T.at_ 190).bytes = 32 from rfl]; omega, by omega, fun pA hA hs hm hf => ?_⟩
          obtain ⟨nA, mo⟩ := appN nA mo pA hA hs hm hf
          conv => whnf
          refine ⟨⟨⟨_, (hr.get mo).is⟩, j, rfl, hj, Nat.le_refl _, rfl⟩, ?_⟩
          conv => whnf
          refine ⟨⟨_, Cell.mk (mo.get hb (.inl (fun k => k))) rfl, rfl⟩, ?_⟩
          conv => whnf
          obtain ⟨nB, nA, dis, mo⟩ := new0d 1 nA mo
          have dis := dis_comm dis
          refine ⟨_, _, nB.1, SlIs.old nm mo (fun _ _ k => k), by rw [show (T.at_ 5).bytes = 1 from rfl]; omega, by omega, fun pB hB hs hm hf => ?_⟩
          obtain ⟨nB, nA, dis, mo⟩ := appD nB nA (dis_comm dis) mo hs hm hf
          have dis := dis_comm dis
          rw [Nat.zero_add, List.nil_append] at nB nA
          conv => whnf
          rw [show 0 + m = m from Nat.zero_add _]
          refine ⟨⟨⟨_, (hr.get mo).is⟩, j, rfl, hj, Nat.le_refl _, rfl⟩, ?_⟩
          conv => whnf
          refine ⟨⟨_, Cell.mk (mo.get hb (.inl (fun k => k))) rfl, rfl⟩, ?_⟩
          conv => whnf
          obtain ⟨nA, nB, mo⟩ := pushD (.row true 2 [i64 seq, .sl pB m]) nA nB mo
          rw [show 0 + (j - 0) = j - 0 from Nat.zero_add _]
          refine ⟨_, _, nA.1, (SlIs.row (n := 1) (sz := 2) (cs := [i64 seq, .sl pB m]) (H.obj_push_new _ _) rfl).weak, by rw [show (T.at_ 190).bytes = 32 from rfl]; omega, by omega, fun pC hC hs hm hf => ?_⟩
          obtain ⟨nA, nB, dis, mo⟩ := appD nA nB dis mo hs hm hf
          conv => whnf
          refine ⟨⟨⟨_, (hr.get mo).is⟩, j, rfl, hj, Nat.le_refl _, rfl⟩, ?_⟩
          conv => whnf
          refine ⟨⟨_, Cell.mk (mo.get hb (.inl (fun k => k))) rfl, rfl⟩, ?_⟩
          conv => whnf
          refine ⟨_, _, nA.1, (rd.get mo).is, by rw [show (T.at_ 190).bytes = 32 from rfl]; omega, by omega, fun pD hD hs hm hf => ?_⟩
          obtain ⟨nA, nB, dis, mo⟩ := appD nA nB dis mo hs hm hf
          conv => whnf
          refine ⟨_, _, mo.get hb (.inl (fun k => k)), Nat.le_of_ble_eq_true rfl, ?_⟩
          conv => whnf
          obtain ⟨X, hX⟩ : ∃ X, X = insS S seq (pB, body) := ⟨_, rfl⟩
          have el : j - 0 + 1 + (S.length - j) = X.length := by
            rw [hX, ← efin, List.length_append, List.length_cons, List.length_take, List.length_drop]
            omega
          have ef : (S.take j).flatMap eC ++ [i64 seq, .sl pB m] ++ (S.drop j).flatMap eC = X.flatMap eC := by
            rw [hX, ← efin, List.flatMap_append, List.flatMap_cons, List.append_assoc, hml]
            rfl
          rw [el, ef] at nA
          rw [el]
          have mS : Ab.Mod (one g) hD (hD.set g (.row true 3 [i64 W, i64 N, .sl pD X.length])) := Mod.set rfl (mo.get hb (.inl (fun k => k))) rfl
          have kg : ∀ i, one g i → i < hh.next := fun i hi => by
            have : i = g := hi
            omega
          have nA := NewSl.keep nA mS kg
          have nB := NewSl.keep nB mS kg
          have bx : (hD.set g (.row true 3 [i64 W, i64 N, .sl pD X.length])).obj g = some (.row true 3 [i64 W, i64 N, .sl pD X.length]) := H.obj_set_same (mo.get hb (.inl (fun k => k)))
          have mo : Ab.Mod (one g) hh (hD.set g (.row true 3 [i64 W, i64 N, .sl pD X.length])) := mo.trans' mS (fun _ _ k => k.elim) (fun _ _ k => k)
          have bx0 : (hD.set g (.row true 3 [i64 W, i64 N, .sl pD X.length])).obj g = some (.row true 3 [i64 W, i64 (N + ((0 : Nat) : Int)), .sl (slp pD (0 * 2)) (X.length - 0)]) := by
            rw [Nat.zero_mul, slp_zero, Nat.sub_zero, show N + ((0 : Nat) : Int) = N by omega]
            exact bx
          obtain ⟨h8, hh8⟩ : ∃ x, x = hD.set g (.row true 3 [i64 W, i64 N, .sl pD X.length]) := ⟨_, rfl⟩
          rw [← hh8] at nA nB bx mo
          have hXl : X.length ≤ 1001 := by
            rw [hX]
            have := insS_len seq (pB, body) S
            omega
          have hXN : ∀ x ∈ X, N ≤ x.1 → True := fun _ _ _ => trivial
          refine ⟨fun env hk => ∃ (k : Nat) (qq : Option (Nat × Nat)), k ≤ X.length ∧ chn N X = ((X.take k).map Prod.snd ++ (chn (N + (k : Int)) (X.drop k)).1, (chn (N + (k : Int)) (X.drop k)).2) ∧ hk.obj g = some (.row true 3 [i64 W, i64 (N + (k : Int)), .sl (slp pD (k * 2)) (X.length - k)]) ∧ NewSl h8 hk qq k 1 ((X.take k).flatMap fun x => slC x.2) ∧ Ab.Mod (one g) h8 hk ∧ env = [(9, .sl qq k), (0, .ptr (some (g, 0)))],
            fun env _ => match get env 9 with
              | .sl _ n => X.length - n
              | _ => 0, ⟨_, Forget.cons rfl (Forget.cons rfl (Forget.nil _)), 0, none, Nat.zero_le _, by simp, bx0, NewSl.nil _ _ _, by rw [hh8]; exact mod_refl _ _, rfl⟩, ?_⟩
          have hg8 : g < h8.next := h8.lt _ _ bx
          clear bx bx0 hh8
          rintro _ hk ⟨k, qq, hkX, hch, bx, nq, mk, rfl⟩
          conv => whnf
          refine ⟨[0, 1, 2, 3, 4, 5, 6, 7, 8, 9, 10, 11, 12, 13, 14, 15, 16, 17, 18, 19], [0, 1, 3, 7, 15, 31, 63, 127, 255, 511, 1023, 2047, 4095, 8191, 127, 16511, 49279, 114815, 262143, 524287], by kernel_rfl, ?_⟩
          conv => whnf
          refine ⟨_, Cell.mk bx rfl, ?_⟩
          conv => whnf
          have kg8 : ∀ i, one g i → i < h8.next := fun i hi => by
            have : i = g := hi
            omega
          have nA1 := NewSl.keep nA (S := one g) mk kg
          have nB1 := NewSl.keep nB (S := one g) mk kg
          have moK := mo.trans' mk (S2 := one g) (fun _ _ k => k) (fun _ _ k => k)
          have hsub := sub_is nA1.1 hkX
          have done : chn (N + (k : Int)) (X.drop k) = ([], N + (k : Int), X.drop k) → TakeR hh g W N S seq m body (.tup [.sl qq k, .bool true]) hk := fun e => by
            rw [e, List.append_nil] at hch
            exact .inr ⟨hmay, pB, pD, qq, k, X, hX, hkX, hch, rfl, bx, nA1, nB1, ⟨nq.1, fun i o e => Nat.le_trans mo.next (nq.2 i o e)⟩, moK⟩
          refine br_mk (fun hy => ?_) (fun hy => ?_)
          rotate_left
          · conv => whnf
            have hy : ¬ k < X.length := by
              have : ¬ ((X.length - k : Nat) : Int) > 0 := by simpa using hy
              omega
            exact done (chn_stop (.inl (by omega)) hkX)
          have hy : k < X.length := by
            have : ((X.length - k : Nat) : Int) > 0 := by simpa using hy
            omega
          conv => whnf
          refine ⟨_, Cell.mk bx rfl, ?_⟩
          conv => whnf
          have hdl : (X.drop k).length = X.length - k := List.length_drop
          have hd0 : 0 < (X.drop k).length := by omega
          have hX0 : (X.drop k)[0] = X[k] := by simp
          obtain ⟨i3, c3, w1, w2, w3⟩ := sls_get eC_len hsub hdl.symm hd0
          rw [hX0] at w3
          have v0 := w3 0 (i64 X[k].1) rfl
          have v1 := w3 1 (slV X[k].2) rfl
          refine ⟨i3, c3, 0, w1, rfl, by omega, ?_⟩
          conv => whnf
          refine ⟨_, v0, ?_⟩
          conv => whnf
          refine ⟨_, Cell.mk bx rfl, ?_⟩
          conv => whnf
          refine br_mk (fun hu => ?_) (fun hu => ?_)
          rotate_left
          · conv => whnf
            have hu : X[k].1 ≠ N + (k : Int) := by
              intro e
              rw [e] at hu
              simp at hu
            exact done (chn_stop (.inr ⟨hy, hu⟩) hkX)
          have hu : X[k].1 = N + (k : Int) := by simpa using hu
          conv => whnf
          refine ⟨_, Cell.mk bx rfl, ?_⟩
          conv => whnf
          refine ⟨i3, c3, 0, w1, rfl, by omega, ?_⟩
          conv => whnf
          refine ⟨_, v1, ?_⟩
          conv => whnf
          obtain ⟨y1, y2, y3⟩ := app1 nq mk (slC X[k].2) rfl
          refine ⟨_, _, y1, y2, by rw [show (T.at_ 38).bytes = 24 from rfl]; omega, by omega, fun pG hY hs2 hm2 hf2 => ?_⟩
          obtain ⟨nq2, mk2, my⟩ := y3 pG hY hs2 hm2 hf2
          have e6 : ((X.take k).flatMap fun x => slC x.2) ++ slC X[k].2 = (X.take (k + 1)).flatMap fun x => slC x.2 := by
            rw [List.take_succ_eq_append_getElem hy, List.flatMap_append]
            simp
          rw [e6] at nq2
          conv => whnf
          have bx2 := my.get bx (.inl (fun a => by
            obtain ⟨o, a⟩ := a
            have := nq.2 g o a
            omega))
          refine ⟨_, Cell.mk bx2 rfl, ?_⟩
          conv => whnf
          have hsub2 := sub_is (NewSl.keep nA (S := one g) mk2 kg).1 hkX
          refine ⟨⟨_, hsub2⟩, 1, rfl, by omega, Nat.le_refl _, ?_⟩
          conv => whnf
          refine ⟨_, _, bx2, Nat.le_of_ble_eq_true rfl, ?_⟩
          conv => whnf
          have bS1 : (hY.set g (.row true 3 [i64 W, i64 (N + (k : Int)), .sl (slp (slp pD (k * 2)) (1 * 2)) (X.length - k - 1)])).obj g = some (.row true 3 [i64 W, i64 (N + (k : Int)), .sl (slp (slp pD (k * 2)) (1 * 2)) (X.length - k - 1)]) := H.obj_set_same bx2
          have m1 : Ab.Mod (one g) hY (hY.set g (.row true 3 [i64 W, i64 (N + (k : Int)), .sl (slp (slp pD (k * 2)) (1 * 2)) (X.length - k - 1)])) := Mod.set rfl bx2 rfl
          have nq3 := NewSl.keep nq2 m1 kg8
          have mk3 := mk2.trans' m1 (S2 := one g) (fun _ _ k => k) (fun _ _ k => k)
          refine ⟨_, Cell.mk bS1 rfl, ?_⟩
          conv => whnf
          have hXS : (X.length : Int) ≤ 1001 := by omega
          have hwr : IntKind.i64.wrap (N + (k : Int) + 1) = N + ((k + 1 : Nat) : Int) := by rw [wrap_i64 (by omega) (by omega)]; omega
          rw [hwr]
          refine ⟨_, _, bS1, Nat.le_of_ble_eq_true rfl, ?_⟩
          conv => whnf
          obtain ⟨h9, hh9⟩ : ∃ x, x = hY.set g (.row true 3 [i64 W, i64 (N + (k : Int)), .sl (slp (slp pD (k * 2)) (1 * 2)) (X.length - k - 1)]) := ⟨_, rfl⟩
          rw [← hh9] at bS1 nq3 mk3
          have bS2 : (h9.set g (.row true 3 [i64 W, i64 (N + ((k + 1 : Nat) : Int)), .sl (slp (slp pD (k * 2)) (1 * 2)) (X.length - k - 1)])).obj g = some (.row true 3 [i64 W, i64 (N + ((k + 1 : Nat) : Int)), .sl (slp pD ((k + 1) * 2)) (X.length - (k + 1))]) := by
            rw [H.obj_set_same bS1, slp_slp, show k * 2 + 1 * 2 = (k + 1) * 2 by omega, show X.length - k - 1 = X.length - (k + 1) by omega]
          have m2 : Ab.Mod (one g) h9 (h9.set g (.row true 3 [i64 W, i64 (N + ((k + 1 : Nat) : Int)), .sl (slp (slp pD (k * 2)) (1 * 2)) (X.length - k - 1)])) := Mod.set rfl bS1 rfl
          have nq4 := NewSl.keep nq3 m2 kg8
          have mk4 := mk3.trans' m2 (S2 := one g) (fun _ _ k => k) (fun _ _ k => k)
          have hch2 : chn N X = ((X.take (k + 1)).map Prod.snd ++ (chn (N + ((k + 1 : Nat) : Int)) (X.drop (k + 1))).1, (chn (N + ((k + 1 : Nat) : Int)) (X.drop (k + 1))).2) := by
            rw [hch, chn_step hy hu, List.take_succ_eq_append_getElem hy, List.map_append, List.append_assoc]
            rfl
          subst hh9
          refine ⟨_, Forget.cons rfl (Forget.cons rfl (Forget.nil _)), ⟨k + 1, pG, hy, hch2, bS2, nq4, mk4, rfl⟩, ?_⟩
          show X.length - (k + 1) < X.length - k
          omega
        · conv => whnf
          refine ⟨[0, 2, 3, 4, 5, 6, 7, 9, 11, 16, 17, 18, 19, 20, 21, 1, 10, 8, 12, 13, 14, 15, 22, 23, 24, 25], [0, 0, 0, 4, 12, 28, 0, 124, 1278, 0, 2, 0, 3582, 8190, 16382, 32766, 0, 65536, 196608, 458752, 0, 2031616, 4194302, 8388607, 16777215, 33554431], by kernel_rfl, ?_⟩
          conv => whnf
          refine ⟨_, Cell.mk hb rfl, ?_⟩
          conv => whnf
          refine ⟨⟨_, hr.is⟩, j, rfl, Nat.zero_le _, hj, ?_⟩
          conv => whnf
          refine ⟨_, Cell.mk hb rfl, ?_⟩
          conv => whnf
          refine ⟨⟨_, hr.is⟩, j, rfl, hj, Nat.le_refl _, ?_⟩
          conv => whnf
          have rt := ro_take eC_len hr hj
          have rd := ro_drop eC_len hr hj
          have mo := mod_refl none_ hh
          obtain ⟨nA, mo⟩ := new0 2 mo
          obtain ⟨nB, nA, dis, mo⟩ := new0d 1 nA mo
          have dis := dis_comm dis
          refine ⟨_, _, nA.1, (rt.get mo).is, by rw [show (T.at_ 190).bytes = 32 from rfl]; omega, by omega, fun pA hA hs hm hf => ?_⟩
          obtain ⟨nA, nB, dis, mo⟩ := appD nA nB dis mo hs hm hf
          conv => whnf
          refine ⟨⟨⟨_, (hr.get mo).is⟩, j, rfl, hj, Nat.le_refl _, rfl⟩, ?_⟩
          conv => whnf
          refine ⟨⟨_, Cell.mk (mo.get hb (.inl (fun k => k))) rfl, rfl⟩, ?_⟩
          conv => whnf
          refine ⟨_, _, nB.1, SlIs.old nm mo (fun _ _ k => k), by rw [show (T.at_ 5).bytes = 1 from rfl]; omega, by omega, fun pB hB hs hm hf => ?_⟩
          obtain ⟨nB, nA, dis, mo⟩ := appD nB nA (dis_comm dis) mo hs hm hf
          have dis := dis_comm dis
          rw [Nat.zero_add, List.nil_append] at nB nA
          conv => whnf
          rw [show 0 + m = m from Nat.zero_add _]
          refine ⟨⟨⟨_, (hr.get mo).is⟩, j, rfl, hj, Nat.le_refl _, rfl⟩, ?_⟩
          conv => whnf
          refine ⟨⟨_, Cell.mk (mo.get hb (.inl (fun k => k))) rfl, rfl⟩, ?_⟩
          conv => whnf
          obtain ⟨nA, nB, mo⟩ := pushD (.row true 2 [i64 seq, .sl pB m]) nA nB mo
          rw [show 0 + (j - 0) = j - 0 from Nat.zero_add _]
          refine ⟨_, _, nA.1, (SlIs.row (n := 1) (sz := 2) (cs := [i64 seq, .sl pB m]) (H.obj_push_new _ _) rfl).weak, by rw [show (T.at_ 190).bytes = 32 from rfl]; omega, by omega, fun pC hC hs hm hf => ?_⟩
          obtain ⟨nA, nB, dis, mo⟩ := appD nA nB dis mo hs hm hf
          conv => whnf
          refine ⟨⟨⟨_, (hr.get mo).is⟩, j, rfl, hj, Nat.le_refl _, rfl⟩, ?_⟩
          conv => whnf
          refine ⟨⟨_, Cell.mk (mo.get hb (.inl (fun k => k))) rfl, rfl⟩, ?_⟩
          conv => whnf
          refine ⟨_, _, nA.1, (rd.get mo).is, by rw [show (T.at_ 190).bytes = 32 from rfl]; omega, by omega, fun pD hD hs hm hf => ?_⟩
          obtain ⟨nA, nB, dis, mo⟩ := appD nA nB dis mo hs hm hf
          conv => whnf
          refine ⟨_, _, mo.get hb (.inl (fun k => k)), Nat.le_of_ble_eq_true rfl, ?_⟩
          conv => whnf
          obtain ⟨X, hX⟩ : ∃ X, X = insS S seq (pB, body) := ⟨_, rfl⟩
          have el : j - 0 + 1 + (S.length - j) = X.length := by
            rw [hX, ← efin, List.length_append, List.length_cons, List.length_take, List.length_drop]
            omega
          have ef : (S.take j).flatMap eC ++ [i64 seq, .sl pB m] ++ (S.drop j).flatMap eC = X.flatMap eC := by
            rw [hX, ← efin, List.flatMap_append, List.flatMap_cons, List.append_assoc, hml]
            rfl
          rw [el, ef] at nA
          rw [el]
          have mS : Ab.Mod (one g) hD (hD.set g (.row true 3 [i64 W, i64 N, .sl pD X.length])) := Mod.set rfl (mo.get hb (.inl (fun k => k))) rfl
          have kg : ∀ i, one g i → i < hh.next := fun i hi => by
            have : i = g := hi
            omega
          have nA := NewSl.keep nA mS kg
          have nB := NewSl.keep nB mS kg
          have bx : (hD.set g (.row true 3 [i64 W, i64 N, .sl pD X.length])).obj g = some (.row true 3 [i64 W, i64 N, .sl pD X.length]) := H.obj_set_same (mo.get hb (.inl (fun k => k)))
          have mo : Ab.Mod (one g) hh (hD.set g (.row true 3 [i64 W, i64 N, .sl pD X.length])) := mo.trans' mS (fun _ _ k => k.elim) (fun _ _ k => k)
          have bx0 : (hD.set g (.row true 3 [i64 W, i64 N, .sl pD X.length])).obj g = some (.row true 3 [i64 W, i64 (N + ((0 : Nat) : Int)), .sl (slp pD (0 * 2)) (X.length - 0)]) := by
            rw [Nat.zero_mul, slp_zero, Nat.sub_zero, show N + ((0 : Nat) : Int) = N by omega]
            exact bx
          obtain ⟨h8, hh8⟩ : ∃ x, x = hD.set g (.row true 3 [i64 W, i64 N, .sl pD X.length]) := ⟨_, rfl⟩
          rw [← hh8] at nA nB bx mo
          have hXl : X.length ≤ 1001 := by
            rw [hX]
            have := insS_len seq (pB, body) S
            omega
          have hXN : ∀ x ∈ X, N ≤ x.1 → True := fun _ _ _ => trivial
          refine ⟨fun env hk => ∃ (k : Nat) (qq : Option (Nat × Nat)), k ≤ X.length ∧ chn N X = ((X.take k).map Prod.snd ++ (chn (N + (k : Int)) (X.drop k)).1, (chn (N + (k : Int)) (X.drop k)).2) ∧ hk.obj g = some (.row true 3 [i64 W, i64 (N + (k : Int)), .sl (slp pD (k * 2)) (X.length - k)]) ∧ NewSl h8 hk qq k 1 ((X.take k).flatMap fun x => slC x.2) ∧ Ab.Mod (one g) h8 hk ∧ env = [(9, .sl qq k), (0, .ptr (some (g, 0)))],
            fun env _ => match get env 9 with
              | .sl _ n => X.length - n
              | _ => 0, ⟨_, Forget.cons rfl (Forget.cons rfl (Forget.nil _)), 0, none, Nat.zero_le _, by simp, bx0, NewSl.nil _ _ _, by rw [hh8]; exact mod_refl _ _, rfl⟩, ?_⟩
          have hg8 : g < h8.next := h8.lt _ _ bx
          clear bx bx0 hh8
          rintro _ hk ⟨k, qq, hkX, hch, bx, nq, mk, rfl⟩
          conv => whnf
          refine ⟨[0, 1, 2, 3, 4, 5, 6, 7, 8, 9, 10, 11, 12, 13, 14, 15, 16, 17, 18, 19], [0, 1, 3, 7, 15, 31, 63, 127, 255, 511, 1023, 2047, 4095, 8191, 127, 16511, 49279, 114815, 262143, 524287], by kernel_rfl, ?_⟩
          conv => whnf
          refine ⟨_, Cell.mk bx rfl, ?_⟩
          conv => whnf
          have kg8 : ∀ i, one g i → i < h8.next := fun i hi => by
            have : i = g := hi
            omega
          have nA1 := NewSl.keep nA (S := one g) mk kg
          have nB1 := NewSl.keep nB (S := one g) mk kg
          have moK := mo.trans' mk (S2 := one g) (fun _ _ k => k) (fun _ _ k => k)
          have hsub := sub_is nA1.1 hkX
          have done : chn (N + (k : Int)) (X.drop k) = ([], N + (k : Int), X.drop k) → TakeR hh g W N S seq m body (.tup [.sl qq k, .bool true]) hk := fun e => by
            rw [e, List.append_nil] at hch
            exact .inr ⟨hmay, pB, pD, qq, k, X, hX, hkX, hch, rfl, bx, nA1, nB1, ⟨nq.1, fun i o e => Nat.le_trans mo.next (nq.2 i o e)⟩, moK⟩
          refine br_mk (fun hy => ?_) (fun hy => ?_)
          rotate_left
          · conv => whnf
            have hy : ¬ k < X.length := by
              have : ¬ ((X.length - k : Nat) : Int) > 0 := by simpa using hy
              omega
            exact done (chn_stop (.inl (by omega)) hkX)
          have hy : k < X.length := by
            have : ((X.length - k : Nat) : Int) > 0 := by simpa using hy
            omega
          conv => whnf
          refine ⟨_, Cell.mk bx rfl, ?_⟩
          conv => whnf
          have hdl : (X.drop k).length = X.length - k := List.length_drop
          have hd0 : 0 < (X.drop k).length := by omega
          have hX0 : (X.drop k)[0] = X[k] := by simp
          obtain ⟨i3, c3, w1, w2, w3⟩ := sls_get eC_len hsub hdl.symm hd0
          rw [hX0] at w3
          have v0 := w3 0 (i64 X[k].1) rfl
          have v1 := w3 1 (slV X[k].2) rfl
          refine ⟨i3, c3, 0, w1, rfl, by omega, ?_⟩
          conv => whnf
          refine ⟨_, v0, ?_⟩
          conv => whnf
          refine ⟨_, Cell.mk bx rfl, ?_⟩
          conv => whnf
          refine br_mk (fun hu => ?_) (fun hu => ?_)
          rotate_left
          · conv => whnf
            have hu : X[k].1 ≠ N + (k : Int) := by
              intro e
              rw [e] at hu
              simp at hu
            exact done (chn_stop (.inr ⟨hy, hu⟩) hkX)
          have hu : X[k].1 = N + (k : Int) := by simpa using hu
          conv => whnf
          refine ⟨_, Cell.mk bx rfl, ?_⟩
          conv => whnf
          refine ⟨i3, c3, 0, w1, rfl, by omega, ?_⟩
          conv => whnf
          refine ⟨_, v1, ?_⟩
          conv => whnf
          obtain ⟨y1, y2, y3⟩ := app1 nq mk (slC X[k].2) rfl
          refine ⟨_, _, y1, y2, by rw [show (T.at_ 38).bytes = 24 from rfl]; omega, by omega, fun pG hY hs2 hm2 hf2 => ?_⟩
          obtain ⟨nq2, mk2, my⟩ := y3 pG hY hs2 hm2 hf2
          have e6 : ((X.take k).flatMap fun x => slC x.2) ++ slC X[k].2 = (X.take (k + 1)).flatMap fun x => slC x.2 := by
            rw [List.take_succ_eq_append_getElem hy, List.flatMap_append]
            simp
          rw [e6] at nq2
          conv => whnf
          have bx2 := my.get bx (.inl (fun a => by
            obtain ⟨o, a⟩ := a
            have := nq.2 g o a
            omega))
          refine ⟨_, Cell.mk bx2 rfl, ?_⟩
          conv => whnf
          have hsub2 := sub_is (NewSl.keep nA (S := one g) mk2 kg).1 hkX
          refine ⟨⟨_, hsub2⟩, 1, rfl, by omega, Nat.le_refl _, ?_⟩
          conv => whnf
          refine ⟨_, _, bx2, Nat.le_of_ble_eq_true rfl, ?_⟩
          conv => whnf
          have bS1 : (hY.set g (.row true 3 [i64 W, i64 (N + (k : Int)), .sl (slp (slp pD (k * 2)) (1 * 2)) (X.length - k - 1)])).obj g = some (.row true 3 [i64 W, i64 (N + (k : Int)), .sl (slp (slp pD (k * 2)) (1 * 2)) (X.length - k - 1)]) := H.obj_set_same bx2
          have m1 : Ab.Mod (one g) hY (hY.set g (.row true 3 [i64 W, i64 (N + (k : Int)), .sl (slp (slp pD (k * 2)) (1 * 2)) (X.length - k - 1)])) := Mod.set rfl bx2 rfl
          have nq3 := NewSl.keep nq2 m1 kg8
          have mk3 := mk2.trans' m1 (S2 := one g) (fun _ _ k => k) (fun _ _ k => k)
          refine ⟨_, Cell.mk bS1 rfl, ?_⟩
          conv => whnf
          have hXS : (X.length : Int) ≤ 1001 := by omega
          have hwr : IntKind.i64.wrap (N + (k : Int) + 1) = N + ((k + 1 : Nat) : Int) := by rw [wrap_i64 (by omega) (by omega)]; omega
          rw [hwr]
          refine ⟨_, _, bS1, Nat.le_of_ble_eq_true rfl, ?_⟩
          conv => whnf
          obtain ⟨h9, hh9⟩ : ∃ x, x = hY.set g (.row true 3 [i64 W, i64 (N + (k : Int)), .sl (slp (slp pD (k * 2)) (1 * 2)) (X.length - k - 1)]) := ⟨_, rfl⟩
          rw [← hh9] at bS1 nq3 mk3
          have bS2 : (h9.set g (.row true 3 [i64 W, i64 (N + ((k + 1 : Nat) : Int)), .sl (slp (slp pD (k * 2)) (1 * 2)) (X.length - k - 1)])).obj g = some (.row true 3 [i64 W, i64 (N + ((k + 1 : Nat) : Int)), .sl (slp pD ((k + 1) * 2)) (X.length - (k + 1))]) := by
            rw [H.obj_set_same bS1, slp_slp, show k * 2 + 1 * 2 = (k + 1) * 2 by omega, show X.length - k - 1 = X.length - (k + 1) by omega]
          have m2 : Ab.Mod (one g) h9 (h9.set g (.row true 3 [i64 W, i64 (N + ((k + 1 : Nat) : Int)), .sl (slp (slp pD (k * 2)) (1 * 2)) (X.length - k - 1)])) := Mod.set rfl bS1 rfl
          have nq4 := NewSl.keep nq3 m2 kg8
          have mk4 := mk3.trans' m2 (S2 := one g) (fun _ _ k => k) (fun _ _ k => k)
          have hch2 : chn N X = ((X.take (k + 1)).map Prod.snd ++ (chn (N + ((k + 1 : Nat) : Int)) (X.drop (k + 1))).1, (chn (N + ((k + 1 : Nat) : Int)) (X.drop (k + 1))).2) := by
            rw [hch, chn_step hy hu, List.take_succ_eq_append_getElem hy, List.map_append, List.append_assoc]
            rfl
          subst hh9
          refine ⟨_, Forget.cons rfl (Forget.cons rfl (Forget.nil _)), ⟨k + 1, pG, hy, hch2, bS2, nq4, mk4, rfl⟩, ?_⟩
          show X.length - (k + 1) < X.length - k
          omega
      · conv => whnf
        refine ⟨[0, 2, 3, 4, 5, 6, 7, 9, 11, 16, 17, 18, 19, 20, 21, 10, 1, 8, 12, 13, 14, 15, 22, 23, 24, 25], [0, 1024, 0, 4, 12, 28, 0, 124, 1278, 0, 0, 0, 3582, 8190, 16382, 32766, 0, 65536, 196608, 458752, 0, 2031616, 4194302, 8388607, 16777215, 33554431], by kernel_rfl, ?_⟩
        conv => whnf
        refine ⟨_, Cell.mk hb rfl, ?_⟩
        conv => whnf
        refine ⟨⟨_, hr.is⟩, j, rfl, Nat.zero_le _, hj, ?_⟩
        conv => whnf
        refine ⟨_, Cell.mk hb rfl, ?_⟩
        conv => whnf
        refine ⟨⟨_, hr.is⟩, j, rfl, hj, Nat.le_refl _, ?_⟩
        conv => whnf
        have rt := ro_take eC_len hr hj
        have rd := ro_drop eC_len hr hj
        have mo := mod_refl none_ hh
        obtain ⟨nB, mo⟩ := new0 1 mo
        obtain ⟨nA, nB, dis, mo⟩ := new0d 2 nB mo
        refine ⟨_, _, nA.1, (rt.get mo).is, by rw [show (T.at_ 190).bytes = 32 from rfl]; omega, by omega, fun pA hA hs hm hf => ?_⟩
        obtain ⟨nA, nB, dis, mo⟩ := appD nA nB dis mo hs hm hf
        conv => whnf
        refine ⟨⟨⟨_, (hr.get mo).is⟩, j, rfl, hj, Nat.le_refl _, rfl⟩, ?_⟩
        conv => whnf
        refine ⟨⟨_, Cell.mk (mo.get hb (.inl (fun k => k))) rfl, rfl⟩, ?_⟩
        conv => whnf
        refine ⟨_, _, nB.1, SlIs.old nm mo (fun _ _ k => k), by rw [show (T.at_ 5).bytes = 1 from rfl]; omega, by omega, fun pB hB hs hm hf => ?_⟩
        obtain ⟨nB, nA, dis, mo⟩ := appD nB nA (dis_comm dis) mo hs hm hf
        have dis := dis_comm dis
        rw [Nat.zero_add, List.nil_append] at nB nA
        conv => whnf
        rw [show 0 + m = m from Nat.zero_add _]
        refine ⟨⟨⟨_, (hr.get mo).is⟩, j, rfl, hj, Nat.le_refl _, rfl⟩, ?_⟩
        conv => whnf
        refine ⟨⟨_, Cell.mk (mo.get hb (.inl (fun k => k))) rfl, rfl⟩, ?_⟩
        conv => whnf
        obtain ⟨nA, nB, mo⟩ := pushD (.row true 2 [i64 seq, .sl pB m]) nA nB mo
        rw [show 0 + (j - 0) = j - 0 from Nat.zero_add _]
        refine ⟨_, _, nA.1, (SlIs.row (n := 1) (sz := 2) (cs := [i64 seq, .sl pB m]) (H.obj_push_new _ _) rfl).weak, by rw [show (T.at_ 190).bytes = 32 from rfl]; omega, by omega, fun pC hC hs hm hf => ?_⟩
        obtain ⟨nA, nB, dis, mo⟩ := appD nA nB dis mo hs hm hf
        conv => whnf
        refine ⟨⟨⟨_, (hr.get mo).is⟩, j, rfl, hj, Nat.le_refl _, rfl⟩, ?_⟩
        conv => whnf
        refine ⟨⟨_, Cell.mk (mo.get hb (.inl (fun k => k))) rfl, rfl⟩, ?_⟩
        conv => whnf
        refine ⟨_, _, nA.1, (rd.get mo).is, by rw [show (T.at_ 190).bytes = 32 from rfl]; omega, by omega, fun pD hD hs hm hf => ?_⟩
        obtain ⟨nA, nB, dis, mo⟩ := appD nA nB dis mo hs hm hf
        conv => whnf
        refine ⟨_, _, mo.get hb (.inl (fun k => k)), Nat.le_of_ble_eq_true rfl, ?_⟩
        conv => whnf
        obtain ⟨X, hX⟩ : ∃ X, X = insS S seq (pB, body) := ⟨_, rfl⟩
        have el : j - 0 + 1 + (S.length - j) = X.length := by
          rw [hX, ← efin, List.length_append, List.length_cons, List.length_take, List.length_drop]
          omega
        have ef : (S.take j).flatMap eC ++ [i64 seq, .sl pB m] ++ (S.drop j).flatMap eC = X.flatMap eC := by
          rw [hX, ← efin, List.flatMap_append, List.flatMap_cons, List.append_assoc, hml]
          rfl
        rw [el, ef] at nA
        rw [el]
        have mS : Ab.Mod (one g) hD (hD.set g (.row true 3 [i64 W, i64 N, .sl pD X.length])) := Mod.set rfl (mo.get hb (.inl (fun k => k))) rfl
        have kg : ∀ i, one g i → i < hh.next := fun i hi => by
          have : i = g := hi
          omega
        have nA := NewSl.keep nA mS kg
        have nB := NewSl.keep nB mS kg
        have bx : (hD.set g (.row true 3 [i64 W, i64 N, .sl pD X.length])).obj g = some (.row true 3 [i64 W, i64 N, .sl pD X.length]) := H.obj_set_same (mo.get hb (.inl (fun k => k)))
        have mo : Ab.Mod (one g) hh (hD.set g (.row true 3 [i64 W, i64 N, .sl pD X.length])) := mo.trans' mS (fun _ _ k => k.elim) (fun _ _ k => k)
        have bx0 : (hD.set g (.row true 3 [i64 W, i64 N, .sl pD X.length])).obj g = some (.row true 3 [i64 W, i64 (N + ((0 : Nat) : Int)), .sl (slp pD (0 * 2)) (X.length - 0)]) := by
          rw [Nat.zero_mul, slp_zero, Nat.sub_zero, show N + ((0 : Nat) : Int) = N by omega]
          exact bx
        obtain ⟨h8, hh8⟩ : ∃ x, x = hD.set g (.row true 3 [i64 W, i64 N, .sl pD X.length]) := ⟨_, rfl⟩
        rw [← hh8] at nA nB bx mo
        have hXl : X.length ≤ 1001 := by
          rw [hX]
          have := insS_len seq (pB, body) S
          omega
        have hXN : ∀ x ∈ X, N ≤ x.1 → True := fun _ _ _ => trivial
        refine ⟨fun env hk => ∃ (k : Nat) (qq : Option (Nat × Nat)), k ≤ X.length ∧ chn N X = ((X.take k).map Prod.snd ++ (chn (N + (k : Int)) (X.drop k)).1, (chn (N + (k : Int)) (X.drop k)).2) ∧ hk.obj g = some (.row true 3 [i64 W, i64 (N + (k : Int)), .sl (slp pD (k * 2)) (X.length - k)]) ∧ NewSl h8 hk qq k 1 ((X.take k).flatMap fun x => slC x.2) ∧ Ab.Mod (one g) h8 hk ∧ env = [(9, .sl qq k), (0, .ptr (some (g, 0)))],
          fun env _ => match get env 9 with
            | .sl _ n => X.length - n
            | _ => 0, ⟨_, Forget.cons rfl (Forget.cons rfl (Forget.nil _)), 0, none, Nat.zero_le _, by simp, bx0, NewSl.nil _ _ _, by rw [hh8]; exact mod_refl _ _, rfl⟩, ?_⟩
        have hg8 : g < h8.next := h8.lt _ _ bx
        clear bx bx0 hh8
        rintro _ hk ⟨k, qq, hkX, hch, bx, nq, mk, rfl⟩
        conv => whnf
        refine ⟨[0, 1, 2, 3, 4, 5, 6, 7, 8, 9, 10, 11, 12, 13, 14, 15, 16, 17, 18, 19], [0, 1, 3, 7, 15, 31, 63, 127, 255, 511, 1023, 2047, 4095, 8191, 127, 16511, 49279, 114815, 262143, 524287], by kernel_rfl, ?_⟩
        conv => whnf
        refine ⟨_, Cell.mk bx rfl, ?_⟩
        conv => whnf
        have kg8 : ∀ i, one g i → i < h8.next := fun i hi => by
          have : i = g := hi
          omega
        have nA1 := NewSl.keep nA (S := one g) mk kg
        have nB1 := NewSl.keep nB (S := one g) mk kg
        have moK := mo.trans' mk (S2 := one g) (fun _ _ k => k) (fun _ _ k => k)
        have hsub := sub_is nA1.1 hkX
        have done : chn (N + (k : Int)) (X.drop k) = ([], N + (k : Int), X.drop k) → TakeR hh g W N S seq m body (.tup [.sl qq k, .bool true]) hk := fun e => by
          rw [e, List.append_nil] at hch
          exact .inr ⟨hmay, pB, pD, qq, k, X, hX, hkX, hch, rfl, bx, nA1, nB1, ⟨nq.1, fun i o e => Nat.le_trans mo.next (nq.2 i o e)⟩, moK⟩
        refine br_mk (fun hy => ?_) (fun hy => ?_)
        rotate_left
        · conv => whnf
          have hy : ¬ k < X.length := by
            have : ¬ ((X.length - k : Nat) : Int) > 0 := by simpa using hy
            omega
          exact done (chn_stop (.inl (by omega)) hkX)
        have hy : k < X.length := by
          have : ((X.length - k : Nat) : Int) > 0 := by simpa using hy
          omega
        conv => whnf
        refine ⟨_, Cell.mk bx rfl, ?_⟩
        conv => whnf
        have hdl : (X.drop k).length = X.length - k := List.length_drop
        have hd0 : 0 < (X.drop k).length := by omega
        have hX0 : (X.drop k)[0] = X[k] := by simp
        obtain ⟨i3, c3, w1, w2, w3⟩ := sls_get eC_len hsub hdl.symm hd0
        rw [hX0] at w3
        have v0 := w3 0 (i64 X[k].1) rfl
        have v1 := w3 1 (slV X[k].2) rfl
        refine ⟨i3, c3, 0, w1, rfl, by omega, ?_⟩
        conv => whnf
        refine ⟨_, v0, ?_⟩
        conv => whnf
        refine ⟨_, Cell.mk bx rfl, ?_⟩
        conv => whnf
        refine br_mk (fun hu => ?_) (fun hu => ?_)
        rotate_left
        · conv => whnf
          have hu : X[k].1 ≠ N + (k : Int) := by
            intro e
            rw [e] at hu
            simp at hu
          exact done (chn_stop (.inr ⟨hy, hu⟩) hkX)
        have hu : X[k].1 = N + (k : Int) := by simpa using hu
        conv => whnf
        refine ⟨_, Cell.mk bx rfl, ?_⟩
        conv => whnf
        refine ⟨i3, c3, 0, w1, rfl, by omega, ?_⟩
        conv => whnf
        refine ⟨_, v1, ?_⟩
        conv => whnf
        obtain ⟨y1, y2, y3⟩ := app1 nq mk (slC X[k].2) rfl
        refine ⟨_, _, y1, y2, by rw [show (T.at_ 38).bytes = 24 from rfl]; omega, by omega, fun pG hY hs2 hm2 hf2 => ?_⟩
        obtain ⟨nq2, mk2, my⟩ := y3 pG hY hs2 hm2 hf2
        have e6 : ((X.take k).flatMap fun x => slC x.2) ++ slC X[k].2 = (X.take (k + 1)).flatMap fun x => slC x.2 := by
          rw [List.take_succ_eq_append_getElem hy, List.flatMap_append]
          simp
        rw [e6] at nq2
        conv => whnf
        have bx2 := my.get bx (.inl (fun a => by
          obtain ⟨o, a⟩ := a
          have := nq.2 g o a
          omega))
        refine ⟨_, Cell.mk bx2 rfl, ?_⟩
        conv => whnf
        have hsub2 := sub_is (NewSl.keep nA (S := one g) mk2 kg).1 hkX
        refine ⟨⟨_, hsub2⟩, 1, rfl, by omega, Nat.le_refl _, ?_⟩
        conv => whnf
        refine ⟨_, _, bx2, Nat.le_of_ble_eq_true rfl, ?_⟩
        conv => whnf
        have bS1 : (hY.set g (.row true 3 [i64 W, i64 (N + (k : Int)), .sl (slp (slp pD (k * 2)) (1 * 2)) (X.length - k - 1)])).obj g = some (.row true 3 [i64 W, i64 (N + (k : Int)), .sl (slp (slp pD (k * 2)) (1 * 2)) (X.length - k - 1)]) := H.obj_set_same bx2
        have m1 : Ab.Mod (one g) hY (hY.set g (.row true 3 [i64 W, i64 (N + (k : Int)), .sl (slp (slp pD (k * 2)) (1 * 2)) (X.length - k - 1)])) := Mod.set rfl bx2 rfl
        have nq3 := NewSl.keep nq2 m1 kg8
        have mk3 := mk2.trans' m1 (S2 := one g) (fun _ _ k => k) (fun _ _ k => k)
        refine ⟨_, Cell.mk bS1 rfl, ?_⟩
        conv => whnf
        have hXS : (X.length : Int) ≤ 1001 := by omega
        have hwr : IntKind.i64.wrap (N + (k : Int) + 1) = N + ((k + 1 : Nat) : Int) := by rw [wrap_i64 (by omega) (by omega)]; omega
        rw [hwr]
        refine ⟨_, _, bS1, Nat.le_of_ble_eq_true rfl, ?_⟩
        conv => whnf
        obtain ⟨h9, hh9⟩ : ∃ x, x = hY.set g (.row true 3 [i64 W, i64 (N + (k : Int)), .sl (slp (slp pD (k * 2)) (1 * 2)) (X.length - k - 1)]) := ⟨_, rfl⟩
        rw [← hh9] at bS1 nq3 mk3
        have bS2 : (h9.set g (.row true 3 [i64 W, i64 (N + ((k + 1 : Nat) : Int)), .sl (slp (slp pD (k * 2)) (1 * 2)) (X.length - k - 1)])).obj g = some (.row true 3 [i64 W, i64 (N + ((k + 1 : Nat) : Int)), .sl (slp pD ((k + 1) * 2)) (X.length - (k + 1))]) := by
          rw [H.obj_set_same bS1, slp_slp, show k * 2 + 1 * 2 = (k + 1) * 2 by omega, show X.length - k - 1 = X.length - (k + 1) by omega]
        have m2 : Ab.Mod (one g) h9 (h9.set g (.row true 3 [i64 W, i64 (N + ((k + 1 : Nat) : Int)), .sl (slp (slp pD (k * 2)) (1 * 2)) (X.length - k - 1)])) := Mod.set rfl bS1 rfl
        have nq4 := NewSl.keep nq3 m2 kg8
        have mk4 := mk3.trans' m2 (S2 := one g) (fun _ _ k => k) (fun _ _ k => k)
        have hch2 : chn N X = ((X.take (k + 1)).map Prod.snd ++ (chn (N + ((k + 1 : Nat) : Int)) (X.drop (k + 1))).1, (chn (N + ((k + 1 : Nat) : Int)) (X.drop (k + 1))).2) := by
          rw [hch, chn_step hy hu, List.take_succ_eq_append_getElem hy, List.map_append, List.append_assoc]
          rfl
        subst hh9
        refine ⟨_, Forget.cons rfl (Forget.cons rfl (Forget.nil _)), ⟨k + 1, pG, hy, hch2, bS2, nq4, mk4, rfl⟩, ?_⟩
        show X.length - (k + 1) < X.length - k
        omega
  · have hd : ¬ j < S.length := by simpa using hd
    have hjS : j = S.length := by omega
    have hne : ∀ p ∈ S, p.1 ≠ seq := fun x hx2 => by
      obtain ⟨k, hk, rfl⟩ := List.getElem_of_mem hx2
      have := hall k hk (by omega)
      omega
    have hmay := may (sget_none.2 (fun k => by
      obtain ⟨x, hx2, e⟩ := List.mem_map.1 k
      exact hne x hx2 e))
    have efin := fun v => ins_atE ha hne v hj hall (.inl hjS)
    conv => whnf
    refine ⟨_, Cell.mk hb rfl, ?_⟩
    conv => whnf
    refine br_mk (fun hd2 => ?_) (fun hd2 => ?_)
    · have : (j : Int) < S.length := by simpa using hd2
      omega
    conv => whnf
    refine ⟨[], [1, 10], rfl, ?_, ?_⟩
    · conv => whnf
      refine ⟨[], [8, 10], rfl, ?_, ?_⟩
      · conv => whnf
        refine ⟨[0, 2, 3, 4, 5, 6, 7, 9, 11, 16, 17, 18, 19, 20, 21, 1, 8, 10, 12, 13, 14, 15, 22, 23, 24, 25], [0, 0, 0, 4, 12, 28, 0, 124, 254, 0, 510, 0, 3582, 8190, 16382, 32766, 0, 65536, 196608, 458752, 0, 2031616, 4194302, 8388607, 16777215, 33554431], by kernel_rfl, ?_⟩
        conv => whnf
        refine ⟨_, Cell.mk hb rfl, ?_⟩
        conv => whnf
        refine ⟨⟨_, hr.is⟩, j, rfl, Nat.zero_le _, hj, ?_⟩
        conv => whnf
        refine ⟨_, Cell.mk hb rfl, ?_⟩
        conv => whnf
        refine ⟨⟨_, hr.is⟩, j, rfl, hj, Nat.le_refl _, ?_⟩
        conv => whnf
        have rt := ro_take eC_len hr hj
        have rd := ro_drop eC_len hr hj
        have mo := mod_refl none_ hh
        obtain ⟨nA, mo⟩ := new0 2 mo
        refine ⟨_, _, nA.1, (rt.get mo).is, by rw [show (T.at_ 190).bytes = 32 from rfl]; omega, by omega, fun pA hA hs hm hf => ?_⟩
        obtain ⟨nA, mo⟩ := appN nA mo pA hA hs hm hf
        conv => whnf
        refine ⟨⟨⟨_, (hr.get mo).is⟩, j, rfl, hj, Nat.le_refl _, rfl⟩, ?_⟩
        conv => whnf
        refine ⟨⟨_, Cell.mk (mo.get hb (.inl (fun k => k))) rfl, rfl⟩, ?_⟩
        conv => whnf
        obtain ⟨nB, nA, dis, mo⟩ := new0d 1 nA mo
        have dis := dis_comm dis
        refine ⟨_, _, nB.1, SlIs.old nm mo (fun _ _ k => k), by rw [show (T.at_ 5).bytes = 1 from rfl]; omega, by omega, fun pB hB hs hm hf => ?_⟩
        obtain ⟨nB, nA, dis, mo⟩ := appD nB nA (dis_comm dis) mo hs hm hf
        have dis := dis_comm dis
        rw [Nat.zero_add, List.nil_append] at nB nA
        conv => whnf
        rw [show 0 + m = m from Nat.zero_add _]
        refine ⟨⟨⟨_, (hr.get mo).is⟩, j, rfl, hj, Nat.le_refl _, rfl⟩, ?_⟩
        conv => whnf
        refine ⟨⟨_, Cell.mk (mo.get hb (.inl (fun k => k))) rfl, rfl⟩, ?_⟩
        conv => whnf
        obtain ⟨nA, nB, mo⟩ := pushD (.row true 2 [i64 seq, .sl pB m]) nA nB mo
        rw [show 0 + (j - 0) = j - 0 from Nat.zero_add _]
        refine ⟨_, _, nA.1, (SlIs.row (n := 1) (sz := 2) (cs := [i64 seq, .sl pB m]) (H.obj_push_new _ _) rfl).weak, by rw [show (T.at_ 190).bytes = 32 from rfl]; omega, by omega, fun pC hC hs hm hf => ?_⟩
        obtain ⟨nA, nB, dis, mo⟩ := appD nA nB dis mo hs hm hf
        conv => whnf
        refine ⟨⟨⟨_, (hr.get mo).is⟩, j, rfl, hj, Nat.le_refl _, rfl⟩, ?_⟩
        conv => whnf
        refine ⟨⟨_, Cell.mk (mo.get hb (.inl (fun k => k))) rfl, rfl⟩, ?_⟩
        conv => whnf
        refine ⟨_, _, nA.1, (rd.get mo).is, by rw [show (T.at_ 190).bytes = 32 from rfl]; omega, by omega, fun pD hD hs hm hf => ?_⟩
        obtain ⟨nA, nB, dis, mo⟩ := appD nA nB dis mo hs hm hf
        conv => whnf
        refine ⟨_, _, mo.get hb (.inl (fun k => k)), Nat.le_of_ble_eq_true rfl, ?_⟩
        conv => whnf
        obtain ⟨X, hX⟩ : ∃ X, X = insS S seq (pB, body) := ⟨_, rfl⟩
        have el : j - 0 + 1 + (S.length - j) = X.length := by
          rw [hX, ← efin, List.length_append, List.length_cons, List.length_take, List.length_drop]
          omega
        have ef : (S.take j).flatMap eC ++ [i64 seq, .sl pB m] ++ (S.drop j).flatMap eC = X.flatMap eC := by
          rw [hX, ← efin, List.flatMap_append, List.flatMap_cons, List.append_assoc, hml]
          rfl
        rw [el, ef] at nA
        rw [el]
        have mS : Ab.Mod (one g) hD (hD.set g (.row true 3 [i64 W, i64 N, .sl pD X.length])) := Mod.set rfl (mo.get hb (.inl (fun k => k))) rfl
        have kg : ∀ i, one g i → i < hh.next := fun i hi => by
          have : i = g := hi
          omega
        have nA := NewSl.keep nA mS kg
        have nB := NewSl.keep nB mS kg
        have bx : (hD.set g (.row true 3 [i64 W, i64 N, .sl pD X.length])).obj g = some (.row true 3 [i64 W, i64 N, .sl pD X.length]) := H.obj_set_same (mo.get hb (.inl (fun k => k)))
        have mo : Ab.Mod (one g) hh (hD.set g (.row true 3 [i64 W, i64 N, .sl pD X.length])) := mo.trans' mS (fun _ _ k => k.elim) (fun _ _ k => k)
        have bx0 : (hD.set g (.row true 3 [i64 W, i64 N, .sl pD X.length])).obj g = some (.row true 3 [i64 W, i64 (N + ((0 : Nat) : Int)), .sl (slp pD (0 * 2)) (X.length - 0)]) := by
          rw [Nat.zero_mul, slp_zero, Nat.sub_zero, show N + ((0 : Nat) : Int) = N by omega]
          exact bx
        obtain ⟨h8, hh8⟩ : ∃ x, x = hD.set g (.row true 3 [i64 W, i64 N, .sl pD X.length]) := ⟨_, rfl⟩
        rw [← hh8] at nA nB bx mo
        have hXl : X.length ≤ 1001 := by
          rw [hX]
          have := insS_len seq (pB, body) S
          omega
        have hXN : ∀ x ∈ X, N ≤ x.1 → True := fun _ _ _ => trivial
        refine ⟨fun env hk => ∃ (k : Nat) (qq : Option (Nat × Nat)), k ≤ X.length ∧ chn N X = ((X.take k).map Prod.snd ++ (chn (N + (k : Int)) (X.drop k)).1, (chn (N + (k : Int)) (X.drop k)).2) ∧ hk.obj g = some (.row true 3 [i64 W, i64 (N + (k : Int)), .sl (slp pD (k * 2)) (X.length - k)]) ∧ NewSl h8 hk qq k 1 ((X.take k).flatMap fun x => slC x.2) ∧ Ab.Mod (one g) h8 hk ∧ env = [(9, .sl qq k), (0, .ptr (some (g, 0)))],
          fun env _ => match get env 9 with
            | .sl _ n => X.length - n
            | _ => 0, ⟨_, Forget.cons rfl (Forget.cons rfl (Forget.nil _)), 0, none, Nat.zero_le _, by simp, bx0, NewSl.nil _ _ _, by rw [hh8]; exact mod_refl _ _, rfl⟩, ?_⟩
        have hg8 : g < h8.next := h8.lt _ _ bx
        clear bx bx0 hh8
        rintro _ hk ⟨k, qq, hkX, hch, bx, nq, mk, rfl⟩
        conv => whnf
        refine ⟨[0, 1, 2, 3, 4, 5, 6, 7, 8, 9, 10, 11, 12, 13, 14, 15, 16, 17, 18, 19], [0, 1, 3, 7, 15, 31, 63, 127, 255, 511, 1023, 2047, 4095, 8191, 127, 16511, 49279, 114815, 262143, 524287], by kernel_rfl, ?_⟩
        conv => whnf
        refine ⟨_, Cell.mk bx rfl, ?_⟩
        conv => whnf
        have kg8 : ∀ i, one g i → i < h8.next := fun i hi => by
          have : i = g := hi
          omega
        have nA1 := NewSl.keep nA (S := one g) mk kg
        have nB1 := NewSl.keep nB (S := one g) mk kg
        have moK := mo.trans' mk (S2 := one g) (fun _ _ k => k) (fun _ _ k => k)
        have hsub := sub_is nA1.1 hkX
        have done : chn (N + (k : Int)) (X.drop k) = ([], N + (k : Int), X.drop k) → TakeR hh g W N S seq m body (.tup [.sl qq k, .bool true]) hk := fun e => by
          rw [e, List.append_nil] at hch
          exact .inr ⟨hmay, pB, pD, qq, k, X, hX, hkX, hch, rfl, bx, nA1, nB1, ⟨nq.1, fun i o e => Nat.le_trans mo.next (nq.2 i o e)⟩, moK⟩
        refine br_mk (fun hy => ?_) (fun hy => ?_)
        rotate_left
        · conv => whnf
          have hy : ¬ k < X.length := by
            have : ¬ ((X.length - k : Nat) : Int) > 0 := by simpa using hy
            omega
          exact done (chn_stop (.inl (by omega)) hkX)
        have hy : k < X.length := by
          have : ((X.length - k : Nat) : Int) > 0 := by simpa using hy
          omega
        conv => whnf
        refine ⟨_, Cell.mk bx rfl, ?_⟩
        conv => whnf
        have hdl : (X.drop k).length = X.length - k := List.length_drop
        have hd0 : 0 < (X.drop k).length := by omega
        have hX0 : (X.drop k)[0] = X[k] := by simp
        obtain ⟨i3, c3, w1, w2, w3⟩ := sls_get eC_len hsub hdl.symm hd0
        rw [hX0] at w3
        have v0 := w3 0 (i64 X[k].1) rfl
        have v1 := w3 1 (slV X[k].2) rfl
        refine ⟨i3, c3, 0, w1, rfl, by omega, ?_⟩
        conv => whnf
        refine ⟨_, v0, ?_⟩
        conv => whnf
        refine ⟨_, Cell.mk bx rfl, ?_⟩
        conv => whnf
        refine br_mk (fun hu => ?_) (fun hu => ?_)
        rotate_left
        · conv => whnf
          have hu : X[k].1 ≠ N + (k : Int) := by
            intro e
            rw [e] at hu
            simp at hu
          exact done (chn_stop (.inr ⟨hy, hu⟩) hkX)
        have hu : X[k].1 = N + (k : Int) := by simpa using hu
        conv => whnf
        refine ⟨_, Cell.mk bx rfl, ?_⟩
        conv => whnf
        refine ⟨i3, c3, 0, w1, rfl, by omega, ?_⟩
        conv => whnf
        refine ⟨_, v1, ?_⟩
        conv => whnf
        obtain ⟨y1, y2, y3⟩ := app1 nq mk (slC X[k].2) rfl
        refine ⟨_, _, y1, y2, by rw [show (T.at_ 38).bytes = 24 from rfl]; omega, by omega, fun pG hY hs2 hm2 hf2 => ?_⟩
        obtain ⟨nq2, mk2, my⟩ := y3 pG hY hs2 hm2 hf2
        have e6 : ((X.take k).flatMap fun x => slC x.2) ++ slC X[k].2 = (X.take (k + 1)).flatMap fun x => slC x.2 := by
          rw [List.take_succ_eq_append_getElem hy, List.flatMap_append]
          simp
        rw [e6] at nq2
        conv => whnf
        have bx2 := my.get bx (.inl (fun a => by
          obtain ⟨o, a⟩ := a
          have := nq.2 g o a
          omega))
        refine ⟨_, Cell.mk bx2 rfl, ?_⟩
        conv => whnf
        have hsub2 := sub_is (NewSl.keep nA (S := one g) mk2 kg).1 hkX
        refine ⟨⟨_, hsub2⟩, 1, rfl, by omega, Nat.le_refl _, ?_⟩
        conv => whnf
        refine ⟨_, _, bx2, Nat.le_of_ble_eq_true rfl, ?_⟩
        conv => whnf
        have bS1 : (hY.set g (.row true 3 [i64 W, i64 (N + (k : Int)), .sl (slp (slp pD (k * 2)) (1 * 2)) (X.length - k - 1)])).obj g = some (.row true 3 [i64 W, i64 (N + (k : Int)), .sl (slp (slp pD (k * 2)) (1 * 2)) (X.length - k - 1)]) := H.obj_set_same bx2
        have m1 : Ab.Mod (one g) hY (hY.set g (.row true 3 [i64 W, i64 (N + (k : Int)), .sl (slp (slp pD (k * 2)) (1 * 2)) (X.length - k - 1)])) := Mod.set rfl bx2 rfl
        have nq3 := NewSl.keep nq2 m1 kg8
        have mk3 := mk2.trans' m1 (S2 := one g) (fun _ _ k => k) (fun _ _ k => k)
        refine ⟨_, Cell.mk bS1 rfl, ?_⟩
        conv => whnf
        have hXS : (X.length : Int) ≤ 1001 := by omega
        have hwr : IntKind.i64.wrap (N + (k : Int) + 1) = N + ((k + 1 : Nat) : Int) := by rw [wrap_i64 (by omega) (by omega)]; omega
        rw [hwr]
        refine ⟨_, _, bS1, Nat.le_of_ble_eq_true rfl, ?_⟩
        conv => whnf
        obtain ⟨h9, hh9⟩ : ∃ x, x = hY.set g (.row true 3 [i64 W, i64 (N + (k : Int)), .sl (slp (slp pD (k * 2)) (1 * 2)) (X.length - k - 1)]) := ⟨_, rfl⟩
        rw [← hh9] at bS1 nq3 mk3
        have bS2 : (h9.set g (.row true 3 [i64 W, i64 (N + ((k + 1 : Nat) : Int)), .sl (slp (slp pD (k * 2)) (1 * 2)) (X.length - k - 1)])).obj g = some (.row true 3 [i64 W, i64 (N + ((k + 1 : Nat) : Int)), .sl (slp pD ((k + 1) * 2)) (X.length - (k + 1))]) := by
          rw [H.obj_set_same bS1, slp_slp, show k * 2 + 1 * 2 = (k + 1) * 2 by omega, show X.length - k - 1 = X.length - (k + 1) by omega]
        have m2 : Ab.Mod (one g) h9 (h9.set g (.row true 3 [i64 W, i64 (N + ((k + 1 : Nat) : Int)), .sl (slp (slp pD (k * 2)) (1 * 2)) (X.length - k - 1)])) := Mod.set rfl bS1 rfl
        have nq4 := NewSl.keep nq3 m2 kg8
        have mk4 := mk3.trans' m2 (S2 := one g) (fun _ _ k => k) (fun _ _ k => k)
        have hch2 : chn N X = ((X.take (k + 1)).map Prod.snd ++ (chn (N + ((k + 1 : Nat) : Int)) (X.drop (k + 1))).1, (chn (N + ((k + 1 : Nat) : Int)) (X.drop (k + 1))).2) := by
          rw [hch, chn_step hy hu, List.take_succ_eq_append_getElem hy, List.map_append, List.append_assoc]
          rfl
        subst hh9
        refine ⟨_, Forget.cons rfl (Forget.cons rfl (Forget.nil _)), ⟨k + 1, pG, hy, hch2, bS2, nq4, mk4, rfl⟩, ?_⟩
        show X.length - (k + 1) < X.length - k
        omega
      · conv => whnf
        refine ⟨[0, 2, 3, 4, 5, 6, 7, 9, 11, 16, 17, 18, 19, 20, 21, 1, 10, 8, 12, 13, 14, 15, 22, 23, 24, 25], [0, 0, 0, 4, 12, 28, 0, 124, 1278, 0, 2, 0, 3582, 8190, 16382, 32766, 0, 65536, 196608, 458752, 0, 2031616, 4194302, 8388607, 16777215, 33554431], by kernel_rfl, ?_⟩
        conv => whnf
        refine ⟨_, Cell.mk hb rfl, ?_⟩
        conv => whnf
        refine ⟨⟨_, hr.is⟩, j, rfl, Nat.zero_le _, hj, ?_⟩
        conv => whnf
        refine ⟨_, Cell.mk hb rfl, ?_⟩
        conv => whnf
        refine ⟨⟨_, hr.is⟩, j, rfl, hj, Nat.le_refl _, ?_⟩
        conv => whnf
        have rt := ro_take eC_len hr hj
        have rd := ro_drop eC_len hr hj
        have mo := mod_refl none_ hh
        obtain ⟨nA, mo⟩ := new0 2 mo
        obtain ⟨nB, nA, dis, mo⟩ := new0d 1 nA mo
        have dis := dis_comm dis
        refine ⟨_, _, nA.1, (rt.get mo).is, by rw [show (T.at_ 190).bytes = 32 from rfl]; omega, by omega, fun pA hA hs hm hf => ?_⟩
        obtain ⟨nA, nB, dis, mo⟩ := appD nA nB dis mo hs hm hf
        conv => whnf
        refine ⟨⟨⟨_, (hr.get mo).is⟩, j, rfl, hj, Nat.le_refl _, rfl⟩, ?_⟩
        conv => whnf
        refine ⟨⟨_, Cell.mk (mo.get hb (.inl (fun k => k))) rfl, rfl⟩, ?_⟩
        conv => whnf
        refine ⟨_, _, nB.1, SlIs.old nm mo (fun _ _ k => k), by rw [show (T.at_ 5).bytes = 1 from rfl]; omega, by omega, fun pB hB hs hm hf => ?_⟩
        obtain ⟨nB, nA, dis, mo⟩ := appD nB nA (dis_comm dis) mo hs hm hf
        have dis := dis_comm dis
        rw [Nat.zero_add, List.nil_append] at nB nA
        conv => whnf
        rw [show 0 + m = m from Nat.zero_add _]
        refine ⟨⟨⟨_, (hr.get mo).is⟩, j, rfl, hj, Nat.le_refl _, rfl⟩, ?_⟩
        conv => whnf
        refine ⟨⟨_, Cell.mk (mo.get hb (.inl (fun k => k))) rfl, rfl⟩, ?_⟩
        conv => whnf
        obtain ⟨nA, nB, mo⟩ := pushD (.row true 2 [i64 seq, .sl pB m]) nA nB mo
        rw [show 0 + (j - 0) = j - 0 from Nat.zero_add _]
        refine ⟨_, _, nA.1, (SlIs.row (n := 1) (sz := 2) (cs := [i64 seq, .sl pB m]) (H.obj_push_new _ _) rfl).weak, by rw [show (T.at_ 190).bytes = 32 from rfl]; omega, by omega, fun pC hC hs hm hf => ?_⟩
        obtain ⟨nA, nB, dis, mo⟩ := appD nA nB dis mo hs hm hf
        conv => whnf
        refine ⟨⟨⟨_, (hr.get mo).is⟩, j, rfl, hj, Nat.le_refl _, rfl⟩, ?_⟩
        conv => whnf
        refine ⟨⟨_, Cell.mk (mo.get hb (.inl (fun k => k))) rfl, rfl⟩, ?_⟩
        conv => whnf
        refine ⟨_, _, nA.1, (rd.get mo).is, by rw [show (T.at_ 190).bytes = 32 from rfl]; omega, by omega, fun pD hD hs hm hf => ?_⟩
        obtain ⟨nA, nB, dis, mo⟩ := appD nA nB dis mo hs hm hf
        conv => whnf
        refine ⟨_, _, mo.get hb (.inl (fun k => k)), Nat.le_of_ble_eq_true rfl, ?_⟩
        conv => whnf
        obtain ⟨X, hX⟩ : ∃ X, X = insS S seq (pB, body) := ⟨_, rfl⟩
        have el : j - 0 + 1 + (S.length - j) = X.length := by
          rw [hX, ← efin, List.length_append, List.length_cons, List.length_take, List.length_drop]
          omega
        have ef : (S.take j).flatMap eC ++ [i64 seq, .sl pB m] ++ (S.drop j).flatMap eC = X.flatMap eC := by
          rw [hX, ← efin, List.flatMap_append, List.flatMap_cons, List.append_assoc, hml]
          rfl
        rw [el, ef] at nA
        rw [el]
        have mS : Ab.Mod (one g) hD (hD.set g (.row true 3 [i64 W, i64 N, .sl pD X.length])) := Mod.set rfl (mo.get hb (.inl (fun k => k))) rfl
        have kg : ∀ i, one g i → i < hh.next := fun i hi => by
          have : i = g := hi
          omega
        have nA := NewSl.keep nA mS kg
        have nB := NewSl.keep nB mS kg
        have bx : (hD.set g (.row true 3 [i64 W, i64 N, .sl pD X.length])).obj g = some (.row true 3 [i64 W, i64 N, .sl pD X.length]) := H.obj_set_same (mo.get hb (.inl (fun k => k)))
        have mo : Ab.Mod (one g) hh (hD.set g (.row true 3 [i64 W, i64 N, .sl pD X.length])) := mo.trans' mS (fun _ _ k => k.elim) (fun _ _ k => k)
        have bx0 : (hD.set g (.row true 3 [i64 W, i64 N, .sl pD X.length])).obj g = some (.row true 3 [i64 W, i64 (N + ((0 : Nat) : Int)), .sl (slp pD (0 * 2)) (X.length - 0)]) := by
          rw [Nat.zero_mul, slp_zero, Nat.sub_zero, show N + ((0 : Nat) : Int) = N by omega]
          exact bx
        obtain ⟨h8, hh8⟩ : ∃ x, x = hD.set g (.row true 3 [i64 W, i64 N, .sl pD X.length]) := ⟨_, rfl⟩
        rw [← hh8] at nA nB bx mo
        have hXl : X.length ≤ 1001 := by
          rw [hX]
          have := insS_len seq (pB, body) S
          omega
        have hXN : ∀ x ∈ X, N ≤ x.1 → True := fun _ _ _ => trivial
        refine ⟨fun env hk => ∃ (k : Nat) (qq : Option (Nat × Nat)), k ≤ X.length ∧ chn N X = ((X.take k).map Prod.snd ++ (chn (N + (k : Int)) (X.drop k)).1, (chn (N + (k : Int)) (X.drop k)).2) ∧ hk.obj g = some (.row true 3 [i64 W, i64 (N + (k : Int)), .sl (slp pD (k * 2)) (X.length - k)]) ∧ NewSl h8 hk qq k 1 ((X.take k).flatMap fun x => slC x.2) ∧ Ab.Mod (one g) h8 hk ∧ env = [(9, .sl qq k), (0, .ptr (some (g, 0)))],
          fun env _ => match get env 9 with
            | .sl _ n => X.length - n
            | _ => 0, ⟨_, Forget.cons rfl (Forget.cons rfl (Forget.nil _)), 0, none, Nat.zero_le _, by simp, bx0, NewSl.nil _ _ _, by rw [hh8]; exact mod_refl _ _, rfl⟩, ?_⟩
        have hg8 : g < h8.next := h8.lt _ _ bx
        clear bx bx0 hh8
        rintro _ hk ⟨k, qq, hkX, hch, bx, nq, mk, rfl⟩
        conv => whnf
        refine ⟨[0, 1, 2, 3, 4, 5, 6, 7, 8, 9, 10, 11, 12, 13, 14, 15, 16, 17, 18, 19], [0, 1, 3, 7, 15, 31, 63, 127, 255, 511, 1023, 2047, 4095, 8191, 127, 16511, 49279, 114815, 262143, 524287], by kernel_rfl, ?_⟩
        conv => whnf
        refine ⟨_, Cell.mk bx rfl, ?_⟩
        conv => whnf
        have kg8 : ∀ i, one g i → i < h8.next := fun i hi => by
          have : i = g := hi
          omega
        have nA1 := NewSl.keep nA (S := one g) mk kg
        have nB1 := NewSl.keep nB (S := one g) mk kg
        have moK := mo.trans' mk (S2 := one g) (fun _ _ k => k) (fun _ _ k => k)
        have hsub := sub_is nA1.1 hkX
        have done : chn (N + (k : Int)) (X.drop k) = ([], N + (k : Int), X.drop k) → TakeR hh g W N S seq m body (.tup [.sl qq k, .bool true]) hk := fun e => by
          rw [e, List.append_nil] at hch
          exact .inr ⟨hmay, pB, pD, qq, k, X, hX, hkX, hch, rfl, bx, nA1, nB1, ⟨nq.1, fun i o e => Nat.le_trans mo.next (nq.2 i o e)⟩, moK⟩
        refine br_mk (fun hy => ?_) (fun hy => ?_)
        rotate_left
        · conv => whnf
          have hy : ¬ k < X.length := by
            have : ¬ ((X.length - k : Nat) : Int) > 0 := by simpa using hy
            omega
          exact done (chn_stop (.inl (by omega)) hkX)
        have hy : k < X.length := by
          have : ((X.length - k : Nat) : Int) > 0 := by simpa using hy
          omega
        conv => whnf
        refine ⟨_, Cell.mk bx rfl, ?_⟩
        conv => whnf
        have hdl : (X.drop k).length = X.length - k := List.length_drop
        have hd0 : 0 < (X.drop k).length := by omega
        have hX0 : (X.drop k)[0] = X[k] := by simp
        obtain ⟨i3, c3, w1, w2, w3⟩ := sls_get eC_len hsub hdl.symm hd0
        rw [hX0] at w3
        have v0 := w3 0 (i64 X[k].1) rfl
        have v1 := w3 1 (slV X[k].2) rfl
        refine ⟨i3, c3, 0, w1, rfl, by omega, ?_⟩
        conv => whnf
        refine ⟨_, v0, ?_⟩
        conv => whnf
        refine ⟨_, Cell.mk bx rfl, ?_⟩
        conv => whnf
        refine br_mk (fun hu => ?_) (fun hu => ?_)
        rotate_left
        · conv => whnf
          have hu : X[k].1 ≠ N + (k : Int) := by
            intro e
            rw [e] at hu
            simp at hu
          exact done (chn_stop (.inr ⟨hy, hu⟩) hkX)
        have hu : X[k].1 = N + (k : Int) := by simpa using hu
        conv => whnf
        refine ⟨_, Cell.mk bx rfl, ?_⟩
        conv => whnf
        refine ⟨i3, c3, 0, w1, rfl, by omega, ?_⟩
        conv => whnf
        refine ⟨_, v1, ?_⟩
        conv => whnf
        obtain ⟨y1, y2, y3⟩ := app1 nq mk (slC X[k].2) rfl
        refine ⟨_, _, y1, y2, by rw [show (T.at_ 38).bytes = 24 from rfl]; omega, by omega, fun pG hY hs2 hm2 hf2 => ?_⟩
        obtain ⟨nq2, mk2, my⟩ := y3 pG hY hs2 hm2 hf2
        have e6 : ((X.take k).flatMap fun x => slC x.2) ++ slC X[k].2 = (X.take (k + 1)).flatMap fun x => slC x.2 := by
          rw [List.take_succ_eq_append_getElem hy, List.flatMap_append]
          simp
        rw [e6] at nq2
        conv => whnf
        have bx2 := my.get bx (.inl (fun a => by
          obtain ⟨o, a⟩ := a
          have := nq.2 g o a
          omega))
        refine ⟨_, Cell.mk bx2 rfl, ?_⟩
        conv => whnf
        have hsub2 := sub_is (NewSl.keep nA (S := one g) mk2 kg).1 hkX
        refine ⟨⟨_, hsub2⟩, 1, rfl, by omega, Nat.le_refl _, ?_⟩
        conv => whnf
        refine ⟨_, _, bx2, Nat.le_of_ble_eq_true rfl, ?_⟩
        conv => whnf
        have bS1 : (hY.set g (.row true 3 [i64 W, i64 (N + (k : Int)), .sl (slp (slp pD (k * 2)) (1 * 2)) (X.length - k - 1)])).obj g = some (.row true 3 [i64 W, i64 (N + (k : Int)), .sl (slp (slp pD (k * 2)) (1 * 2)) (X.length - k - 1)]) := H.obj_set_same bx2
        have m1 : Ab.Mod (one g) hY (hY.set g (.row true 3 [i64 W, i64 (N + (k : Int)), .sl (slp (slp pD (k * 2)) (1 * 2)) (X.length - k - 1)])) := Mod.set rfl bx2 rfl
        have nq3 := NewSl.keep nq2 m1 kg8
        have mk3 := mk2.trans' m1 (S2 := one g) (fun _ _ k => k) (fun _ _ k => k)
        refine ⟨_, Cell.mk bS1 rfl, ?_⟩
        conv => whnf
        have hXS : (X.length : Int) ≤ 1001 := by omega
        have hwr : IntKind.i64.wrap (N + (k : Int) + 1) = N + ((k + 1 : Nat) : Int) := by rw [wrap_i64 (by omega) (by omega)]; omega
        rw [hwr]
        refine ⟨_, _, bS1, Nat.le_of_ble_eq_true rfl, ?_⟩
        conv => whnf
        obtain ⟨h9, hh9⟩ : ∃ x, x = hY.set g (.row true 3 [i64 W, i64 (N + (k : Int)), .sl (slp (slp pD (k * 2)) (1 * 2)) (X.length - k - 1)]) := ⟨_, rfl⟩
        rw [← hh9] at bS1 nq3 mk3
        have bS2 : (h9.set g (.row true 3 [i64 W, i64 (N + ((k + 1 : Nat) : Int)), .sl (slp (slp pD (k * 2)) (1 * 2)) (X.length - k - 1)])).obj g = some (.row true 3 [i64 W, i64 (N + ((k + 1 : Nat) : Int)), .sl (slp pD ((k + 1) * 2)) (X.length - (k + 1))]) := by
          rw [H.obj_set_same bS1, slp_slp, show k * 2 + 1 * 2 = (k + 1) * 2 by omega, show X.length - k - 1 = X.length - (k + 1) by omega]
        have m2 : Ab.Mod (one g) h9 (h9.set g (.row true 3 [i64 W, i64 (N + ((k + 1 : Nat) : Int)), .sl (slp (slp pD (k * 2)) (1 * 2)) (X.length - k - 1)])) := Mod.set rfl bS1 rfl
        have nq4 := NewSl.keep nq3 m2 kg8
        have mk4 := mk3.trans' m2 (S2 := one g) (fun _ _ k => k) (fun _ _ k => k)
        have hch2 : chn N X = ((X.take (k + 1)).map Prod.snd ++ (chn (N + ((k + 1 : Nat) : Int)) (X.drop (k + 1))).1, (chn (N + ((k + 1 : Nat) : Int)) (X.drop (k + 1))).2) := by
          rw [hch, chn_step hy hu, List.take_succ_eq_append_getElem hy, List.map_append, List.append_assoc]
          rfl
        subst hh9
        refine ⟨_, Forget.cons rfl (Forget.cons rfl (Forget.nil _)), ⟨k + 1, pG, hy, hch2, bS2, nq4, mk4, rfl⟩, ?_⟩
        show X.length - (k + 1) < X.length - k
        omega
    · conv => whnf
      refine ⟨[0, 2, 3, 4, 5, 6, 7, 9, 11, 16, 17, 18, 19, 20, 21, 10, 1, 8, 12, 13, 14, 15, 22, 23, 24, 25], [0, 1024, 0, 4, 12, 28, 0, 124, 1278, 0, 0, 0, 3582, 8190, 16382, 32766, 0, 65536, 196608, 458752, 0, 2031616, 4194302, 8388607, 16777215, 33554431], by kernel_rfl, ?_⟩
      conv => whnf
      refine ⟨_, Cell.mk hb rfl, ?_⟩
      conv => whnf
      refine ⟨⟨_, hr.is⟩, j, rfl, Nat.zero_le _, hj, ?_⟩
      conv => whnf
      refine ⟨_, Cell.mk hb rfl, ?_⟩
      conv => whnf
      refine ⟨⟨_, hr.is⟩, j, rfl, hj, Nat.le_refl _, ?_⟩
      conv => whnf
      have rt := ro_take eC_len hr hj
      have rd := ro_drop eC_len hr hj
      have mo := mod_refl none_ hh
      obtain ⟨nB, mo⟩ := new0 1 mo
      obtain ⟨nA, nB, dis, mo⟩ := new0d 2 nB mo
      refine ⟨_, _, nA.1, (rt.get mo).is, by rw [show (T.at_ 190).bytes = 32 from rfl]; omega, by omega, fun pA hA hs hm hf => ?_⟩
      obtain ⟨nA, nB, dis, mo⟩ := appD nA nB dis mo hs hm hf
      conv => whnf
      refine ⟨⟨⟨_, (hr.get mo).is⟩, j, rfl, hj, Nat.le_refl _, rfl⟩, ?_⟩
      conv => whnf
      refine ⟨⟨_, Cell.mk (mo.get hb (.inl (fun k => k))) rfl, rfl⟩, ?_⟩
      conv => whnf
      refine ⟨_, _, nB.1, SlIs.old nm mo (fun _ _ k => k), by rw [show (T.at_ 5).bytes = 1 from rfl]; omega, by omega, fun pB hB hs hm hf => ?_⟩
      obtain ⟨nB, nA, dis, mo⟩ := appD nB nA (dis_comm dis) mo hs hm hf
      have dis := dis_comm dis
      rw [Nat.zero_add, List.nil_append] at nB nA
      conv => whnf
      rw [show 0 + m = m from Nat.zero_add _]
      refine ⟨⟨⟨_, (hr.get mo).is⟩, j, rfl, hj, Nat.le_refl _, rfl⟩, ?_⟩
      conv => whnf
      refine ⟨⟨_, Cell.mk (mo.get hb (.inl (fun k => k))) rfl, rfl⟩, ?_⟩
      conv => whnf
      obtain ⟨nA, nB, mo⟩ := pushD (.row true 2 [i64 seq, .sl pB m]) nA nB mo
      rw [show 0 + (j - 0) = j - 0 from Nat.zero_add _]
      refine ⟨_, _, nA.1, (SlIs.row (n := 1) (sz := 2) (cs := [i64 seq, .sl pB m]) (H.obj_push_new _ _) rfl).weak, by rw [show (T.at_ 190).bytes = 32 from rfl]; omega, by omega, fun pC hC hs hm hf => ?_⟩
      obtain ⟨nA, nB, dis, mo⟩ := appD nA nB dis mo hs hm hf
      conv => whnf
      refine ⟨⟨⟨_, (hr.get mo).is⟩, j, rfl, hj, Nat.le_refl _, rfl⟩, ?_⟩
      conv => whnf
      refine ⟨⟨_, Cell.mk (mo.get hb (.inl (fun k => k))) rfl, rfl⟩, ?_⟩
      conv => whnf
      refine ⟨_, _, nA.1, (rd.get mo).is, by rw [show (T.at_ 190).bytes = 32 from rfl]; omega, by omega, fun pD hD hs hm hf => ?_⟩
      obtain ⟨nA, nB, dis, mo⟩ := appD nA nB dis mo hs hm hf
      conv => whnf
      refine ⟨_, _, mo.get hb (.inl (fun k => k)), Nat.le_of_ble_eq_true rfl, ?_⟩
      conv => whnf
      obtain ⟨X, hX⟩ : ∃ X, X = insS S seq (pB, body) := ⟨_, rfl⟩
      have el : j - 0 + 1 + (S.length - j) = X.length := by
        rw [hX, ← efin, List.length_append, List.length_cons, List.length_take, List.length_drop]
        omega
      have ef : (S.take j).flatMap eC ++ [i64 seq, .sl pB m] ++ (S.drop j).flatMap eC = X.flatMap eC := by
        rw [hX, ← efin, List.flatMap_append, List.flatMap_cons, List.append_assoc, hml]
        rfl
      rw [el, ef] at nA
      rw [el]
      have mS : Ab.Mod (one g) hD (hD.set g (.row true 3 [i64 W, i64 N, .sl pD X.length])) := Mod.set rfl (mo.get hb (.inl (fun k => k))) rfl
      have kg : ∀ i, one g i → i < hh.next := fun i hi => by
        have : i = g := hi
        omega
      have nA := NewSl.keep nA mS kg
      have nB := NewSl.keep nB mS kg
      have bx : (hD.set g (.row true 3 [i64 W, i64 N, .sl pD X.length])).obj g = some (.row true 3 [i64 W, i64 N, .sl pD X.length]) := H.obj_set_same (mo.get hb (.inl (fun k => k)))
      have mo : Ab.Mod (one g) hh (hD.set g (.row true 3 [i64 W, i64 N, .sl pD X.length])) := mo.trans' mS (fun _ _ k => k.elim) (fun _ _ k => k)
      have bx0 : (hD.set g (.row true 3 [i64 W, i64 N, .sl pD X.length])).obj g = some (.row true 3 [i64 W, i64 (N + ((0 : Nat) : Int)), .sl (slp pD (0 * 2)) (X.length - 0)]) := by
        rw [Nat.zero_mul, slp_zero, Nat.sub_zero, show N + ((0 : Nat) : Int) = N by omega]
        exact bx
      obtain ⟨h8, hh8⟩ : ∃ x, x = hD.set g (.row true 3 [i64 W, i64 N, .sl pD X.length]) := ⟨_, rfl⟩
      rw [← hh8] at nA nB bx mo
      have hXl : X.length ≤ 1001 := by
        rw [hX]
        have := insS_len seq (pB, body) S
        omega
      have hXN : ∀ x ∈ X, N ≤ x.1 → True := fun _ _ _ => trivial
      refine ⟨fun env hk => ∃ (k : Nat) (qq : Option (Nat × Nat)), k ≤ X.length ∧ chn N X = ((X.take k).map Prod.snd ++ (chn (N + (k : Int)) (X.drop k)).1, (chn (N + (k : Int)) (X.drop k)).2) ∧ hk.obj g = some (.row true 3 [i64 W, i64 (N + (k : Int)), .sl (slp pD (k * 2)) (X.length - k)]) ∧ NewSl h8 hk qq k 1 ((X.take k).flatMap fun x => slC x.2) ∧ Ab.Mod (one g) h8 hk ∧ env = [(9, .sl qq k), (0, .ptr (some (g, 0)))],
        fun env _ => match get env 9 with
          | .sl _ n => X.length - n
          | _ => 0, ⟨_, Forget.cons rfl (Forget.cons rfl (Forget.nil _)), 0, none, Nat.zero_le _, by simp, bx0, NewSl.nil _ _ _, by rw [hh8]; exact mod_refl _ _, rfl⟩, ?_⟩
      have hg8 : g < h8.next := h8.lt _ _ bx
      clear bx bx0 hh8
      rintro _ hk ⟨k, qq, hkX, hch, bx, nq, mk, rfl⟩
      conv => whnf
      refine ⟨[0, 1, 2, 3, 4, 5, 6, 7, 8, 9, 10, 11, 12, 13, 14, 15, 16, 17, 18, 19], [0, 1, 3, 7, 15, 31, 63, 127, 255, 511, 1023, 2047, 4095, 8191, 127, 16511, 49279, 114815, 262143, 524287], by kernel_rfl, ?_⟩
      conv => whnf
      refine ⟨_, Cell.mk bx rfl, ?_⟩
      conv => whnf
      have kg8 : ∀ i, one g i → i < h8.next := fun i hi => by
        have : i = g := hi
        omega
      have nA1 := NewSl.keep nA (S := one g) mk kg
      have nB1 := NewSl.keep nB (S := one g) mk kg
      have moK := mo.trans' mk (S2 := one g) (fun _ _ k => k) (fun _ _ k => k)
      have hsub := sub_is nA1.1 hkX
      have done : chn (N + (k : Int)) (X.drop k) = ([], N + (k : Int), X.drop k) → TakeR hh g W N S seq m body (.tup [.sl qq k, .bool true]) hk := fun e => by
        rw [e, List.append_nil] at hch
        exact .inr ⟨hmay, pB, pD, qq, k, X, hX, hkX, hch, rfl, bx, nA1, nB1, ⟨nq.1, fun i o e => Nat.le_trans mo.next (nq.2 i o e)⟩, moK⟩
      refine br_mk (fun hy => ?_) (fun hy => ?_)
      rotate_left
      · conv => whnf
        have hy : ¬ k < X.length := by
          have : ¬ ((X.length - k : Nat) : Int) > 0 := by simpa using hy
          omega
        exact done (chn_stop (.inl (by omega)) hkX)
      have hy : k < X.length := by
        have : ((X.length - k : Nat) : Int) > 0 := by simpa using hy
        omega
      conv => whnf
      refine ⟨_, Cell.mk bx rfl, ?_⟩
      conv => whnf
      have hdl : (X.drop k).length = X.length - k := List.length_drop
      have hd0 : 0 < (X.drop k).length := by omega
      have hX0 : (X.drop k)[0] = X[k] := by simp
      obtain ⟨i3, c3, w1, w2, w3⟩ := sls_get eC_len hsub hdl.symm hd0
      rw [hX0] at w3
      have v0 := w3 0 (i64 X[k].1) rfl
      have v1 := w3 1 (slV X[k].2) rfl
      refine ⟨i3, c3, 0, w1, rfl, by omega, ?_⟩
      conv => whnf
      refine ⟨_, v0, ?_⟩
      conv => whnf
      refine ⟨_, Cell.mk bx rfl, ?_⟩
      conv => whnf
      refine br_mk (fun hu => ?_) (fun hu => ?_)
      rotate_left
      · conv => whnf
        have hu : X[k].1 ≠ N + (k : Int) := by
          intro e
          rw [e] at hu
          simp at hu
        exact done (chn_stop (.inr ⟨hy, hu⟩) hkX)
      have hu : X[k].1 = N + (k : Int) := by simpa using hu
      conv => whnf
      refine ⟨_, Cell.mk bx rfl, ?_⟩
      conv => whnf
      refine ⟨i3, c3, 0, w1, rfl, by omega, ?_⟩
      conv => whnf
      refine ⟨_, v1, ?_⟩
      conv => whnf
      obtain ⟨y1, y2, y3⟩ := app1 nq mk (slC X[k].2) rfl
      refine ⟨_, _, y1, y2, by rw [show (T.at_ 38).bytes = 24 from rfl]; omega, by omega, fun pG hY hs2 hm2 hf2 => ?_⟩
      obtain ⟨nq2, mk2, my⟩ := y3 pG hY hs2 hm2 hf2
      have e6 : ((X.take k).flatMap fun x => slC x.2) ++ slC X[k].2 = (X.take (k + 1)).flatMap fun x => slC x.2 := by
        rw [List.take_succ_eq_append_getElem hy, List.flatMap_append]
        simp
      rw [e6] at nq2
      conv => whnf
      have bx2 := my.get bx (.inl (fun a => by
        obtain ⟨o, a⟩ := a
        have := nq.2 g o a
        omega))
      refine ⟨_, Cell.mk bx2 rfl, ?_⟩
      conv => whnf
      have hsub2 := sub_is (NewSl.keep nA (S := one g) mk2 kg).1 hkX
      refine ⟨⟨_, hsub2⟩, 1, rfl, by omega, Nat.le_refl _, ?_⟩
      conv => whnf
      refine ⟨_, _, bx2, Nat.le_of_ble_eq_true rfl, ?_⟩
      conv => whnf
      have bS1 : (hY.set g (.row true 3 [i64 W, i64 (N + (k : Int)), .sl (slp (slp pD (k * 2)) (1 * 2)) (X.length - k - 1)])).obj g = some (.row true 3 [i64 W, i64 (N + (k : Int)), .sl (slp (slp pD (k * 2)) (1 * 2)) (X.length - k - 1)]) := H.obj_set_same bx2
      have m1 : Ab.Mod (one g) hY (hY.set g (.row true 3 [i64 W, i64 (N + (k : Int)), .sl (slp (slp pD (k * 2)) (1 * 2)) (X.length - k - 1)])) := Mod.set rfl bx2 rfl
      have nq3 := NewSl.keep nq2 m1 kg8
      have mk3 := mk2.trans' m1 (S2 := one g) (fun _ _ k => k) (fun _ _ k => k)
      refine ⟨_, Cell.mk bS1 rfl, ?_⟩
      conv => whnf
      have hXS : (X.length : Int) ≤ 1001 := by omega
      have hwr : IntKind.i64.wrap (N + (k : Int) + 1) = N + ((k + 1 : Nat) : Int) := by rw [wrap_i64 (by omega) (by omega)]; omega
      rw [hwr]
      refine ⟨_, _, bS1, Nat.le_of_ble_eq_true rfl, ?_⟩
      conv => whnf
      obtain ⟨h9, hh9⟩ : ∃ x, x = hY.set g (.row true 3 [i64 W, i64 (N + (k : Int)), .sl (slp (slp pD (k * 2)) (1 * 2)) (X.length - k - 1)]) := ⟨_, rfl⟩
      rw [← hh9] at bS1 nq3 mk3
      have bS2 : (h9.set g (.row true 3 [i64 W, i64 (N + ((k + 1 : Nat) : Int)), .sl (slp (slp pD (k * 2)) (1 * 2)) (X.length - k - 1)])).obj g = some (.row true 3 [i64 W, i64 (N + ((k + 1 : Nat) : Int)), .sl (slp pD ((k + 1) * 2)) (X.length - (k + 1))]) := by
        rw [H.obj_set_same bS1, slp_slp, show k * 2 + 1 * 2 = (k + 1) * 2 by omega, show X.length - k - 1 = X.length - (k + 1) by omega]
      have m2 : Ab.Mod (one g) h9 (h9.set g (.row true 3 [i64 W, i64 (N + ((k + 1 : Nat) : Int)), .sl (slp (slp pD (k * 2)) (1 * 2)) (X.length - k - 1)])) := Mod.set rfl bS1 rfl
      have nq4 := NewSl.keep nq3 m2 kg8
      have mk4 := mk3.trans' m2 (S2 := one g) (fun _ _ k => k) (fun _ _ k => k)
      have hch2 : chn N X = ((X.take (k + 1)).map Prod.snd ++ (chn (N + ((k + 1 : Nat) : Int)) (X.drop (k + 1))).1, (chn (N + ((k + 1 : Nat) : Int)) (X.drop (k + 1))).2) := by
        rw [hch, chn_step hy hu, List.take_succ_eq_append_getElem hy, List.map_append, List.append_assoc]
        rfl
      subst hh9
      refine ⟨_, Forget.cons rfl (Forget.cons rfl (Forget.nil _)), ⟨k + 1, pG, hy, hch2, bS2, nq4, mk4, rfl⟩, ?_⟩
      show X.length - (k + 1) < X.length - k
      omega
theorem take30c {h : H} {g : Nat} {W N : Int} {C : Hd} (s : RTkC h g W N C) (ok : okW W = true) (o : OkH W N C) (hN0 : 0 ≤ N) (hN1 : N ≤ 1000000) {seq : Int} (hs : inI seq) {q : Option (Nat × Nat)} {m : Nat} {body : List Int} (nm : SlIs h q m false 1 (ints .u8 body)) (hm : m ≤ 100000) :
    ACalls Tryz.prog 91 [.ptr (some (g, 0)), i64 seq, .sl q m] h (RTakeC h g W N C seq body) := by
  obtain ⟨S, st, hC⟩ := s
  have hW : 1 ≤ W ∧ W ≤ 16 := by simpa [okW] using ok
  have hml := slo_len nm
  have hlt := st.lt
  have hlen : C.length = S.length := by rw [← hC, encM_length]
  have hasc : AscS S := by
    have := o.asc
    rw [← hC] at this
    exact (encM_asc Prod.snd).1 this
  have hl := o.len hW.1
  have hmay : mayT W N seq S = mayC W N seq C := by
    rw [mayT, mayC, ← hC, encM_get]
    cases sget S seq <;> rfl
  refine ro3 (take30 st hasc ok hN0 hN1 (by omega) hs nm hm) ?_
  rintro r h' (⟨e, rfl, eh⟩ | ⟨e, pb, pC, q, k, X, hX, hk, hch, rfl, hb, nA, nB, nq, m'⟩)
  · subst eh
    rw [hmay] at e
    have hv : tkV W N C seq body = (false, [], N, C) := by rw [tkV, if_neg (by rw [e]; simp)]
    unfold RTakeC
    rw [hv]
    exact ⟨h'.next, h'.next, h'.next, none, rfl, ⟨[], RoSl.nil _ _ _, (fun x hx => by cases hx), rfl⟩, ⟨S, ((st.ro (by omega)).ro (by omega)).ro (by omega), hC⟩, (((mod_refl _ _).ro_new (Nat.le_refl _)).ro_new (Nat.le_refl _)).ro_new (Nat.le_refl _)⟩
  · rw [hmay] at e
    have key : chn N (insS C seq body) = ((X.take k).map fun x => x.2.2, N + (k : Int), encM Prod.snd (X.drop k)) := by
      have e1 : insS C seq body = encM Prod.snd X := by rw [← hC, hX]; exact encM_ins Prod.snd S seq (pb, body)
      rw [e1, chn_map, hch, List.map_map]
      rfl
    have hv : tkV W N C seq body = (true, (X.take k).map (fun x => x.2.2), N + (k : Int), encM Prod.snd (X.drop k)) := by rw [tkV, if_pos e, key]
    obtain ⟨i, h1, h2, h3⟩ := NR.freeze (.inl nA) m'
    obtain ⟨j, k1, k2, k3⟩ := ((NR.ro (.inl nB) i : NR h (h'.ro i) pb m 1 (ints .u8 body))).freeze h3
    obtain ⟨l, l1, l2, l3⟩ := (((NR.ro (.inl nq) i : NR h (h'.ro i) q k 1 _).ro j)).freeze k3
    refine ⟨i, j, l, ?_⟩
    unfold RTakeC
    rw [hv]
    have hgl : ((X.take k).map fun x => x.2.2).length = k := by simp [hk]
    have hXok : ∀ x ∈ X, bOk (((h'.ro i).ro j).ro l) x.2 := by
      rw [hX]
      refine insS_ent (fun x hx => ?_) ?_ seq
      · exact ((((st.ent x hx).get m').ro i).ro j).ro l
      · show RoSl _ pb body.length 1 (ints .u8 body)
        rw [← hml]
        exact k2.ro l
    have hs := ro_sub ((h2.ro j).ro l) hk
    refine ⟨q, ?_, ⟨(X.take k).map Prod.snd, ?_, fun x hx => ?_, ?_⟩, ⟨X.drop k, ⟨⟨slp pC (k * 2), ?_, hs⟩, fun x hx => hXok x (List.mem_of_mem_drop hx)⟩, rfl⟩, l3⟩
    · show V.tup [.sl q k, .bool true] = V.tup [.sl q ((X.take k).map fun x => x.2.2).length, .bool true]
      rw [hgl]
    · show RoSl _ q ((X.take k).map fun x => x.2.2).length 1 _
      rw [hgl, List.flatMap_map]
      exact l2
    · obtain ⟨y, hy, rfl⟩ := List.mem_map.1 hx
      exact hXok y (List.mem_of_mem_take hy)
    · rw [List.map_map]
      rfl
    · rw [H.ro_ne _ (by omega), H.ro_ne _ (by omega), H.ro_ne _ (by omega), hb, List.length_drop]
/-- each waits for one moment, told so often -/
def TA (v : SV) (k : Int) : Prop := ∀ x ∈ v.TS, x.2.1 = 4 * k ∧ x.2.2 = k - 1
def BD (v : SV) : Prop := ∀ x ∈ v.C, x.2 = [x.1]
theorem wait44 (n : Int) : waitV 4 4 n = 4 := by
  unfold waitV
  rw [waitW_stop (by decide)]
  rfl
theorem rs_all {R k : Int} : ∀ {S : List Wt}, (∀ x ∈ S, x.2.1 = 4 * k ∧ x.2.2 = k - 1) → k - 1 < R → agS R (4 * k) S = keys S ∧ ovS R (4 * k) S = [] ∧ keys (rsS 4 4 R (4 * k) S) = keys S ∧ ∀ x ∈ rsS 4 4 R (4 * k) S, x.2.1 = 4 * (k + 1) ∧ x.2.2 = k + 1 - 1
  | [], _, _ => ⟨rfl, rfl, rfl, fun x hx => by cases hx⟩
  | x :: S, h, hk => by
    obtain ⟨h1, h2⟩ := h x (by simp)
    obtain ⟨i1, i2, i3, i4⟩ := rs_all (S := S) (fun y hy => h y (List.mem_cons_of_mem _ hy)) hk
    have hg : ¬ x.2.1 > 4 * k := by omega
    have hl : x.2.2 < R := by omega
    have ea : agB R (4 * k) x = true := by rw [agB, decide_eq_false hg, decide_eq_true hl]; rfl
    have eo : ovB R (4 * k) x = false := by rw [ovB, decide_eq_true hl]; simp
    have ed : dueF 4 4 R (4 * k) x = some (x.1, 4 * k + waitV 4 4 (x.2.2 + 1), x.2.2 + 1) := by rw [dueF, if_neg hg, if_pos hl]
    have er : rsS 4 4 R (4 * k) (x :: S) = (x.1, 4 * k + waitV 4 4 (x.2.2 + 1), x.2.2 + 1) :: rsS 4 4 R (4 * k) S := by
      unfold rsS
      rw [List.filterMap_cons, ed]
    refine ⟨?_, ?_, ?_, fun y hy => ?_⟩
    · rw [agS, List.filter_cons_of_pos ea]
      show x.1 :: agS R (4 * k) S = x.1 :: keys S
      rw [i1]
    · rw [ovS, List.filter_cons_of_neg (by rw [eo]; simp)]
      exact i2
    · rw [er]
      show x.1 :: keys (rsS 4 4 R (4 * k) S) = x.1 :: keys S
      rw [i3]
    · rw [er] at hy
      rcases List.mem_cons.1 hy with rfl | hy
      · show 4 * k + waitV 4 4 (x.2.2 + 1) = 4 * (k + 1) ∧ x.2.2 + 1 = k + 1 - 1
        rw [wait44]
        omega
      · exact i4 y hy
theorem KR.again {v : SV} {a k : Int} (kr : KR v a) (ta : TA v k) (hov : v.ov = false) (hB : v.B = 4) (hM : v.M = 4) (hk : k - 1 < v.R) :
    ∃ v2, againV v (4 * k) = ((keys v.TS, 0), v2) ∧ KR v2 a ∧ TA v2 (k + 1) ∧ v2.C = v.C ∧ v2.N = v.N ∧ v2.W = v.W ∧ v2.ov = false ∧ v2.B = 4 ∧ v2.M = 4 ∧ v2.R = v.R := by
  obtain ⟨i1, i2, i3, i4⟩ := rs_all (R := v.R) ta hk
  refine ⟨{ v with TS := rsS v.B v.M v.R (4 * k) v.TS }, ?_, ⟨kr.le, kr.c, ?_⟩, ?_, rfl, rfl, rfl, hov, hB, hM, rfl⟩
  · rw [againV, if_neg (by rw [hov]; simp), if_pos i2, i1]
  · show ∀ x, x ∈ keys (rsS v.B v.M v.R (4 * k) v.TS) ↔ a ≤ x ∧ x < v.N
    rw [hB, hM, i3]
    exact kr.t
  · show ∀ x ∈ rsS v.B v.M v.R (4 * k) v.TS, _
    rw [hB, hM]
    exact i4
theorem TA.ack {v : SV} {k : Int} (t : TA v k) (ack : Int) : TA (ackV v ack).2 k := by
  unfold ackV
  split
  · exact t
  · exact fun x hx => t x (List.mem_filter.1 hx).1
theorem BD.ack {v : SV} (t : BD v) (ack : Int) : BD (ackV v ack).2 := by
  unfold ackV
  split
  · exact t
  · exact fun x hx => t x (List.mem_filter.1 hx).1
theorem BD.body {v : SV} (b : BD v) (o : SOk v) {x : Int} (hx : x ∈ keys v.C) : bodyV v.C x = [x] := by
  unfold bodyV
  cases e : sget v.C x with
  | none => exact absurd hx (sget_none.1 e)
  | some w =>
    have := b (x, w) ((sget_mem o.asc.nodup).1 e)
    exact this
theorem TA.send {v : SV} {a : Int} (t : TA v 1) (b : BD v) (k : KR v a) (o : SOk v) (hov : v.ov = false) (hB : v.B = 4) (hM : v.M = 4) (hf : v.N - a < v.W) : TA (sendV v 0 [v.N]).2 1 ∧ BD (sendV v 0 [v.N]).2 ∧ (sendV v 0 [v.N]).2.B = 4 ∧ (sendV v 0 [v.N]).2.M = 4 ∧ (sendV v 0 [v.N]).2.R = v.R := by
  have hl := (k.len o).1
  have hv : sendV v 0 [v.N] = ((v.N, 0), { v with N := v.N + 1, C := insS v.C v.N [v.N], TS := insS v.TS v.N (0 + waitV v.B v.M 0, 0) }) := by rw [sendV, if_neg (by rw [hov]; simp), if_neg (by omega)]
  rw [hv]
  have e1 := insS_top (v := [v.N]) (fun k hk => (o.kb k hk).2)
  have e2 := insS_top (S := v.TS) (n := v.N) (v := (0 + waitV v.B v.M 0, (0 : Int))) (fun k hk => (o.kb k (o.tk k hk)).2)
  refine ⟨?_, ?_, hB, hM, rfl⟩
  · show ∀ x ∈ insS v.TS v.N _, _
    rw [e2, hB, hM, wait44]
    intro x hx
    rcases List.mem_append.1 hx with hx | hx
    · exact t x hx
    · have : x = (v.N, 0 + 4, 0) := by simpa using hx
      subst this
      exact ⟨rfl, rfl⟩
  · show ∀ x ∈ insS v.C v.N _, _
    rw [e1]
    intro x hx
    rcases List.mem_append.1 hx with hx | hx
    · exact b x hx
    · have : x = (v.N, [v.N]) := by simpa using hx
      subst this
      rfl
structure RSd (h : H) (g tg : Nat) (W N : Int) (ov : Bool) (S : Ent) (B M R : Int) (TS : List Wt) : Prop where
  box : ∃ p, h.obj g = some (.row true 5 [.ptr (some (tg, 0)), i64 W, i64 N, .sl p S.length, .bool ov]) ∧ RoSl h p S.length 2 (S.flatMap eC)
  ent : ∀ x ∈ S, bOk h x.2
  tm : RSt h tg B M R TS
  sep : tg ≠ g
theorem RSd.lt {h : H} {g tg : Nat} {W N : Int} {ov : Bool} {S : Ent} {B M R : Int} {TS : List Wt} (s : RSd h g tg W N ov S B M R TS) : g < h.next ∧ tg < h.next := by
  obtain ⟨⟨p, h1, _⟩, _, t, _⟩ := s
  exact ⟨h.lt _ _ h1, t.lt⟩
theorem RSd.get {Z : Nat → Prop} {h h' : H} {g tg : Nat} {W N : Int} {ov : Bool} {S : Ent} {B M R : Int} {TS : List Wt} (s : RSd h g tg W N ov S B M R TS) (m : Ab.Mod Z h h') (hg : ¬ Z g) (ht : ¬ Z tg) : RSd h' g tg W N ov S B M R TS := by
  obtain ⟨⟨p, h1, h2⟩, h3, t, e⟩ := s
  exact ⟨⟨p, m.get h1 (.inl hg), h2.get m⟩, fun x hx => (h3 x hx).get m, t.get m ht, e⟩
theorem RSd.ro {h : H} {g tg : Nat} {W N : Int} {ov : Bool} {S : Ent} {B M R : Int} {TS : List Wt} (s : RSd h g tg W N ov S B M R TS) {i : Nat} (hg : g ≠ i) (ht : tg ≠ i) : RSd (h.ro i) g tg W N ov S B M R TS := by
  obtain ⟨⟨p, h1, h2⟩, h3, t, e⟩ := s
  exact ⟨⟨p, by rw [H.ro_ne _ hg, h1], h2.ro i⟩, fun x hx => (h3 x hx).ro i, t.ro ht, e⟩
def NewRS (W : Int) (h : H) (tg : Nat) (B M R : Int) (TS : List Wt) (r : V) (h' : H) : Prop :=
  (okW W = false ∧ r = .ptr none ∧ h' = h) ∨ (okW W = true ∧ ∃ g, r = .ptr (some (g, 0)) ∧ RSd h' g tg W 0 false [] B M R TS ∧ h.next ≤ g ∧ Ab.Mod none_ h h')
theorem rNew {h : H} {tg : Nat} {B M R : Int} {TS : List Wt} (t : RSt h tg B M R TS) (W : Int) : ACalls Tryz.prog 62 [i64 W, .ptr (some (tg, 0))] h (fun r h' => NewRS W h tg B M R TS r h') := by
  have hlt := t.lt
  refine call_ Tryz.func62 rfl rfl (by kernel_rfl) ?_
  conv => whnf
  refine (within68 h W 1 16).mono ?_
  rintro _ h1 ⟨eh, rfl⟩
  subst eh
  conv => whnf
  refine br_mk (fun ha => ?_) (fun ha => ?_)
  · conv => whnf
    have ha : inR W 1 16 = false := by simpa using ha
    exact .inl ⟨ha, rfl, rfl⟩
  conv => whnf
  have ha : inR W 1 16 = true := by simpa using ha
  have mP := Mod.push none_ h1 (.row true 5 [.ptr (some (tg, 0)), i64 W, i64 0, .sl none 0, .bool false])
  exact .inr ⟨ha, _, rfl, ⟨⟨none, H.obj_push_new _ _, RoSl.nil _ _ _⟩, (fun x hx => by cases hx), t.get mP (fun k => k), by omega⟩, Nat.le_refl _, mP⟩
theorem rRoom {h : H} {g tg : Nat} {W N : Int} {ov : Bool} {S : Ent} {B M R : Int} {TS : List Wt} (s : RSd h g tg W N ov S B M R TS) (ok : okW W = true) (hS : S.length ≤ 100000) : ACalls Tryz.prog 105 [.ptr (some (g, 0))] h (fun r h' => h' = h ∧ r = i64 (roomV W ov S.length)) := by
  have hW : 1 ≤ W ∧ W ≤ 16 := by simpa [okW] using ok
  obtain ⟨⟨p, hb, hr⟩, _, _, _⟩ := s
  refine call_ Tryz.func105 rfl rfl (by kernel_rfl) ?_
  conv => whnf
  refine ⟨_, Cell.mk hb rfl, ?_⟩
  conv => whnf
  cases ov with
  | true =>
    conv => whnf
    exact ⟨rfl, rfl⟩
  | false =>
  conv => whnf
  refine ⟨[0, 1, 2, 3, 4, 5, 6, 7, 8, 9, 10], [0, 1, 3, 7, 0, 16, 48, 112, 240, 511, 1023], by kernel_rfl, ?_⟩
  conv => whnf
  refine ⟨_, Cell.mk hb rfl, ?_⟩
  conv => whnf
  refine ⟨_, Cell.mk hb rfl, ?_⟩
  conv => whnf
  refine ⟨rfl, ?_⟩
  rw [wrap_i64 (by omega) (by omega)]
  rfl
theorem rBody {h : H} {g tg : Nat} {W N : Int} {ov : Bool} {S : Ent} {B M R : Int} {TS : List Wt} (s : RSd h g tg W N ov S B M R TS) (ha : AscS S) (hS : S.length ≤ 100000) (seq : Int) :
    ACalls Tryz.prog 104 [.ptr (some (g, 0)), i64 seq] h (fun r h' => h' = h ∧ ∃ q, r = .tup [.sl q (bodyV (encM Prod.snd S) seq).length, .bool (sget (encM Prod.snd S) seq).isSome] ∧ RoSl h q (bodyV (encM Prod.snd S) seq).length 1 (ints .u8 (bodyV (encM Prod.snd S) seq))) := by
  have hC : sget (encM Prod.snd S) seq = (sget S seq).map Prod.snd := encM_get Prod.snd seq S
  unfold bodyV
  rw [hC]
  obtain ⟨⟨p, hb, hr⟩, hent, _, _⟩ := s
  refine call_ Tryz.func104 rfl rfl (by kernel_rfl) ?_
  conv => whnf
  refine ⟨fun env hh => ∃ (j : Nat) (z : Int), j ≤ S.length ∧ z = j ∧ hh = h ∧ (∀ k (hk : k < S.length), k < j → S[k].1 ≠ seq) ∧ env = [(6, i64 z), (0, .ptr (some (g, 0))), (1, i64 seq)],
    fun env _ => match get env 6 with
      | .int _ z => (S.length - z).toNat
      | _ => 0, ⟨_, Forget.cons rfl (Forget.cons rfl (Forget.cons rfl (Forget.nil _))), 0, _, Nat.zero_le _, rfl, rfl, fun k _ hk => absurd hk (Nat.not_lt_zero k), rfl⟩, ?_⟩
  rintro _ hh ⟨j, z, hj, rfl, eh, hall, rfl⟩
  subst eh
  conv => whnf
  refine ⟨_, Cell.mk hb rfl, ?_⟩
  conv => whnf
  refine br_mk (fun hd => ?_) (fun hd => ?_)
  · conv => whnf
    have hd : j < S.length := by simpa using hd
    obtain ⟨i1, c1, f1, f2, f3⟩ := sls_get eC_len hr.is rfl hd
    have v0 := f3 0 (i64 S[j].1) rfl
    have v1 := f3 1 (slV S[j].2) rfl
    refine ⟨_, Cell.mk hb rfl, ?_⟩
    conv => whnf
    refine ⟨i1, c1, j, f1, rfl, hd, ?_⟩
    conv => whnf
    refine ⟨_, v0, ?_⟩
    conv => whnf
    refine br_mk (fun he => ?_) (fun he => ?_)
    · conv => whnf
      have he : S[j].1 = seq := by simpa using he
      refine ⟨_, Cell.mk hb rfl, ?_⟩
      conv => whnf
      refine ⟨i1, c1, j, f1, rfl, hd, ?_⟩
      conv => whnf
      refine ⟨_, v1, ?_⟩
      conv => whnf
      have hz : sget S seq = some S[j].2 := by
        rw [← he]
        exact (sget_mem ha.nodup).2 (List.getElem_mem hd)
      rw [hz]
      exact ⟨rfl, S[j].2.1, rfl, hent _ (List.getElem_mem hd)⟩
    · conv => whnf
      have he : S[j].1 ≠ seq := by
        intro e
        rw [e] at he
        simp at he
      refine ⟨_, Forget.cons rfl (Forget.cons rfl (Forget.cons rfl (Forget.nil _))), ⟨j + 1, _, hd, succ_i64 hd (by omega), rfl, fun k hk hkj => ?_, rfl⟩, mu_lt hd (by omega)⟩
      by_cases e : k = j
      · subst e; exact he
      · exact hall k hk (by omega)
  · conv => whnf
    have hd : ¬ j < S.length := by simpa using hd
    have hz : sget S seq = none := sget_none.2 (fun hm => by
      obtain ⟨x, hx, e⟩ := List.mem_map.1 hm
      obtain ⟨k, hk, rfl⟩ := List.getElem_of_mem hx
      exact hall k hk (by omega) e)
    rw [hz]
    exact ⟨rfl, none, rfl, RoSl.nil _ _ _⟩
def RSendQ (h : H) (g tg : Nat) (W N : Int) (ov : Bool) (S : Ent) (B M R : Int) (TS : List Wt) (now : Int) (m : Nat) (body : List Int) (r : V) (h' : H) : Prop :=
  (ov = true ∧ r = .tup [i64 0, i64 6] ∧ h' = h) ∨ (ov = false ∧ (S.length : Int) ≥ W ∧ r = .tup [i64 0, i64 5] ∧ h' = h) ∨
  (ov = false ∧ ¬ (S.length : Int) ≥ W ∧ r = .tup [i64 N, i64 0] ∧ ∃ pB pC, h'.obj g = some (.row true 5 [.ptr (some (tg, 0)), i64 W, i64 (N + 1), .sl pC (S.length + 1), .bool false]) ∧ NewSl h h' pC (S.length + 1) 2 ((S ++ [(N, (pB, body))]).flatMap eC) ∧ NewSl h h' pB m 1 (ints .u8 body) ∧
    RSt h' tg B M R (insS TS N (now + waitV B M 0, 0)) ∧ Ab.Mod (two g tg) h h')
set_option maxHeartbeats 2000000 in
theorem rSend {hh : H} {g tg : Nat} {W N : Int} {ov : Bool} {S : Ent} {B M R : Int} {TS : List Wt} (s : RSd hh g tg W N ov S B M R TS) (hasc : AscS TS) (okt : okT B M R = true) (hS : S.length ≤ 100000) (hTS : TS.length ≤ 100000) (hN0 : 0 ≤ N) (hN1 : N ≤ 100000000) {now : Int} (hn0 : -1000000000 ≤ now) (hn1 : now ≤ 1000000000) {q : Option (Nat × Nat)} {m : Nat} {body : List Int} (nm : SlIs hh q m false 1 (ints .u8 body)) (hm : m ≤ 100000) :
    ACalls Tryz.prog 106 [.ptr (some (g, 0)), i64 now, .sl q m] hh (RSendQ hh g tg W N ov S B M R TS now m body) := by
  have hlt := s.lt
  have hml := slo_len nm
  obtain ⟨⟨p, hb, hr⟩, hent, htm, hsep⟩ := s
  refine call_ Tryz.func106 rfl rfl (by kernel_rfl) ?_
  conv => whnf
  refine ⟨_, Cell.mk hb rfl, ?_⟩
  conv => whnf
  cases ov with
  | true =>
    conv => whnf
    exact .inl ⟨rfl, rfl, rfl⟩
  | false =>
  conv => whnf
  refine ⟨[0, 1, 2, 3, 4, 5, 6, 7, 8, 9], [0, 1, 3, 7, 15, 0, 32, 96, 224, 511], by kernel_rfl, ?_⟩
  conv => whnf
  refine ⟨_, Cell.mk hb rfl, ?_⟩
  conv => whnf
  refine ⟨_, Cell.mk hb rfl, ?_⟩
  conv => whnf
  refine br_mk (fun ha => ?_) (fun ha => ?_)
  · conv => whnf
    exact .inr (.inl ⟨rfl, by simpa using ha, rfl, rfl⟩)
  have ha : ¬ (S.length : Int) ≥ W := by simpa using ha
  conv => whnf
  refine ⟨[], [1, 11], rfl, ?_, ?_⟩
  · conv => whnf
    refine ⟨[], [6, 11], rfl, ?_, ?_⟩
    · conv => whnf
      refine ⟨[0, 2, 3, 4, 5, 7, 8, 9, 10, 12, 1, 6, 11, 13, 14, 15, 16, 17, 18, 19], [0, 0, 0, 4, 12, 28, 62, 0, 128, 384, 896, 126, 0, 6270, 16382, 32766, 65534, 131071, 262143, 524287], by kernel_rfl, ?_⟩
      conv => whnf
      have mo := mod_refl none_ hh
      refine ⟨_, Cell.mk (mo.get hb (.inl (fun k => k))) rfl, ?_⟩
      conv => whnf
      refine ⟨_, Cell.mk (mo.get hb (.inl (fun k => k))) rfl, ?_⟩
      conv => whnf
      obtain ⟨nA, mo⟩ := new0 2 mo
      refine ⟨_, _, nA.1, (hr.get mo).is, by rw [show (T.at_ 190).bytes = 32 from rfl]; omega, by omega, fun pA hA hs hm hf => ?_⟩
      obtain ⟨nA, mo⟩ := appN nA mo pA hA hs hm hf
      conv => whnf
      refine ⟨⟨_, Cell.mk (mo.get hb (.inl (fun k => k))) rfl, rfl⟩, ?_⟩
      conv => whnf
      obtain ⟨nB, nA, dis, mo⟩ := new0d 1 nA mo
      have dis := dis_comm dis
      refine ⟨_, _, nB.1, SlIs.old nm mo (fun _ _ k => k), by rw [show (T.at_ 5).bytes = 1 from rfl]; omega, by omega, fun pB hB hs hm hf => ?_⟩
      obtain ⟨nB, nA, dis, mo⟩ := appD nB nA (dis_comm dis) mo hs hm hf
      have dis := dis_comm dis
      rw [Nat.zero_add, List.nil_append] at nB nA
      conv => whnf
      rw [show 0 + m = m from Nat.zero_add _]
      refine ⟨⟨_, Cell.mk (mo.get hb (.inl (fun k => k))) rfl, rfl⟩, ?_⟩
      conv => whnf
      obtain ⟨nA, nB, mo⟩ := pushD (.row true 2 [i64 N, .sl pB m]) nA nB mo
      rw [show 0 + S.length = S.length from Nat.zero_add _]
      refine ⟨_, _, nA.1, (SlIs.row (n := 1) (sz := 2) (cs := [i64 N, .sl pB m]) (H.obj_push_new _ _) rfl).weak, by rw [show (T.at_ 190).bytes = 32 from rfl]; omega, by omega, fun pC hC hs hm hf => ?_⟩
      obtain ⟨nA, nB, dis, mo⟩ := appD nA nB dis mo hs hm hf
      conv => whnf
      refine ⟨_, _, mo.get hb (.inl (fun k => k)), Nat.le_of_ble_eq_true rfl, ?_⟩
      conv => whnf
      have bx : (hC.set g (.row true 5 [.ptr (some (tg, 0)), i64 W, i64 N, .sl pC (S.length + 1), .bool false])).obj g = some (.row true 5 [.ptr (some (tg, 0)), i64 W, i64 N, .sl pC (S.length + 1), .bool false]) := H.obj_set_same (mo.get hb (.inl (fun k => k)))
      have mS : Ab.Mod (one g) hC (hC.set g (.row true 5 [.ptr (some (tg, 0)), i64 W, i64 N, .sl pC (S.length + 1), .bool false])) := Mod.set rfl (mo.get hb (.inl (fun k => k))) rfl
      have kg : ∀ i, one g i → i < hh.next := fun i hi => by
        have : i = g := hi
        omega
      have kt : ∀ i, one tg i → i < hh.next := fun i hi => by
        have : i = tg := hi
        omega
      have st := (htm.get mo (fun k => k)).get mS (by show ¬ tg = g; exact hsep)
      have nA := NewSl.keep nA mS kg
      have nB := NewSl.keep nB mS kg
      have mo : Ab.Mod (two g tg) hh _ := mo.trans' mS (fun _ _ k => k.elim) (fun _ _ k => .inl k)
      refine ⟨[0, 1, 2, 3, 4, 5, 6, 7, 8, 9], [0, 1, 3, 7, 0, 16, 48, 112, 0, 511], by kernel_rfl, ?_⟩
      conv => whnf
      refine ⟨_, Cell.mk bx rfl, ?_⟩
      conv => whnf
      refine ⟨_, Cell.mk bx rfl, ?_⟩
      conv => whnf
      refine (start39 st hasc okt hTS N hn0 hn1).mono ?_
      rintro _ h9 ⟨t9, m9⟩
      have bx9 := m9.get bx (.inl (fun k => hsep (Eq.symm k)))
      have nA := NewSl.keep nA m9 kt
      have nB := NewSl.keep nB m9 kt
      have mo := mo.trans' m9 (S2 := two g tg) (fun _ _ k => k) (fun _ _ k => .inr k)
      conv => whnf
      refine ⟨_, Cell.mk bx9 rfl, ?_⟩
      conv => whnf
      rw [wrap_i64 (x := N + 1) (by omega) (by omega)]
      refine ⟨_, _, bx9, Nat.le_of_ble_eq_true rfl, ?_⟩
      conv => whnf
      have bxA : (h9.set g (.row true 5 [.ptr (some (tg, 0)), i64 W, i64 (N + 1), .sl pC (S.length + 1), .bool false])).obj g = some (.row true 5 [.ptr (some (tg, 0)), i64 W, i64 (N + 1), .sl pC (S.length + 1), .bool false]) := H.obj_set_same bx9
      have mA : Ab.Mod (one g) h9 (h9.set g (.row true 5 [.ptr (some (tg, 0)), i64 W, i64 (N + 1), .sl pC (S.length + 1), .bool false])) := Mod.set rfl bx9 rfl
      refine ⟨_, Cell.mk bxA rfl, ?_⟩
      conv => whnf
      rw [wrap_i64 (x := N + 1 - 1) (by omega) (by omega), show N + 1 - 1 = N by omega]
      have nA := NewSl.keep nA mA kg
      have nB := NewSl.keep nB mA kg
      have ef : S.flatMap eC ++ [i64 N, .sl pB m] = (S ++ [(N, (pB, body))]).flatMap eC := by
        rw [List.flatMap_append, hml]
        simp [eC, slV]
      rw [ef] at nA
      exact .inr (.inr ⟨rfl, ha, rfl, pB, pC, bxA, nA, nB, t9.get mA (by show ¬ tg = g; exact hsep), mo.trans' mA (fun _ _ k => k) (fun _ _ k => .inl k)⟩)
    · conv => whnf
      refine ⟨[0, 2, 3, 4, 5, 7, 8, 9, 10, 12, 1, 11, 6, 13, 14, 15, 16, 17, 18, 19], [0, 0, 0, 4, 12, 28, 2110, 0, 128, 384, 896, 2, 0, 6270, 16382, 32766, 65534, 131071, 262143, 524287], by kernel_rfl, ?_⟩
      conv => whnf
      have mo := mod_refl none_ hh
      refine ⟨_, Cell.mk (mo.get hb (.inl (fun k => k))) rfl, ?_⟩
      conv => whnf
      refine ⟨_, Cell.mk (mo.get hb (.inl (fun k => k))) rfl, ?_⟩
      conv => whnf
      obtain ⟨nA, mo⟩ := new0 2 mo
      obtain ⟨nB, nA, dis, mo⟩ := new0d 1 nA mo
      have dis := dis_comm dis
      refine ⟨_, _, nA.1, (hr.get mo).is, by rw [show (T.at_ 190).bytes = 32 from rfl]; omega, by omega, fun pA hA hs hm hf => ?_⟩
      obtain ⟨nA, nB, dis, mo⟩ := appD nA nB dis mo hs hm hf
      conv => whnf
      refine ⟨⟨_, Cell.mk (mo.get hb (.inl (fun k => k))) rfl, rfl⟩, ?_⟩
      conv => whnf
      refine ⟨_, _, nB.1, SlIs.old nm mo (fun _ _ k => k), by rw [show (T.at_ 5).bytes = 1 from rfl]; omega, by omega, fun pB hB hs hm hf => ?_⟩
      obtain ⟨nB, nA, dis, mo⟩ := appD nB nA (dis_comm dis) mo hs hm hf
      have dis := dis_comm dis
      rw [Nat.zero_add, List.nil_append] at nB nA
      conv => whnf
      rw [show 0 + m = m from Nat.zero_add _]
      refine ⟨⟨_, Cell.mk (mo.get hb (.inl (fun k => k))) rfl, rfl⟩, ?_⟩
      conv => whnf
      obtain ⟨nA, nB, mo⟩ := pushD (.row true 2 [i64 N, .sl pB m]) nA nB mo
      rw [show 0 + S.length = S.length from Nat.zero_add _]
      refine ⟨_, _, nA.1, (SlIs.row (n := 1) (sz := 2) (cs := [i64 N, .sl pB m]) (H.obj_push_new _ _) rfl).weak, by rw [show (T.at_ 190).bytes = 32 from rfl]; omega, by omega, fun pC hC hs hm hf => ?_⟩
      obtain ⟨nA, nB, dis, mo⟩ := appD nA nB dis mo hs hm hf
      conv => whnf
      refine ⟨_, _, mo.get hb (.inl (fun k => k)), Nat.le_of_ble_eq_true rfl, ?_⟩
      conv => whnf
      have bx : (hC.set g (.row true 5 [.ptr (some (tg, 0)), i64 W, i64 N, .sl pC (S.length + 1), .bool false])).obj g = some (.row true 5 [.ptr (some (tg, 0)), i64 W, i64 N, .sl pC (S.length + 1), .bool false]) := H.obj_set_same (mo.get hb (.inl (fun k => k)))
      have mS : Ab.Mod (one g) hC (hC.set g (.row true 5 [.ptr (some (tg, 0)), i64 W, i64 N, .sl pC (S.length + 1), .bool false])) := Mod.set rfl (mo.get hb (.inl (fun k => k))) rfl
      have kg : ∀ i, one g i → i < hh.next := fun i hi => by
        have : i = g := hi
        omega
      have kt : ∀ i, one tg i → i < hh.next := fun i hi => by
        have : i = tg := hi
        omega
      have st := (htm.get mo (fun k => k)).get mS (by show ¬ tg = g; exact hsep)
      have nA := NewSl.keep nA mS kg
      have nB := NewSl.keep nB mS kg
      have mo : Ab.Mod (two g tg) hh _ := mo.trans' mS (fun _ _ k => k.elim) (fun _ _ k => .inl k)
      refine ⟨[0, 1, 2, 3, 4, 5, 6, 7, 8, 9], [0, 1, 3, 7, 0, 16, 48, 112, 0, 511], by kernel_rfl, ?_⟩
      conv => whnf
      refine ⟨_, Cell.mk bx rfl, ?_⟩
      conv => whnf
      refine ⟨_, Cell.mk bx rfl, ?_⟩
      conv => whnf
      refine (start39 st hasc okt hTS N hn0 hn1).mono ?_
      rintro _ h9 ⟨t9, m9⟩
      have bx9 := m9.get bx (.inl (fun k => hsep (Eq.symm k)))
      have nA := NewSl.keep nA m9 kt
      have nB := NewSl.keep nB m9 kt
      have mo := mo.trans' m9 (S2 := two g tg) (fun _ _ k => k) (fun _ _ k => .inr k)
      conv => whnf
      refine ⟨_, Cell.mk bx9 rfl, ?_⟩
      conv => whnf
      rw [wrap_i64 (x := N + 1) (by omega) (by omega)]
      refine ⟨_, _, bx9, Nat.le_of_ble_eq_true rfl, ?_⟩
      conv => whnf
      have bxA : (h9.set g (.row true 5 [.ptr (some (tg, 0)), i64 W, i64 (N + 1), .sl pC (S.length + 1), .bool false])).obj g = some (.row true 5 [.ptr (some (tg, 0)), i64 W, i64 (N + 1), .sl pC (S.length + 1), .bool false]) := H.obj_set_same bx9
      have mA : Ab.Mod (one g) h9 (h9.set g (.row true 5 [.ptr (some (tg, 0)), i64 W, i64 (N + 1), .sl pC (S.length + 1), .bool false])) := Mod.set rfl bx9 rfl
      refine ⟨_, Cell.mk bxA rfl, ?_⟩
      conv => whnf
      rw [wrap_i64 (x := N + 1 - 1) (by omega) (by omega), show N + 1 - 1 = N by omega]
      have nA := NewSl.keep nA mA kg
      have nB := NewSl.keep nB mA kg
      have ef : S.flatMap eC ++ [i64 N, .sl pB m] = (S ++ [(N, (pB, body))]).flatMap eC := by
        rw [List.flatMap_append, hml]
        simp [eC, slV]
      rw [ef] at nA
      exact .inr (.inr ⟨rfl, ha, rfl, pB, pC, bxA, nA, nB, t9.get mA (by show ¬ tg = g; exact hsep), mo.trans' mA (fun _ _ k => k) (fun _ _ k => .inl k)⟩)
  · conv => whnf
    refine ⟨[0, 2, 3, 4, 5, 7, 8, 9, 10, 12, 11, 1, 6, 13, 14, 15, 16, 17, 18, 19], [0, 2048, 0, 4, 12, 28, 2110, 0, 128, 384, 896, 0, 0, 6270, 16382, 32766, 65534, 131071, 262143, 524287], by kernel_rfl, ?_⟩
    conv => whnf
    have mo := mod_refl none_ hh
    refine ⟨_, Cell.mk (mo.get hb (.inl (fun k => k))) rfl, ?_⟩
    conv => whnf
    refine ⟨_, Cell.mk (mo.get hb (.inl (fun k => k))) rfl, ?_⟩
    conv => whnf
    obtain ⟨nB, mo⟩ := new0 1 mo
    obtain ⟨nA, nB, dis, mo⟩ := new0d 2 nB mo
    refine ⟨_, _, nA.1, (hr.get mo).is, by rw [show (T.at_ 190).bytes = 32 from rfl]; omega, by omega, fun pA hA hs hm hf => ?_⟩
    obtain ⟨nA, nB, dis, mo⟩ := appD nA nB dis mo hs hm hf
    conv => whnf
    refine ⟨⟨_, Cell.mk (mo.get hb (.inl (fun k => k))) rfl, rfl⟩, ?_⟩
    conv => whnf
    refine ⟨_, _, nB.1, SlIs.old nm mo (fun _ _ k => k), by rw [show (T.at_ 5).bytes = 1 from rfl]; omega, by omega, fun pB hB hs hm hf => ?_⟩
    obtain ⟨nB, nA, dis, mo⟩ := appD nB nA (dis_comm dis) mo hs hm hf
    have dis := dis_comm dis
    rw [Nat.zero_add, List.nil_append] at nB nA
    conv => whnf
    rw [show 0 + m = m from Nat.zero_add _]
    refine ⟨⟨_, Cell.mk (mo.get hb (.inl (fun k => k))) rfl, rfl⟩, ?_⟩
    conv => whnf
    obtain ⟨nA, nB, mo⟩ := pushD (.row true 2 [i64 N, .sl pB m]) nA nB mo
    rw [show 0 + S.length = S.length from Nat.zero_add _]
    refine ⟨_, _, nA.1, (SlIs.row (n := 1) (sz := 2) (cs := [i64 N, .sl pB m]) (H.obj_push_new _ _) rfl).weak, by rw [show (T.at_ 190).bytes = 32 from rfl]; omega, by omega, fun pC hC hs hm hf => ?_⟩
    obtain ⟨nA, nB, dis, mo⟩ := appD nA nB dis mo hs hm hf
    conv => whnf
    refine ⟨_, _, mo.get hb (.inl (fun k => k)), Nat.le_of_ble_eq_true rfl, ?_⟩
    conv => whnf
    have bx : (hC.set g (.row true 5 [.ptr (some (tg, 0)), i64 W, i64 N, .sl pC (S.length + 1), .bool false])).obj g = some (.row true 5 [.ptr (some (tg, 0)), i64 W, i64 N, .sl pC (S.length + 1), .bool false]) := H.obj_set_same (mo.get hb (.inl (fun k => k)))
    have mS : Ab.Mod (one g) hC (hC.set g (.row true 5 [.ptr (some (tg, 0)), i64 W, i64 N, .sl pC (S.length + 1), .bool false])) := Mod.set rfl (mo.get hb (.inl (fun k => k))) rfl
    have kg : ∀ i, one g i → i < hh.next := fun i hi => by
      have : i = g := hi
      omega
    have kt : ∀ i, one tg i → i < hh.next := fun i hi => by
      have : i = tg := hi
      omega
    have st := (htm.get mo (fun k => k)).get mS (by show ¬ tg = g; exact hsep)
    have nA := NewSl.keep nA mS kg
    have nB := NewSl.keep nB mS kg
    have mo : Ab.Mod (two g tg) hh _ := mo.trans' mS (fun _ _ k => k.elim) (fun _ _ k => .inl k)
    refine ⟨[0, 1, 2, 3, 4, 5, 6, 7, 8, 9], [0, 1, 3, 7, 0, 16, 48, 112, 0, 511], by kernel_rfl, ?_⟩
    conv => whnf
    refine ⟨_, Cell.mk bx rfl, ?_⟩
    conv => whnf
    refine ⟨_, Cell.mk bx rfl, ?_⟩
    conv => whnf
    refine (start39 st hasc okt hTS N hn0 hn1).mono ?_
    rintro _ h9 ⟨t9, m9⟩
    have bx9 := m9.get bx (.inl (fun k => hsep (Eq.symm k)))
    have nA := NewSl.keep nA m9 kt
    have nB := NewSl.keep nB m9 kt
    have mo := mo.trans' m9 (S2 := two g tg) (fun _ _ k => k) (fun _ _ k => .inr k)
    conv => whnf
    refine ⟨_, Cell.mk bx9 rfl, ?_⟩
    conv => whnf
    rw [wrap_i64 (x := N + 1) (by omega) (by omega)]
    refine ⟨_, _, bx9, Nat.le_of_ble_eq_true rfl, ?_⟩
    conv => whnf
    have bxA : (h9.set g (.row true 5 [.ptr (some (tg, 0)), i64 W, i64 (N + 1), .sl pC (S.length + 1), .bool false])).obj g = some (.row true 5 [.ptr (some (tg, 0)), i64 W, i64 (N + 1), .sl pC (S.length + 1), .bool false]) := H.obj_set_same bx9
    have mA : Ab.Mod (one g) h9 (h9.set g (.row true 5 [.ptr (some (tg, 0)), i64 W, i64 (N + 1), .sl pC (S.length + 1), .bool false])) := Mod.set rfl bx9 rfl
    refine ⟨_, Cell.mk bxA rfl, ?_⟩
    conv => whnf
    rw [wrap_i64 (x := N + 1 - 1) (by omega) (by omega), show N + 1 - 1 = N by omega]
    have nA := NewSl.keep nA mA kg
    have nB := NewSl.keep nB mA kg
    have ef : S.flatMap eC ++ [i64 N, .sl pB m] = (S ++ [(N, (pB, body))]).flatMap eC := by
      rw [List.flatMap_append, hml]
      simp [eC, slV]
    rw [ef] at nA
    exact .inr (.inr ⟨rfl, ha, rfl, pB, pC, bxA, nA, nB, t9.get mA (by show ¬ tg = g; exact hsep), mo.trans' mA (fun _ _ k => k) (fun _ _ k => .inl k)⟩)
theorem fold_del (l : List Int) : ∀ TS : List Wt, l.foldl delS TS = TS.filter fun p => decide (p.1 ∉ l) := by
  induction l with
  | nil =>
    intro TS
    exact (List.filter_eq_self.2 (fun x _ => by simp)).symm
  | cons n l ih =>
    intro TS
    rw [List.foldl_cons, ih, delS, List.filter_filter]
    refine List.filter_congr (fun x _ => ?_)
    rw [Bool.eq_iff_iff]
    simp
    exact and_comm
theorem asc_drop {β : Type} {S : List (Int × β)} (ha : AscS S) {ack : Int} {k : Nat} (hk : k ≤ S.length) (h1 : ∀ x ∈ S.take k, x.1 < ack) (h2 : k = S.length ∨ ∃ hk : k < S.length, ¬ S[k].1 < ack) : S.drop k = (S.filter fun p => decide (ack ≤ p.1)) ∧ k = (S.filter fun p => decide (p.1 < ack)).length := by
  have hd : ∀ x ∈ S.drop k, ack ≤ x.1 := fun x hx => by
    rcases h2 with rfl | ⟨hk2, h2⟩
    · rw [List.drop_length] at hx
      cases hx
    · rw [List.drop_eq_getElem_cons hk2] at hx
      rcases List.mem_cons.1 hx with rfl | hx
      · omega
      · have ha2 := ha
        rw [← List.take_append_drop k S, List.drop_eq_getElem_cons hk2] at ha2
        have := (asc_mid ha2).2 x hx
        omega
  constructor
  · conv => rhs; rw [← List.take_append_drop k S, List.filter_append]
    rw [List.filter_eq_nil_iff.2 (fun x hx => by have := h1 x hx; simp; omega), List.filter_eq_self.2 (fun x hx => by have := hd x hx; simpa using this), List.nil_append]
  · have : (S.filter fun p => decide (p.1 < ack)) = S.take k := by
      conv => lhs; rw [← List.take_append_drop k S, List.filter_append]
      rw [List.filter_eq_self.2 (fun x hx => by have := h1 x hx; simpa using this), List.filter_eq_nil_iff.2 (fun x hx => by have := hd x hx; simp; omega), List.append_nil]
    rw [this, List.length_take, Nat.min_eq_left hk]
def RAckQ (h : H) (g tg : Nat) (W N : Int) (ov : Bool) (S : Ent) (B M R : Int) (TS : List Wt) (ack : Int) (r : V) (h' : H) : Prop :=
  (ack > N ∧ r = i64 0 ∧ h' = h) ∨ (ack ≤ N ∧ r = i64 ((S.filter fun p => decide (p.1 < ack)).length : Int) ∧ RSd h' g tg W N ov (S.filter fun p => decide (ack ≤ p.1)) B M R (TS.filter fun p => decide (ack ≤ p.1)) ∧ Ab.Mod (two g tg) h h')
set_option maxHeartbeats 1000000 in
theorem rAcked {h : H} {g tg : Nat} {W N : Int} {ov : Bool} {S : Ent} {B M R : Int} {TS : List Wt} (s : RSd h g tg W N ov S B M R TS) (hasc : AscS S) (hS : S.length ≤ 100000) (hTS : TS.length ≤ 100000) (hT : ∀ k ∈ keys TS, k ∈ keys S) (ack : Int) :
    ACalls Tryz.prog 90 [.ptr (some (g, 0)), i64 ack] h (RAckQ h g tg W N ov S B M R TS ack) := by
  have hlt := s.lt
  obtain ⟨⟨p, hb, hr⟩, hent, htm, hsep⟩ := s
  refine call_ Tryz.func90 rfl rfl (by kernel_rfl) ?_
  conv => whnf
  refine ⟨_, Cell.mk hb rfl, ?_⟩
  conv => whnf
  refine br_mk (fun ha => ?_) (fun ha => ?_)
  · conv => whnf
    exact .inl ⟨by simpa using ha, rfl, rfl⟩
  have ha : ack ≤ N := by
    have : ¬ ack > N := by simpa using ha
    omega
  conv => whnf
  refine ⟨fun env hh => ∃ (k : Nat) (z : Int), k ≤ S.length ∧ z = k ∧ hh.obj g = some (.row true 5 [.ptr (some (tg, 0)), i64 W, i64 N, .sl (slp p (k * 2)) (S.length - k), .bool ov]) ∧ RSt hh tg B M R ((keys (S.take k)).foldl delS TS) ∧ (∀ x ∈ S.take k, x.1 < ack) ∧ Ab.Mod (two g tg) h hh ∧ env = [(5, i64 z), (0, .ptr (some (g, 0))), (1, i64 ack)],
    fun env _ => match get env 5 with
      | .int _ z => (S.length - z).toNat
      | _ => 0, ⟨_, Forget.cons rfl (Forget.cons rfl (Forget.cons rfl (Forget.nil _))), 0, _, Nat.zero_le _, rfl, by rw [Nat.zero_mul, slp_zero, Nat.sub_zero]; exact hb, htm, (fun x hx => by simp at hx), mod_refl _ _, rfl⟩, ?_⟩
  rintro _ hh ⟨k, z, hk, rfl, bx, st, hall, mo, rfl⟩
  conv => whnf
  refine ⟨_, Cell.mk bx rfl, ?_⟩
  conv => whnf
  have done : (k = S.length ∨ ∃ hk : k < S.length, ¬ S[k].1 < ack) → RAckQ h g tg W N ov S B M R TS ack (i64 (k : Int)) hh := fun h2 => by
    obtain ⟨d1, d2⟩ := asc_drop hasc hk hall h2
    refine .inr ⟨ha, by rw [← d2], ⟨⟨slp p (k * 2), ?_, ?_⟩, fun x hx => (hent x (List.mem_filter.1 hx).1).get mo, ?_, hsep⟩, mo⟩
    · rw [← d1, List.length_drop]
      exact bx
    · rw [← d1]
      exact ro_sub (hr.get mo) hk
    · rw [fold_del] at st
      have e : (TS.filter fun p => decide (ack ≤ p.1)) = TS.filter fun p => decide (p.1 ∉ keys (S.take k)) := List.filter_congr (fun x hx => by
        have hxs := hT x.1 (List.mem_map.2 ⟨x, hx, rfl⟩)
        refine decide_eq_decide.2 ⟨fun hle hm => ?_, fun hn => ?_⟩
        · obtain ⟨y, hy, e⟩ := List.mem_map.1 hm
          have := hall y hy
          omega
        · have hsp : x.1 ∈ keys (S.take k ++ S.drop k) := by rw [List.take_append_drop]; exact hxs
          rw [keys_append] at hsp
          rcases List.mem_append.1 hsp with q | q
          · exact absurd q hn
          · rw [d1] at q
            exact (by simpa using (mem_flt (P := fun k => decide (ack ≤ k))).1 q : x.1 ∈ keys S ∧ ack ≤ x.1).2)
      rw [e]
      exact st
  refine br_mk (fun hy => ?_) (fun hy => ?_)
  rotate_left
  · conv => whnf
    have hy : ¬ k < S.length := by
      have : ¬ ((S.length - k : Nat) : Int) > 0 := by simpa using hy
      omega
    exact done (.inl (by omega))
  have hy : k < S.length := by
    have : ((S.length - k : Nat) : Int) > 0 := by simpa using hy
    omega
  conv => whnf
  refine ⟨_, Cell.mk bx rfl, ?_⟩
  conv => whnf
  have hdl : (S.drop k).length = S.length - k := List.length_drop
  have hsub := (ro_sub (hr.get mo) hk).is
  rw [hdl] at hsub
  have hd0 : 0 < (S.drop k).length := by omega
  have hX0 : (S.drop k)[0] = S[k] := by simp
  obtain ⟨i3, c3, w1, w2, w3⟩ := sls_get eC_len hsub hdl.symm hd0
  rw [hX0] at w3
  have v0 := w3 0 (i64 S[k].1) rfl
  refine ⟨i3, c3, 0, w1, rfl, by omega, ?_⟩
  conv => whnf
  refine ⟨_, v0, ?_⟩
  conv => whnf
  refine br_mk (fun hu => ?_) (fun hu => ?_)
  rotate_left
  · conv => whnf
    have hu : ¬ S[k].1 < ack := by simpa using hu
    exact done (.inr ⟨hy, hu⟩)
  have hu : S[k].1 < ack := by simpa using hu
  conv => whnf
  refine ⟨[0, 1, 2, 3, 4, 5, 6, 7, 8, 9, 10, 11], [0, 1, 3, 7, 0, 16, 48, 112, 240, 496, 1008, 2047], by kernel_rfl, ?_⟩
  conv => whnf
  refine ⟨_, Cell.mk bx rfl, ?_⟩
  conv => whnf
  refine ⟨_, Cell.mk bx rfl, ?_⟩
  conv => whnf
  refine ⟨i3, c3, 0, w1, rfl, by omega, ?_⟩
  conv => whnf
  refine ⟨_, v0, ?_⟩
  conv => whnf
  have hfl : ((keys (S.take k)).foldl delS TS).length ≤ 100000 := by
    rw [fold_del]
    exact Nat.le_trans (List.length_filter_le _ _) hTS
  refine (stop41 st hfl S[k].1).mono ?_
  rintro _ h5 ⟨t5, m5⟩
  have bx5 := m5.get bx (.inl (fun e => hsep (Eq.symm e)))
  have mo5 := mo.trans' m5 (S2 := two g tg) (fun _ _ k => k) (fun _ _ k => .inr k)
  conv => whnf
  refine ⟨_, Cell.mk bx5 rfl, ?_⟩
  conv => whnf
  have hs5 := (ro_sub (hr.get mo5) hk).is
  rw [hdl] at hs5
  refine ⟨⟨_, hs5⟩, 1, rfl, by omega, Nat.le_refl _, ?_⟩
  conv => whnf
  refine ⟨_, _, bx5, Nat.le_of_ble_eq_true rfl, ?_⟩
  conv => whnf
  have bS : (h5.set g (.row true 5 [.ptr (some (tg, 0)), i64 W, i64 N, .sl (slp (slp p (k * 2)) (1 * 2)) (S.length - k - 1), .bool ov])).obj g = some (.row true 5 [.ptr (some (tg, 0)), i64 W, i64 N, .sl (slp p ((k + 1) * 2)) (S.length - (k + 1)), .bool ov]) := by
    rw [H.obj_set_same bx5, slp_slp, show k * 2 + 1 * 2 = (k + 1) * 2 by omega, show S.length - k - 1 = S.length - (k + 1) by omega]
  have mS : Ab.Mod (one g) h5 (h5.set g (.row true 5 [.ptr (some (tg, 0)), i64 W, i64 N, .sl (slp (slp p (k * 2)) (1 * 2)) (S.length - k - 1), .bool ov])) := Mod.set rfl bx5 rfl
  have hwi : IntKind.i64.wrap ((k : Int) + 1) = ((k + 1 : Nat) : Int) := by rw [wrap_i64 (by omega) (by omega)]; omega
  rw [hwi]
  have htk : S.take (k + 1) = S.take k ++ [S[k]] := List.take_succ_eq_append_getElem hy
  have hfd : delS ((keys (S.take k)).foldl delS TS) S[k].1 = (keys (S.take (k + 1))).foldl delS TS := by
    rw [htk, keys_append, List.foldl_append]
    rfl
  rw [hfd] at t5
  refine ⟨_, Forget.cons rfl (Forget.cons rfl (Forget.cons rfl (Forget.nil _))), ⟨k + 1, _, hy, rfl, bS, t5.get mS (by show ¬ tg = g; exact hsep), fun x hx => ?_, mo5.trans' mS (S2 := two g tg) (fun _ _ k => k) (fun _ _ k => .inl k), rfl⟩, ?_⟩
  · rw [htk] at hx
    rcases List.mem_append.1 hx with hx | hx
    · exact hall x hx
    · have : x = S[k] := by simpa using hx
      rw [this]
      exact hu
  · show ((S.length : Int) - ((k + 1 : Nat) : Int)).toNat < ((S.length : Int) - (k : Int)).toNat
    omega
structure RId where
  g : Nat
  tg : Nat
def RId.all (d : RId) : Nat → Prop := fun i => i = d.g ∨ i = d.tg
def RSdC (h : H) (d : RId) (v : SV) : Prop := ∃ S, RSd h d.g d.tg v.W v.N v.ov S v.B v.M v.R v.TS ∧ encM Prod.snd S = v.C
theorem RSdC.get {Z : Nat → Prop} {h h' : H} {d : RId} {v : SV} (s : RSdC h d v) (m : Ab.Mod Z h h') (hz : ∀ i, d.all i → ¬ Z i) : RSdC h' d v := by
  obtain ⟨S, h1, h2⟩ := s
  exact ⟨S, h1.get m (hz _ (.inl rfl)) (hz _ (.inr rfl)), h2⟩
theorem RSdC.old {h h' : H} {d : RId} {v : SV} (s : RSdC h d v) (m : Ab.Mod none_ h h') : RSdC h' d v := s.get m (fun _ _ k => k)
theorem RSdC.lt {h : H} {d : RId} {v : SV} (s : RSdC h d v) {i : Nat} (hi : d.all i) : i < h.next := by
  obtain ⟨S, h1, _⟩ := s
  have := h1.lt
  rcases hi with rfl | rfl
  · exact this.1
  · exact this.2
theorem RSdC.n {h : H} {d : RId} {v : SV} (s : RSdC h d v) : Cell h d.g 2 (i64 v.N) := by
  obtain ⟨S, ⟨⟨p, h1, _⟩, _⟩, _⟩ := s
  exact Cell.mk h1 rfl
theorem rSendC {h : H} {d : RId} {v : SV} (s : RSdC h d v) (o : SOk v) (hN : v.N ≤ 100000000) {now : Int} (hn0 : -1000000000 ≤ now) (hn1 : now ≤ 1000000000) {q : Option (Nat × Nat)} {m : Nat} {body : List Int} (nm : SlIs h q m false 1 (ints .u8 body)) (hm : m ≤ 100000) :
    ACalls Tryz.prog 106 [.ptr (some (d.g, 0)), i64 now, .sl q m] h (fun r h' => r = .tup [i64 (sendV v now body).1.1, i64 (sendV v now body).1.2] ∧ RSdC h' d (sendV v now body).2 ∧ Ab.Mod d.all h h') := by
  obtain ⟨S, st, hC⟩ := s
  have hlt := st.lt
  have hml := slo_len nm
  have hl : v.C.length = S.length := by rw [← hC, encM_length]
  have hk : keys v.C = keys S := by rw [← hC]; exact encM_keys Prod.snd S
  have hs := o.small
  have hW : 1 ≤ v.W ∧ v.W ≤ 16 := by simpa [okW] using o.ok
  have hlw := o.len
  refine ro3 (rSend st o.tasc o.okt (by omega) (by omega) o.n0 hN hn0 hn1 nm hm) ?_
  rintro r h' (⟨e, rfl, eh⟩ | ⟨e, e2, rfl, eh⟩ | ⟨e, e2, rfl, pB, pC, bx, nA, nB, t, m'⟩)
  · subst eh
    have hv : sendV v now body = ((0, 6), v) := by rw [sendV, if_pos e]
    rw [hv]
    exact ⟨h'.next, h'.next, h'.next, rfl, ⟨S, ((st.ro (by omega) (by omega)).ro (by omega) (by omega)).ro (by omega) (by omega), hC⟩, (((mod_refl _ _).ro_new (Nat.le_refl _)).ro_new (Nat.le_refl _)).ro_new (Nat.le_refl _)⟩
  · subst eh
    have hv : sendV v now body = ((0, 5), v) := by rw [sendV, if_neg (by rw [e]; simp), if_pos (by omega)]
    rw [hv]
    exact ⟨h'.next, h'.next, h'.next, rfl, ⟨S, ((st.ro (by omega) (by omega)).ro (by omega) (by omega)).ro (by omega) (by omega), hC⟩, (((mod_refl _ _).ro_new (Nat.le_refl _)).ro_new (Nat.le_refl _)).ro_new (Nat.le_refl _)⟩
  · have hv : sendV v now body = ((v.N, 0), { v with N := v.N + 1, C := insS v.C v.N body, TS := insS v.TS v.N (now + waitV v.B v.M 0, 0) }) := by rw [sendV, if_neg (by rw [e]; simp), if_neg (by omega)]
    rw [hv]
    obtain ⟨i, a1, a2, a3⟩ := NR.freeze (.inl nA) m'
    obtain ⟨j, b1, b2, b3⟩ := ((NR.ro (.inl nB) i : NR h (h'.ro i) pB m 1 (ints .u8 body))).freeze a3
    have hn3 : h.next ≤ ((h'.ro i).ro j).next := m'.next
    have eS : insS S v.N (pB, body) = S ++ [(v.N, (pB, body))] := insS_top (fun k hk2 => by rw [← hk] at hk2; exact (o.kb k hk2).2) _
    have eC' : encM Prod.snd (insS S v.N (pB, body)) = insS v.C v.N body := by
      rw [← hC]
      exact (encM_ins Prod.snd S v.N (pB, body)).symm
    refine ⟨i, j, ((h'.ro i).ro j).next, rfl, ⟨insS S v.N (pB, body), ⟨⟨pC, ?_, ?_⟩, fun x hx => ?_, ?_, st.sep⟩, eC'⟩, b3.ro_new hn3⟩
    · rw [H.ro_ne _ (by omega), H.ro_ne _ (by omega), H.ro_ne _ (by omega), bx, eS, List.length_append, e]
      rfl
    · rw [eS, List.length_append]
      exact (a2.ro j).ro _
    · rw [eS] at hx
      rcases List.mem_append.1 hx with hx | hx
      · exact ((((st.ent x hx).get m').ro i).ro j).ro _
      · have : x = (v.N, (pB, body)) := by simpa using hx
        subst this
        show RoSl _ pB body.length 1 (ints .u8 body)
        rw [← hml]
        exact b2.ro _
    · exact ((t.ro (by omega)).ro (by omega)).ro (by omega)
theorem rAckC {h : H} {d : RId} {v : SV} (s : RSdC h d v) (o : SOk v) (ack : Int) :
    ACalls Tryz.prog 90 [.ptr (some (d.g, 0)), i64 ack] h (fun r h' => r = i64 (ackV v ack).1 ∧ RSdC h' d (ackV v ack).2 ∧ Ab.Mod d.all h h') := by
  obtain ⟨S, st, hC⟩ := s
  have hl : v.C.length = S.length := by rw [← hC, encM_length]
  have hs := o.small
  have hk : keys v.C = keys S := by rw [← hC]; exact encM_keys Prod.snd S
  have hasc : AscS S := by
    have := o.asc
    rw [← hC] at this
    exact (encM_asc Prod.snd).1 this
  refine (rAcked st hasc (by omega) (by omega) (fun k hk2 => by rw [← hk]; exact o.tk k hk2) ack).mono ?_
  rintro r h' (⟨e, rfl, eh⟩ | ⟨e, rfl, st', m'⟩)
  · subst eh
    have hv : ackV v ack = (0, v) := by rw [ackV, if_pos e]
    rw [hv]
    exact ⟨rfl, ⟨S, st, hC⟩, mod_refl _ _⟩
  · have hv : ackV v ack = (((v.C.filter fun p => decide (p.1 < ack)).length : Int), { v with C := v.C.filter fun p => decide (ack ≤ p.1), TS := v.TS.filter fun p => decide (ack ≤ p.1) }) := by rw [ackV, if_neg (by omega)]
    rw [hv]
    refine ⟨?_, ⟨_, st', ?_⟩, m'⟩
    · have : (v.C.filter fun p => decide (p.1 < ack)).length = (S.filter fun p => decide (p.1 < ack)).length := by
        rw [← hC, encM_flt (fun k => decide (k < ack)), encM_length]
      rw [this]
    · show encM Prod.snd (S.filter fun p => decide (ack ≤ p.1)) = v.C.filter fun p => decide (ack ≤ p.1)
      rw [← hC]
      exact (encM_flt (fun k => decide (ack ≤ k))).symm
theorem rRoomC {h : H} {d : RId} {v : SV} (s : RSdC h d v) (o : SOk v) : ACalls Tryz.prog 105 [.ptr (some (d.g, 0))] h (fun r h' => h' = h ∧ r = i64 (roomV v.W v.ov v.C.length)) := by
  obtain ⟨S, st, hC⟩ := s
  have hl : v.C.length = S.length := by rw [← hC, encM_length]
  have hs := o.small
  rw [hl]
  exact rRoom st o.ok (by omega)
theorem rBodyC {h : H} {d : RId} {v : SV} (s : RSdC h d v) (o : SOk v) (seq : Int) : ACalls Tryz.prog 104 [.ptr (some (d.g, 0)), i64 seq] h (fun r h' => h' = h ∧ ∃ q, r = .tup [.sl q (bodyV v.C seq).length, .bool (sget v.C seq).isSome] ∧ RoSl h q (bodyV v.C seq).length 1 (ints .u8 (bodyV v.C seq))) := by
  obtain ⟨S, st, hC⟩ := s
  have hl : v.C.length = S.length := by rw [← hC, encM_length]
  have hs := o.small
  have hasc : AscS S := by
    have := o.asc
    rw [← hC] at this
    exact (encM_asc Prod.snd).1 this
  rw [← hC]
  exact rBody st hasc (by omega) seq
theorem rAgainC {h : H} {d : RId} {v : SV} (s : RSdC h d v) (o : SOk v) {now : Int} (hn0 : -1000000000 ≤ now) (hn1 : now ≤ 1000000000) :
    ACalls Tryz.prog 71 [.ptr (some (d.g, 0)), i64 now] h (fun r h' => ∃ q, r = .tup [.sl q (againV v now).1.1.length, i64 (againV v now).1.2] ∧ RoSl h' q (againV v now).1.1.length 1 (ints .i64 (againV v now).1.1) ∧ RSdC h' d (againV v now).2 ∧ Ab.Mod d.all h h') := by
  have hs := o.small
  obtain ⟨S, st, hC⟩ := s
  obtain ⟨⟨p, hb, hr⟩, hent, htm, hsep⟩ := st
  refine call_ Tryz.func71 rfl rfl (by kernel_rfl) ?_
  conv => whnf
  refine ⟨_, Cell.mk hb rfl, ?_⟩
  conv => whnf
  cases hov : v.ov with
  | true =>
    conv => whnf
    have hv : againV v now = (([], 6), v) := by rw [againV, if_pos hov]
    rw [hv]
    exact ⟨none, rfl, RoSl.nil _ _ _, ⟨S, ⟨⟨p, hb, hr⟩, hent, htm, hsep⟩, hC⟩, mod_refl _ _⟩
  | false =>
  conv => whnf
  refine ⟨_, Cell.mk hb rfl, ?_⟩
  conv => whnf
  refine (due42r htm o.okt (by omega) o.tn hn0 hn1).mono ?_
  rintro _ h2 ⟨qa, qo, rfl, ra, ro, t2, m2⟩
  have hb2 := m2.get hb (.inl (fun e => hsep (Eq.symm e)))
  conv => whnf
  refine ⟨_, rfl, ?_⟩
  conv => whnf
  refine ⟨_, rfl, ?_⟩
  conv => whnf
  refine br_mk (fun ha => ?_) (fun ha => ?_)
  · have ha : ovS v.R now v.TS ≠ [] := by
      intro e
      rw [e] at ha
      simp at ha
    have hv : againV v now = (([], 6), { v with ov := true, TS := rsS v.B v.M v.R now v.TS }) := by rw [againV, if_neg (by rw [hov]; simp), if_neg ha]
    conv => whnf
    refine ⟨_, _, hb2, Nat.le_of_ble_eq_true rfl, ?_⟩
    conv => whnf
    rw [hv]
    have m3 : Ab.Mod (one d.g) h2 (h2.set d.g (.row true 5 [.ptr (some (d.tg, 0)), i64 v.W, i64 v.N, .sl p S.length, .bool true])) := Mod.set rfl hb2 rfl
    refine ⟨none, rfl, RoSl.nil _ _ _, ⟨S, ⟨⟨p, H.obj_set_same hb2, (hr.get m2).get m3⟩, fun x hx => ((hent x hx).get m2).get m3, t2.get m3 hsep, hsep⟩, hC⟩, m2.trans' m3 (S2 := d.all) (fun _ _ k => .inr k) (fun _ _ k => .inl k)⟩
  · have ha : ovS v.R now v.TS = [] := by
      cases e : ovS v.R now v.TS with
      | nil => rfl
      | cons x l =>
        rw [e] at ha
        have : (((x :: l).length : Nat) : Int) > 0 := by
          rw [List.length_cons]
          omega
        rw [decide_eq_true this] at ha
        cases ha
    have hv : againV v now = ((agS v.R now v.TS, 0), { v with TS := rsS v.B v.M v.R now v.TS }) := by rw [againV, if_neg (by rw [hov]; simp), if_pos ha]
    conv => whnf
    rw [hv]
    exact ⟨qa, rfl, ra, ⟨S, ⟨⟨p, hb2, hr.get m2⟩, fun x hx => (hent x hx).get m2, t2, hsep⟩, hC⟩, m2.mono (fun _ _ k => .inr k)⟩
structure ActA where
  kind : Int
  a : Int
  now : Int
  bp : Option (Nat × Nat)
  bs : List Int
def ActA.cells (e : ActA) : List V := [i64 e.kind, i64 e.a, i64 e.now, .sl e.bp e.bs.length]
theorem act_len (e : ActA) : e.cells.length = 4 := rfl
structure ActsIn (h : H) (p : Option (Nat × Nat)) (n : Nat) (es : List ActA) : Prop where
  sl : RoSl h p n 4 (es.flatMap ActA.cells)
  ok : ∀ e ∈ es, RoSl h e.bp e.bs.length 1 (ints .u8 e.bs) ∧ Oct e.bs
theorem ActsIn.get {Z : Nat → Prop} {h h' : H} {p : Option (Nat × Nat)} {n : Nat} {es : List ActA} (s : ActsIn h p n es) (m : Ab.Mod Z h h') : ActsIn h' p n es := ⟨s.sl.get m, fun e he => ⟨(s.ok e he).1.get m, (s.ok e he).2⟩⟩
theorem ActsIn.len {h : H} {p : Option (Nat × Nat)} {n : Nat} {es : List ActA} (s : ActsIn h p n es) : n = es.length := by
  have := s.sl.1
  rw [flat_length act_len] at this
  omega
structure RCId where
  s : RId
  c : Nat
  t : Nat
def RCId.all (d : RCId) : Nat → Prop := fun i => d.s.all i ∨ i = d.c ∨ i = d.t
structure RChS (h : H) (d : RCId) (v : CV) : Prop where
  box : ∃ po, h.obj d.c = some (.row true 4 [i64 v.conn, .ptr (some (d.s.g, 0)), .ptr (some (d.t, 0)), .sl po v.O.length]) ∧ Rws h po v.O
  sd : RSdC h d.s v.s
  tk : RTkC h d.t v.s.W v.N v.C
  sep : ¬ d.s.all d.c ∧ ¬ d.s.all d.t ∧ d.c ≠ d.t
theorem RChS.get {Z : Nat → Prop} {h h' : H} {d : RCId} {v : CV} (s : RChS h d v) (m : Ab.Mod Z h h') (hz : ∀ i, d.all i → ¬ Z i) : RChS h' d v := by
  obtain ⟨⟨po, h1, h2⟩, h3, h4, h5⟩ := s
  exact ⟨⟨po, m.get h1 (.inl (hz _ (.inr (.inl rfl)))), h2.get m⟩, h3.get m (fun i hi => hz i (.inl hi)), h4.get m (hz _ (.inr (.inr rfl))), h5⟩
theorem RChS.old {h h' : H} {d : RCId} {v : CV} (s : RChS h d v) (m : Ab.Mod none_ h h') : RChS h' d v := s.get m (fun _ _ k => k)
theorem RChS.lt {h : H} {d : RCId} {v : CV} (s : RChS h d v) {i : Nat} (hi : d.all i) : i < h.next := by
  rcases hi with hi | rfl | rfl
  · exact s.sd.lt hi
  · obtain ⟨po, h1, _⟩ := s.box
    exact h.lt _ _ h1
  · exact s.tk.lt
theorem RSdC.ro {h : H} {d : RId} {v : SV} (s : RSdC h d v) {i : Nat} (hi : ¬ d.all i) : RSdC (h.ro i) d v := by
  obtain ⟨S, h1, h2⟩ := s
  exact ⟨S, h1.ro (fun e => hi (.inl e.symm)) (fun e => hi (.inr e.symm)), h2⟩
theorem RTkC.ro {h : H} {g : Nat} {W N : Int} {C : Hd} (s : RTkC h g W N C) {i : Nat} (hg : g ≠ i) : RTkC (h.ro i) g W N C := by
  obtain ⟨S, h1, h2⟩ := s
  exact ⟨S, h1.ro hg, h2⟩
theorem RChS.ro {h : H} {d : RCId} {v : CV} (s : RChS h d v) {i : Nat} (hi : ¬ d.all i) : RChS (h.ro i) d v := by
  obtain ⟨⟨po, h1, h2⟩, h3, h4, h5⟩ := s
  exact ⟨⟨po, by rw [H.ro_ne _ (fun e => hi (.inr (.inl e.symm))), h1], h2.ro i⟩, h3.ro (fun k => hi (.inl k)), h4.ro (fun e => hi (.inr (.inr e.symm))), h5⟩
theorem RChS.sender {h h' : H} {d : RCId} {v : CV} (s : RChS h d v) {sv : SV} (t : RSdC h' d.s sv) (m : Ab.Mod d.s.all h h') (hW : sv.W = v.s.W) : RChS h' d { v with s := sv } := by
  obtain ⟨⟨po, h1, h2⟩, h3, h4, h5⟩ := s
  exact ⟨⟨po, m.get h1 (.inl h5.1), h2.get m⟩, t, by show RTkC h' d.t sv.W v.N v.C; rw [hW]; exact h4.get m h5.2.1, h5⟩
theorem RChS.taker {h h' : H} {d : RCId} {v : CV} (s : RChS h d v) {N : Int} {C : Hd} (t : RTkC h' d.t v.s.W N C) (m : Ab.Mod (one d.t) h h') : RChS h' d { v with N := N, C := C } := by
  obtain ⟨⟨po, h1, h2⟩, h3, h4, h5⟩ := s
  exact ⟨⟨po, m.get h1 (.inl (fun k => h5.2.2 k)), h2.get m⟩, h3.get m (fun i hi k => h5.2.1 (by have : i = d.t := k; rw [← this]; exact hi)), t, h5⟩
theorem rCheck (h : H) (c : Cfg) : ACalls Tryz.prog 33 [.agg c.cells] h (fun r h' => r = i64 (if okCfg c then 0 else 1) ∧ Ab.Mod none_ h h') := by
  have mP := Mod.push none_ h (.row true 6 c.cells)
  have gm : (h.push (.row true 6 c.cells)).obj h.next = some (.row true 6 c.cells) := H.obj_push_new _ _
  refine call_ Tryz.func33 rfl rfl (by kernel_rfl) ?_
  conv => whnf
  refine ⟨_, Cell.mk gm rfl, ?_⟩
  conv => whnf
  refine (within68 _ c.sess 1 16).mono ?_
  rintro _ h1 ⟨eh, rfl⟩
  subst eh
  cases e1 : inR c.sess 1 16 with
  | false =>
    conv => whnf
    exact ⟨by rw [okCfg, e1]; simp, mP⟩
  | true =>
  conv => whnf
  refine ⟨_, Cell.mk gm rfl, ?_⟩
  conv => whnf
  refine (within68 _ c.win 1 16).mono ?_
  rintro _ h2 ⟨eh, rfl⟩
  subst eh
  cases e2 : inR c.win 1 16 with
  | false =>
    conv => whnf
    exact ⟨by rw [okCfg, e2]; simp, mP⟩
  | true =>
  conv => whnf
  refine ⟨_, Cell.mk gm rfl, ?_⟩
  conv => whnf
  refine (within68 _ c.retry 0 20).mono ?_
  rintro _ h3 ⟨eh, rfl⟩
  subst eh
  cases e3 : inR c.retry 0 20 with
  | false =>
    conv => whnf
    exact ⟨by rw [okCfg, e3]; simp, mP⟩
  | true =>
  conv => whnf
  refine ⟨_, Cell.mk gm rfl, ?_⟩
  conv => whnf
  refine (within68 _ c.base 1 1000).mono ?_
  rintro _ h4 ⟨eh, rfl⟩
  subst eh
  cases e4 : inR c.base 1 1000 with
  | false =>
    conv => whnf
    exact ⟨by rw [okCfg, e4]; simp, mP⟩
  | true =>
  conv => whnf
  refine ⟨_, Cell.mk gm rfl, ?_⟩
  conv => whnf
  refine ⟨_, Cell.mk gm rfl, ?_⟩
  conv => whnf
  refine (within68 _ c.cap c.base 1000).mono ?_
  rintro _ h5 ⟨eh, rfl⟩
  subst eh
  cases e5 : inR c.cap c.base 1000 with
  | false =>
    conv => whnf
    exact ⟨by rw [okCfg, e5]; simp, mP⟩
  | true =>
  conv => whnf
  refine ⟨_, Cell.mk gm rfl, ?_⟩
  conv => whnf
  refine (within68 _ c.idle 1 1000).mono ?_
  rintro _ h6 ⟨eh, rfl⟩
  subst eh
  cases e6 : inR c.idle 1 1000 with
  | false =>
    conv => whnf
    exact ⟨by rw [okCfg, e6]; simp, mP⟩
  | true =>
  conv => whnf
  exact ⟨by rw [okCfg, e1, e2, e3, e4, e5, e6]; rfl, mP⟩
theorem rMay (h : H) (x : Int) : ACalls Tryz.prog 61 [i64 x] h (fun r h' => h' = h ∧ r = .bool (inR x 1 2147483648)) := by
  refine call_ Tryz.func61 rfl rfl (by kernel_rfl) ?_
  conv => whnf
  refine (within68 _ x 1 2147483648).mono ?_
  rintro _ h2 ⟨eh, rfl⟩
  subst eh
  conv => whnf
  exact ⟨rfl, rfl⟩
def NewRC (c : Cfg) (conn : Int) (h : H) (r : V) (h' : H) : Prop :=
  (okCh c conn = false ∧ r = .ptr none ∧ Ab.Mod none_ h h') ∨ (okCh c conn = true ∧ ∃ d : RCId, r = .ptr (some (d.c, 0)) ∧ RChS h' d (CV.new c conn) ∧ (∀ i, d.all i → h.next ≤ i) ∧ Ab.Mod none_ h h')
theorem rcNew (h : H) (c : Cfg) (conn : Int) : ACalls Tryz.prog 38 [.agg c.cells, i64 conn] h (fun r h' => NewRC c conn h r h') := by
  have mP := Mod.push none_ h (.row true 6 c.cells)
  have gm : (h.push (.row true 6 c.cells)).obj h.next = some (.row true 6 c.cells) := H.obj_push_new _ _
  refine call_ Tryz.func38 rfl rfl (by kernel_rfl) ?_
  conv => whnf
  refine ⟨c.cells, Cells.mk gm (Nat.le_of_ble_eq_true rfl) rfl, ?_⟩
  conv => whnf
  refine (rCheck _ c).mono ?_
  rintro _ h1 ⟨rfl, m1⟩
  have g1 := m1.get gm (.inl (fun k => k))
  have mo1 := mod_none mP m1
  cases ec : okCfg c with
  | false =>
    conv => whnf
    exact .inl ⟨by rw [okCh, ec]; rfl, rfl, mo1⟩
  | true =>
  conv => whnf
  refine (rMay _ conn).mono ?_
  rintro _ h2 ⟨eh, rfl⟩
  subst eh
  cases en : inR conn 1 2147483648 with
  | false =>
    conv => whnf
    exact .inl ⟨by rw [okCh, ec, en]; rfl, rfl, mo1⟩
  | true =>
  simp only [okCfg, Bool.and_eq_true] at ec
  obtain ⟨⟨⟨⟨⟨c1, c2⟩, c3⟩, c4⟩, c5⟩, c6⟩ := ec
  have okc : okCh c conn = true := by
    rw [okCh, okCfg, c1, c2, c3, c4, c5, c6, en]
    rfl
  have b3 := inR_iff.1 c3
  have b4 := inR_iff.1 c4
  have b5 := inR_iff.1 c5
  have okt : okT c.base c.cap c.retry = true := by
    rw [okT_iff]
    omega
  conv => whnf
  refine ⟨[0, 1, 2, 3, 4, 5, 6, 7, 8, 11, 12, 9, 10, 13, 14, 15, 16], [0, 0, 2, 0, 8, 0, 32, 0, 128, 504, 1022, 0, 2048, 8190, 16383, 32767, 65535], by kernel_rfl, ?_⟩
  conv => whnf
  refine ⟨_, Cell.mk g1 rfl, ?_⟩
  conv => whnf
  refine ⟨_, Cell.mk g1 rfl, ?_⟩
  conv => whnf
  refine ⟨_, Cell.mk g1 rfl, ?_⟩
  conv => whnf
  refine ⟨_, Cell.mk g1 rfl, ?_⟩
  conv => whnf
  refine ⟨_, Cell.mk g1 rfl, ?_⟩
  conv => whnf
  refine (new36 _ c.base c.cap c.retry).mono ?_
  rintro _ h3 q
  rcases q with ⟨e, _⟩ | ⟨_, tg, rfl, t1, ht1, m3⟩
  · rw [okt] at e
    cases e
  have g3 := m3.get g1 (.inl (fun k => k))
  conv => whnf
  refine ⟨⟨_, Cell.mk g3 rfl, rfl⟩, ?_⟩
  conv => whnf
  refine ⟨⟨_, Cell.mk g3 rfl, rfl⟩, ?_⟩
  conv => whnf
  have t1lt := t1.lt
  refine (rNew t1 c.win).mono ?_
  rintro _ h4 q
  rcases q with ⟨e, _⟩ | ⟨_, sg, rfl, s1, hg0, m4⟩
  · rw [show okW c.win = true from c2] at e
    cases e
  have g4 := m4.get g3 (.inl (fun k => k))
  have s1lt := s1.lt
  conv => whnf
  refine ⟨⟨_, Cell.mk g4 rfl, rfl⟩, ?_⟩
  conv => whnf
  refine (new28 _ c.win).mono ?_
  rintro _ h5 q
  rcases q with ⟨e, _⟩ | ⟨_, tk, rfl, k1, hk1, m5⟩
  · rw [show okW c.win = true from c2] at e
    cases e
  have k1lt := k1.lt
  have s5 : RSdC h5 ⟨sg, tg⟩ ⟨c.win, 0, false, [], c.base, c.cap, c.retry, []⟩ := ⟨[], s1.get m5 (fun k => k) (fun k => k), rfl⟩
  conv => whnf
  have m6 := Mod.push none_ h5 (.row true 4 [i64 conn, .ptr (some (sg, 0)), .ptr (some (tk, 0)), .sl none 0])
  have e1 := mo1.next
  have e3 := m3.next
  have e4 := m4.next
  have e5 := m5.next
  refine .inr ⟨okc, ⟨⟨sg, tg⟩, h5.next, tk⟩, rfl, ⟨⟨none, H.obj_push_new _ _, Rws.nil _⟩, s5.old m6, RTkC.old ⟨[], k1, rfl⟩ m6, ?_⟩, fun i hi => ?_, mod_none (mod_none (mod_none (mod_none mo1 m3) m4) m5) m6⟩
  · refine ⟨fun k => ?_, fun k => ?_, ?_⟩
    · rcases k with k | k
      · have : h5.next = sg := k
        omega
      · have : h5.next = tg := k
        omega
    · rcases k with k | k
      · have : tk = sg := k
        omega
      · have : tk = tg := k
        omega
    · show h5.next ≠ tk
      omega
  · rcases hi with (hi | hi) | hi | hi
    · have : i = sg := hi
      omega
    · have : i = tg := hi
      omega
    · have : i = h5.next := hi
      omega
    · have : i = tk := hi
      omega
theorem rData {h : H} {d : RCId} {v : CV} (s : RChS h d v) (o : SOk v.s) (seq : Int) :
    ACalls Tryz.prog 72 [.ptr (some (d.c, 0)), i64 seq] h (fun r h' => ∃ p, r = .agg (gC (dataV v seq, p)) ∧ gOk h' (dataV v seq, p) ∧ Ab.Mod none_ h h') := by
  refine call_ Tryz.func72 rfl rfl (by kernel_rfl) ?_
  conv => whnf
  obtain ⟨gm, _, _⟩ := lay_row (h := h) (sz := 6) [i64 0, i64 0, i64 0, i64 0, i64 0, .sl none 0] []
  have mP := Mod.push none_ h (.row true 6 [i64 0, i64 0, i64 0, i64 0, i64 0, .sl none 0])
  have s1 := s.old mP
  obtain ⟨po, bx, _⟩ := s1.box
  refine ⟨_, Cell.mk bx rfl, ?_⟩
  conv => whnf
  refine (rBodyC s1.sd o seq).mono ?_
  rintro _ h2 ⟨eh, q, rfl, b2⟩
  subst eh
  conv => whnf
  refine ⟨_, rfl, ?_⟩
  conv => whnf
  refine ⟨_, rfl, ?_⟩
  conv => whnf
  refine ⟨[0, 1, 2, 3, 4, 5, 6, 7, 8, 9, 10, 11, 12, 13, 14], [0, 1, 3, 7, 0, 0, 32, 96, 224, 480, 992, 2016, 0, 8191, 16383], by kernel_rfl, ?_⟩
  conv => whnf
  refine ⟨_, Cell.mk bx rfl, ?_⟩
  conv => whnf
  refine ⟨_, Cell.mk bx rfl, ?_⟩
  conv => whnf
  refine ⟨_, s1.tk.n, ?_⟩
  conv => whnf
  refine ⟨_, _, gm, Nat.le_of_ble_eq_true rfl, ?_⟩
  conv => whnf
  have gS : ((h.push (.row true 6 [i64 0, i64 0, i64 0, i64 0, i64 0, .sl none 0])).set h.next (.row true 6 (gC (dataV v seq, q)))).obj h.next = some (.row true 6 (gC (dataV v seq, q))) := H.obj_set_same gm
  have mS : Ab.Mod (one h.next) (h.push (.row true 6 [i64 0, i64 0, i64 0, i64 0, i64 0, .sl none 0])) ((h.push (.row true 6 [i64 0, i64 0, i64 0, i64 0, i64 0, .sl none 0])).set h.next (.row true 6 (gC (dataV v seq, q)))) := Mod.set rfl gm rfl
  refine ⟨gC (dataV v seq, q), Cells.mk gS (Nat.le_of_ble_eq_true rfl) rfl, ?_⟩
  conv => whnf
  exact ⟨q, rfl, b2.get mS, mP.trans' mS (S2 := none_) (fun _ _ k => k) (fun i hi k => by
    have : i = h.next := k
    omega)⟩
def RPaysQ (h : H) (d : RCId) (v : CV) (now : Int) (r : V) (h' : H) : Prop :=
  ∃ q, r = .sl q (paysV now v.s v.O).1.length ∧ Grams h' q ((paysV now v.s v.O).1.map (pg v)) ∧ RChS h' d (v.to (paysV now v.s v.O).2.1 (paysV now v.s v.O).2.2) ∧ Ab.Mod d.all h h'
set_option maxHeartbeats 1000000 in
theorem rPays {h : H} {d : RCId} {v : CV} (s : RChS h d v) (o : COk v) (hN : v.s.N + v.O.length ≤ 100000000) {now : Int} (hn0 : -1000000000 ≤ now) (hn1 : now ≤ 1000000000) :
    ACalls Tryz.prog 73 [.ptr (some (d.c, 0)), i64 now] h (RPaysQ h d v now) := by
  have hol := o.o
  have hlt : ∀ i, d.all i → i < h.next := fun i hi => s.lt hi
  refine ACalls.ro (Q := fun r h' => ∃ (q : Option (Nat × Nat)) (sv : SV) (O' : List (List Int)) (L : List (Int × List Int)) (G : List GP), paysV now v.s v.O = (L, sv, O') ∧ r = .sl q G.length ∧ NewSl h h' q G.length 6 (G.flatMap gC) ∧ (∀ x ∈ G, gOk h' x) ∧ G.map Prod.fst = L.map (pg v) ∧ RChS h' d (v.to sv O') ∧ Ab.Mod d.all h h') ?_ (by
    rintro r h' ⟨q, sv, O', L, G, e, rfl, ng, gk, hg, sc, m⟩
    obtain ⟨i, a1, a2, a3⟩ := ng.freeze m
    have hGL : G.length = L.length := by
      have := congrArg List.length hg
      simpa using this
    refine ⟨i, ?_⟩
    unfold RPaysQ
    rw [e]
    refine ⟨q, by show V.sl q G.length = V.sl q L.length; rw [hGL], ⟨G, ?_, fun x hx => (gk x hx).ro i, hg⟩, sc.ro (fun k => ?_), a3⟩
    · show RoSl _ q (L.map (pg v)).length 6 _
      rw [List.length_map, ← hGL]
      exact a2
    · have : i < h.next := hlt i k
      omega)
  refine call_ Tryz.func73 rfl rfl (by kernel_rfl) ?_
  conv => whnf
  refine ⟨fun env hh => ∃ (L : List (Int × List Int)) (G : List GP) (qg : Option (Nat × Nat)) (sv : SV) (O' : List (List Int)), paysV now v.s v.O = (L ++ (paysV now sv O').1, (paysV now sv O').2) ∧ G.map Prod.fst = L.map (pg v) ∧ NewSl h hh qg G.length 6 (G.flatMap gC) ∧ (∀ x ∈ G, gOk hh x) ∧ RChS hh d (v.to sv O') ∧ SOk sv ∧ sv.W = v.s.W ∧ sv.N + O'.length = v.s.N + v.O.length ∧ (∀ b ∈ O', b.length ≤ 100000) ∧ Ab.Mod d.all h hh ∧ G.length + O'.length = v.O.length ∧ env = [(5, .sl qg G.length), (0, .ptr (some (d.c, 0))), (1, i64 now)],
    fun env _ => match get env 5 with
      | .sl _ n => v.O.length - n
      | _ => 0, ⟨_, Forget.cons rfl (Forget.cons rfl (Forget.cons rfl (Forget.nil _))), [], [], none, v.s, v.O, rfl, rfl, NewSl.nil _ _ _, (fun x hx => by cases hx), s, o.s, rfl, rfl, o.ob, mod_refl _ _, by simp, rfl⟩, ?_⟩
  clear s
  rintro _ hh ⟨L, G, qg, sv, O', hp, hG, ng, gk, s, os, hW, hn, hob, mo, hlen, rfl⟩
  have done : paysV now sv O' = ([], sv, O') → ∃ (q : Option (Nat × Nat)) (sv : SV) (O' : List (List Int)) (L : List (Int × List Int)) (G' : List GP), paysV now v.s v.O = (L, sv, O') ∧ V.sl qg G.length = .sl q G'.length ∧ NewSl h hh q G'.length 6 (G'.flatMap gC) ∧ (∀ x ∈ G', gOk hh x) ∧ G'.map Prod.fst = L.map (pg v) ∧ RChS hh d (v.to sv O') ∧ Ab.Mod d.all h hh := fun e => by
    rw [e, List.append_nil] at hp
    exact ⟨qg, sv, O', L, G, hp, rfl, ng, gk, hG, s, mo⟩
  obtain ⟨po, bx, rw0⟩ := s.box
  conv => whnf
  refine ⟨_, Cell.mk bx rfl, ?_⟩
  conv => whnf
  cases O' with
  | nil =>
    conv => whnf
    exact done rfl
  | cons b O2 =>
  refine br_mk (fun ha => ?_) (fun ha => ?_)
  rotate_left
  · exact absurd ha (by
      have : (((b :: O2).length : Nat) : Int) > 0 := by rw [List.length_cons]; omega
      show ¬ decide ((((b :: O2).length : Nat) : Int) > 0) = false
      rw [decide_eq_true this]
      simp)
  conv => whnf
  refine ⟨_, Cell.mk bx rfl, ?_⟩
  conv => whnf
  refine (rRoomC s.sd os).mono ?_
  rintro _ h1 ⟨eh, rfl⟩
  subst eh
  conv => whnf
  refine br_mk (fun hb0 => ?_) (fun hb0 => ?_)
  rotate_left
  · conv => whnf
    have hb : ¬ roomV sv.W sv.ov sv.C.length > 0 := of_decide_eq_false hb0
    exact done (by rw [paysV, if_neg (by unfold roomOf; omega)])
  have hb : 0 < roomOf sv := of_decide_eq_true hb0
  conv => whnf
  refine ⟨[0, 1, 2, 3, 4, 5, 6, 7, 8, 9, 10, 11, 12, 13, 14, 15, 16], [0, 1, 3, 7, 0, 0, 32, 96, 224, 480, 992, 2047, 4095, 8191, 8191, 16383, 65535], by kernel_rfl, ?_⟩
  conv => whnf
  refine ⟨_, Cell.mk bx rfl, ?_⟩
  conv => whnf
  refine ⟨_, Cell.mk bx rfl, ?_⟩
  conv => whnf
  have rwT := Rws.tail rw0
  have rw0' : Rws h1 po (b :: O2) := rw0
  obtain ⟨i3, c3, px, w1, w2, hxb⟩ := rw0'.cell (j := 0) (by simp)
  have hxb : RoSl h1 px b.length 1 (ints .u8 b) := hxb
  refine ⟨i3, c3, 0, w1, rfl, (by show 0 < (b :: O2).length; rw [List.length_cons]; omega), ?_⟩
  conv => whnf
  refine ⟨_, w2, ?_⟩
  conv => whnf
  have hxl := hob b (by simp)
  obtain ⟨z1, z2, z3, z4⟩ := send_room os hb now b
  have hnx : sv.N + ((O2.length : Int) + 1) = v.s.N + v.O.length := by
    rw [List.length_cons] at hn
    omega
  have hlx : G.length + (O2.length + 1) = v.O.length := by
    rw [List.length_cons] at hlen
    omega
  refine (rSendC (v := sv) s.sd os (by omega) hn0 hn1 hxb.is hxl).mono ?_
  rintro _ h5 ⟨rfl, s5, m5⟩
  rw [z1]
  have o5 := os.send now (body := b) hxl
  have hpO : paysV now sv (b :: O2) = ((sv.N, b) :: (paysV now (sendV sv now b).2 O2).1, (paysV now (sendV sv now b).2 O2).2) := by rw [paysV, if_pos hb]
  generalize (sendV sv now b).2 = sv2 at s5 z2 z3 z4 o5 hpO
  have nsep := s.sep
  have box5 := m5.get bx (.inl nsep.1)
  have tk5 := s.tk.get m5 nsep.2.1
  have gk5 : ∀ y ∈ G, gOk h5 y := fun y hy => (gk y hy).get m5
  have ng5 := ng.1.get m5 (fun i o e => .inl (fun k => by
    have := ng.2 i o e
    have := hlt i (.inl k)
    omega))
  have mo5 := mo.trans' m5 (S2 := d.all) (fun _ _ k => k) (fun _ _ k => .inl k)
  conv => whnf
  refine ⟨_, rfl, ?_⟩
  conv => whnf
  refine ⟨_, rfl, ?_⟩
  conv => whnf
  refine ⟨_, Cell.mk box5 rfl, ?_⟩
  conv => whnf
  refine ⟨⟨_, (rw0'.get m5).choose_spec.1.is⟩, 1, rfl, (by show 1 ≤ (b :: O2).length; rw [List.length_cons]; omega), Nat.le_refl _, ?_⟩
  conv => whnf
  refine ⟨_, _, box5, Nat.le_of_ble_eq_true rfl, ?_⟩
  conv => whnf
  have box6 : (h5.set d.c (.row true 4 [i64 v.conn, .ptr (some (d.s.g, 0)), .ptr (some (d.t, 0)), .sl (slp po (1 * 1)) O2.length])).obj d.c = some (.row true 4 [i64 v.conn, .ptr (some (d.s.g, 0)), .ptr (some (d.t, 0)), .sl (slp po (1 * 1)) O2.length]) := H.obj_set_same box5
  have m6 : Ab.Mod (one d.c) h5 (h5.set d.c (.row true 4 [i64 v.conn, .ptr (some (d.s.g, 0)), .ptr (some (d.t, 0)), .sl (slp po (1 * 1)) O2.length])) := Mod.set rfl box5 rfl
  have c6 : RChS (h5.set d.c (.row true 4 [i64 v.conn, .ptr (some (d.s.g, 0)), .ptr (some (d.t, 0)), .sl (slp po (1 * 1)) O2.length])) d (v.to sv2 O2) := by
    refine ⟨⟨_, box6, (rwT.get m5).get m6⟩, s5.get m6 (fun i hi k => nsep.1 (by have : i = d.c := k; rw [← this]; exact hi)), ?_, nsep⟩
    show RTkC _ d.t sv2.W v.N v.C
    rw [z4]
    exact tk5.get m6 (fun k => nsep.2.2 (Eq.symm k))
  have ng6 := ng5.get m6 (fun i o e => .inl (fun k => by
    have : i = d.c := k
    have := ng.2 i o e
    have := hlt d.c (.inr (.inl rfl))
    omega))
  have mo6 := mo5.trans' m6 (S2 := d.all) (fun _ _ k => k) (fun _ _ k => .inr (.inl k))
  refine (rData c6 o5 sv.N).mono ?_
  rintro _ h7 ⟨pp, rfl, gp, m7⟩
  have c7 := c6.old m7
  have ng7 : NewSl h h7 qg G.length 6 (G.flatMap gC) := ⟨SlIs.old ng6 m7 (fun _ _ k => k), ng.2⟩
  have mo7 := mo6.trans' m7 (S2 := d.all) (fun _ _ k => k) (fun _ _ k => k.elim)
  have hpg : dataV (v.to sv2 O2) sv.N = pg v (sv.N, b) := by
    show (⟨v.conn, 1, sv.N, v.N, 0, bodyV sv2.C sv.N⟩ : GV) = _
    rw [z2]
    rfl
  rw [hpg] at gp ⊢
  conv => whnf
  obtain ⟨y1, y2, y3⟩ := app1 ng7 mo7 (gC (pg v (sv.N, b), pp)) rfl
  refine ⟨_, _, y1, y2, by rw [show (T.at_ 58).bytes = 64 from rfl]; omega, by omega, fun qg2 hY hs2 hm2 hf2 => ?_⟩
  obtain ⟨ng8, mo8, my⟩ := y3 qg2 hY hs2 hm2 hf2
  have e6 : G.flatMap gC ++ gC (pg v (sv.N, b), pp) = (G ++ [(pg v (sv.N, b), pp)]).flatMap gC := by rw [List.flatMap_append]; simp
  have e7 : G.length + 1 = (G ++ [(pg v (sv.N, b), pp)]).length := by simp
  rw [e6, e7] at ng8
  conv => whnf
  rw [e7]
  have hq8 : ∀ i, inSl qg i → h.next ≤ i := fun i ⟨o, e⟩ => ng.2 i o e
  refine ⟨_, Forget.cons rfl (Forget.cons rfl (Forget.cons rfl (Forget.nil _))), ⟨L ++ [(sv.N, b)], G ++ [(pg v (sv.N, b), pp)], qg2, sv2, O2, ?_, by rw [List.map_append, List.map_append, hG]; rfl, ng8, fun y hy => ?_, c7.get my (fun i hi k => ?_), o5, z4.trans hW, by omega, fun c hc => hob c (List.mem_cons_of_mem _ hc), mo8, by rw [← e7]; omega, rfl⟩, ?_⟩
  · rw [hp, hpO]
    simp
  · rcases List.mem_append.1 hy with hy | hy
    · exact (((gk5 y hy).get m6).get m7).get my
    · have : y = (pg v (sv.N, b), pp) := by simpa using hy
      subst this
      exact gp.get my
  · have := hq8 i k
    have : i < h.next := hlt i hi
    omega
  · show v.O.length - (G ++ [(pg v (sv.N, b), pp)]).length < v.O.length - G.length
    rw [← e7]
    omega
def RPushQ (h : H) (d : RCId) (R : (List GV × Int) × CV) (r : V) (h' : H) : Prop :=
  ∃ q, r = .tup [.sl q R.1.1.length, i64 R.1.2] ∧ Grams h' q R.1.1 ∧ RChS h' d R.2 ∧ Ab.Mod d.all h h'
def RRecvQ (h : H) (d : RCId) (R : (List (List Int) × List GV) × CV) (r : V) (h' : H) : Prop :=
  ∃ qr qg, r = .tup [.sl qr R.1.1.length, .sl qg R.1.2.length] ∧ Rws h' qr R.1.1 ∧ Grams h' qg R.1.2 ∧ RChS h' d R.2 ∧ Ab.Mod d.all h h'
theorem RSdC.ov {h : H} {d : RId} {v : SV} (s : RSdC h d v) : Cell h d.g 4 (.bool v.ov) := by
  obtain ⟨S, ⟨⟨p, h1, _⟩, _⟩, _⟩ := s
  exact Cell.mk h1 rfl
set_option maxHeartbeats 1000000 in
theorem rPush {h : H} {d : RCId} {v : CV} (s : RChS h d v) (o : COk v) (hN : v.s.N + v.O.length ≤ 10000000) {now : Int} (hn0 : -1000000000 ≤ now) (hn1 : now ≤ 1000000000) {q : Option (Nat × Nat)} {m : Nat} {body : List Int} (nm : SlIs h q m false 1 (ints .u8 body)) (hm : m ≤ 100000) :
    ACalls Tryz.prog 65 [.ptr (some (d.c, 0)), i64 now, .sl q m] h (RPushQ h d (pushV v now body)) := by
  have hml := slo_len nm
  have hol := o.o
  have hlt : ∀ i, d.all i → i < h.next := fun i hi => s.lt hi
  obtain ⟨po, bx, rw0⟩ := s.box
  refine call_ Tryz.func65 rfl rfl (by kernel_rfl) ?_
  conv => whnf
  refine ⟨_, Cell.mk bx rfl, ?_⟩
  conv => whnf
  refine ⟨_, s.sd.ov, ?_⟩
  cases hov : v.s.ov with
  | true =>
    conv => whnf
    have hv : pushV v now body = (([], 6), v) := by rw [pushV, if_pos hov]
    rw [hv]
    exact ⟨none, rfl, Grams.nil _, s, mod_refl _ _⟩
  | false =>
  conv => whnf
  refine ⟨_, Cell.mk bx rfl, ?_⟩
  conv => whnf
  refine br_mk (fun hf => ?_) (fun hf => ?_)
  · conv => whnf
    have hf : 64 ≤ v.O.length := by
      have : (v.O.length : Int) ≥ 64 := by simpa using hf
      omega
    have hv : pushV v now body = (([], 5), v) := by rw [pushV, if_neg (by rw [hov]; simp), if_pos hf]
    rw [hv]
    exact ⟨none, rfl, Grams.nil _, s, mod_refl _ _⟩
  have hf : ¬ 64 ≤ v.O.length := by
    have : ¬ (v.O.length : Int) ≥ 64 := by simpa using hf
    omega
  have hv : pushV v now body = (((paysV now v.s (v.O ++ [body])).1.map (pg v), 0), v.to (paysV now v.s (v.O ++ [body])).2.1 (paysV now v.s (v.O ++ [body])).2.2) := by rw [pushV, if_neg (by rw [hov]; simp), if_neg hf]
  rw [hv]
  conv => whnf
  have mP := Mod.push none_ h (.row true 1 [])
  refine ⟨_, Cell.mk (mP.get bx (.inl (fun k => k))) rfl, ?_⟩
  conv => whnf
  obtain ⟨G, g1, g2, g3⟩ := rw0
  obtain ⟨y1, y2, y3⟩ := app0 (h0 := h) g1.is
  refine ⟨_, _, y1, y2, by rw [show (T.at_ 38).bytes = 24 from rfl]; omega, by omega, fun p1 h1 hs1 hm1 hf1 => ?_⟩
  obtain ⟨n1, mo1⟩ := y3 p1 h1 hs1 hm1 hf1
  conv => whnf
  rw [Nat.zero_add v.O.length]
  obtain ⟨z1, z2, z3⟩ := app0 (h0 := h) (SlIs.old nm mo1 (fun _ _ k => k))
  refine ⟨_, _, z1, z2, by rw [show (T.at_ 5).bytes = 1 from rfl]; omega, by omega, fun p2 h2 hs2 hm2 hf2 => ?_⟩
  obtain ⟨n2, mo2⟩ := z3 p2 h2 hs2 hm2 hf2
  conv => whnf
  rw [Nat.zero_add m]
  have mo12 := mod_none mo1 mo2
  obtain ⟨x1, x2, x3⟩ := app1 (NewSl.kept n1 mo2) mo12 [.sl p2 m] rfl
  refine ⟨_, _, x1, x2, by rw [show (T.at_ 38).bytes = 24 from rfl]; omega, by omega, fun p3 h3 hs3 hm3 hf3 => ?_⟩
  obtain ⟨n3, mo3, my3⟩ := x3 p3 h3 hs3 hm3 hf3
  conv => whnf
  have bx3 := mo3.get bx (.inl (fun k => k))
  refine ⟨_, _, bx3, Nat.le_of_ble_eq_true rfl, ?_⟩
  conv => whnf
  have n2' : NewSl h h3 p2 m 1 (ints .u8 body) := ⟨n2.1.get my3 (fun i o e => .inl (fun k => by
    have a1 := n2.2 i o e
    have a2 := SlIs.own_lt n1.1 k
    omega)), fun i o e => by
    have a1 := n2.2 i o e
    have a2 := mo1.next
    omega⟩
  have hdc : d.c < h.next := hlt d.c (.inr (.inl rfl))
  change ACalls Tryz.prog 73 [.ptr (some (d.c, 0)), i64 now] (h3.set d.c (.row true 4 [i64 v.conn, .ptr (some (d.s.g, 0)), .ptr (some (d.t, 0)), .sl p3 (v.O.length + 1)])) _
  generalize hbx : Ab.Obj.row true 4 [i64 v.conn, .ptr (some (d.s.g, 0)), .ptr (some (d.t, 0)), .sl p3 (v.O.length + 1)] = bo
  have bx5 : (h3.set d.c bo).obj d.c = some bo := H.obj_set_same bx3
  have m5 : Ab.Mod (one d.c) h3 (h3.set d.c bo) := Mod.set rfl bx3 rfl
  have n3k := NewSl.keep n3 m5 (fun i k => by have : i = d.c := k; omega)
  have n2k := NewSl.keep n2' m5 (fun i k => by have : i = d.c := k; omega)
  have mo5 : Ab.Mod d.all h (h3.set d.c bo) := mo3.trans' m5 (S2 := d.all) (fun _ _ k => k.elim) (fun _ _ k => .inr (.inl k))
  obtain ⟨i, a1, a2, a3⟩ := NR.freeze (.inl n3k) mo5
  obtain ⟨j, b1, b2, b3⟩ := ((NR.ro (.inl n2k) i : NR h ((h3.set d.c bo).ro i) p2 m 1 (ints .u8 body))).freeze a3
  refine froz i (froz j ?_)
  have s3 := s.get mo3 (fun i _ k => k)
  obtain ⟨_, sd3, tk3, sep3⟩ := s3
  have hni : ∀ k, d.all k → k ≠ i ∧ k ≠ j := fun k hk => by
    have := hlt k hk
    omega
  have c5 : RChS (((h3.set d.c bo).ro i).ro j) d (v.to v.s (v.O ++ [body])) := by
    refine ⟨⟨p3, ?_, G ++ [(p2, body)], ?_, fun x hx => ?_, ?_⟩, RSdC.ro (RSdC.ro (sd3.get m5 (fun k hk e => sep3.1 (by have : k = d.c := e; rw [← this]; exact hk))) (fun k => (hni i (.inl k)).1 rfl)) (fun k => (hni j (.inl k)).2 rfl), RTkC.ro (RTkC.ro (tk3.get m5 (fun e => sep3.2.2 (Eq.symm e))) (hni d.t (.inr (.inr rfl))).1) (hni d.t (.inr (.inr rfl))).2, sep3⟩
    · rw [H.ro_ne _ (hni d.c (.inr (.inl rfl))).2, H.ro_ne _ (hni d.c (.inr (.inl rfl))).1, bx5, ← hbx]
      show _ = some (Ab.Obj.row true 4 [i64 v.conn, .ptr (some (d.s.g, 0)), .ptr (some (d.t, 0)), .sl p3 (v.O ++ [body]).length])
      rw [List.length_append]
      rfl
    · show RoSl _ p3 (v.O ++ [body]).length 1 _
      rw [List.length_append, List.flatMap_append]
      have e1 : ([(p2, body)] : List Bd).flatMap slC = [.sl p2 m] := by
        show [V.sl p2 body.length] = _
        rw [hml]
      rw [e1]
      exact a2.ro j
    · rcases List.mem_append.1 hx with hx | hx
      · exact (((((g2 x hx).get mo3).get m5).ro i).ro j)
      · have : x = (p2, body) := by simpa using hx
        subst this
        show RoSl _ p2 body.length 1 (ints .u8 body)
        rw [← hml]
        exact b2
    · rw [List.map_append, g3]
      rfl
  have o5 : COk (v.to v.s (v.O ++ [body])) := ⟨o.s, o.k, o.n0, by show (v.O ++ [body]).length ≤ 1000; rw [List.length_append]; show v.O.length + 1 ≤ 1000; omega, fun c hc => by
    rcases List.mem_append.1 hc with hc | hc
    · exact o.ob c hc
    · have : c = body := by simpa using hc
      rw [this]
      omega⟩
  refine (rPays c5 o5 (by
    show v.s.N + ((v.O ++ [body]).length : Int) ≤ 100000000
    rw [List.length_append]
    show v.s.N + ((v.O.length + 1 : Nat) : Int) ≤ 100000000
    omega) hn0 hn1).mono ?_
  rintro _ h6 ⟨q6, rfl, gr6, c6, m6⟩
  conv => whnf
  refine ⟨q6, ?_, gr6, c6, b3.trans' m6 (S2 := d.all) (fun _ _ k => k) (fun _ _ k => k)⟩
  show V.tup [.sl q6 (paysV now v.s (v.O ++ [body])).1.length, i64 0] = V.tup [.sl q6 ((paysV now v.s (v.O ++ [body])).1.map (pg v)).length, i64 0]
  rw [List.length_map]
set_option maxHeartbeats 2000000 in
theorem rRecv {h : H} {d : RCId} {v : CV} (s : RChS h d v) (o : COk v) (hN : v.s.N + v.O.length ≤ 10000000) (hNt : v.N ≤ 1000000) {now : Int} (hn0 : -1000000000 ≤ now) (hn1 : now ≤ 1000000000) {g : GV} {p : Option (Nat × Nat)} (gk : ∀ h', Ab.Mod d.all h h' → SlIs h' p g.body.length false 1 (ints .u8 g.body)) (hseq : inI g.seq) (hm : g.body.length ≤ 100000) :
    ACalls Tryz.prog 51 [.ptr (some (d.c, 0)), i64 now, .agg (gC (g, p))] h (RRecvQ h d (recvV v now g)) := by
  have hol := o.o
  have hlt : ∀ i, d.all i → i < h.next := fun i hi => s.lt hi
  refine ACalls.ro (Q := fun r h' => ∃ (qr qg : Option (Nat × Nat)) (G : List GP), r = .tup [.sl qr (recvV v now g).1.1.length, .sl qg G.length] ∧ Rws h' qr (recvV v now g).1.1 ∧ NewSl h h' qg G.length 6 (G.flatMap gC) ∧ (∀ x ∈ G, gOk h' x) ∧ G.map Prod.fst = (recvV v now g).1.2 ∧ RChS h' d (recvV v now g).2 ∧ Ab.Mod d.all h h') ?_ (by
    rintro r h' ⟨qr, qg, G, rfl, rw', ng, gk', hg, sc, m⟩
    obtain ⟨i, a1, a2, a3⟩ := ng.freeze m
    have hGL : G.length = (recvV v now g).1.2.length := by
      have := congrArg List.length hg
      simpa using this
    refine ⟨i, qr, qg, by rw [hGL], rw'.ro i, ⟨G, by rw [← hGL]; exact a2, fun x hx => (gk' x hx).ro i, hg⟩, sc.ro (fun k => ?_), a3⟩
    have : i < h.next := hlt i k
    omega)
  have mP := Mod.push none_ h (.row true 6 (gC (g, p)))
  have gm : (h.push (.row true 6 (gC (g, p)))).obj h.next = some (.row true 6 (gC (g, p))) := H.obj_push_new _ _
  have s1 := s.old mP
  obtain ⟨po, bx, _⟩ := s1.box
  have nay : recvB v g = true → ∃ (qr qg : Option (Nat × Nat)) (G : List GP), V.tup [.sl none 0, .sl none 0] = .tup [.sl qr (recvV v now g).1.1.length, .sl qg G.length] ∧ Rws (h.push (.row true 6 (gC (g, p)))) qr (recvV v now g).1.1 ∧ NewSl h (h.push (.row true 6 (gC (g, p)))) qg G.length 6 (G.flatMap gC) ∧ (∀ x ∈ G, gOk (h.push (.row true 6 (gC (g, p)))) x) ∧ G.map Prod.fst = (recvV v now g).1.2 ∧ RChS (h.push (.row true 6 (gC (g, p)))) d (recvV v now g).2 ∧ Ab.Mod d.all h (h.push (.row true 6 (gC (g, p)))) := fun e => by
    have hv : recvV v now g = (([], []), v) := by rw [recvV, if_pos e]
    rw [hv]
    exact ⟨none, none, [], rfl, Rws.nil _, NewSl.nil _ _ _, (fun x hx => by cases hx), rfl, s1, mP.mono (fun _ _ k => k.elim)⟩
  refine call_ Tryz.func51 rfl rfl (by kernel_rfl) ?_
  conv => whnf
  refine ⟨[0, 1, 2, 3, 4, 5, 6, 7, 8, 9, 10, 11, 12, 13, 14, 15, 16, 17, 18, 19, 20, 21, 22, 23, 24, 25], [0, 1, 0, 4, 12, 28, 63, 127, 255, 511, 1023, 2047, 4095, 8191, 16383, 32767, 65535, 131071, 262143, 524287, 1048575, 2097151, 4194303, 8388607, 16777215, 33554431], by kernel_rfl, ?_⟩
  conv => whnf
  refine ⟨_, Cell.mk gm rfl, ?_⟩
  conv => whnf
  refine ⟨_, Cell.mk bx rfl, ?_⟩
  conv => whnf
  refine br_mk (fun ha => ?_) (fun ha => ?_)
  · conv => whnf
    have ha : g.conn ≠ v.conn := by simpa using ha
    exact nay (by rw [recvB, decide_eq_true ha]; simp)
  conv => whnf
  have ha : g.conn = v.conn := by simpa using ha
  refine ⟨_, Cell.mk gm rfl, ?_⟩
  conv => whnf
  have W2 : ∀ K : Prop, (∀ hb : g.kind = 1 ∨ g.kind = 2, v.s.ov = false → recvB v g = false → K) → True := fun _ _ => trivial
  refine br_mk (fun hb => ?_) (fun hb => ?_)
  · conv => whnf
    have hb : g.kind ≠ 1 := by simpa using hb
    refine ⟨_, Cell.mk gm rfl, ?_⟩
    conv => whnf
    refine br_mk (fun hc => ?_) (fun hc => ?_)
    · conv => whnf
      have hc : g.kind ≠ 2 := by simpa using hc
      exact nay (by rw [recvB, decide_eq_true hb, decide_eq_true hc]; simp)
    have hc : g.kind = 2 := by simpa using hc
    conv => whnf
    refine ⟨_, Cell.mk bx rfl, ?_⟩
    conv => whnf
    refine ⟨_, s1.sd.ov, ?_⟩
    cases hov : v.s.ov with
    | true =>
      conv => whnf
      exact nay (by rw [recvB, hov]; rfl)
    | false =>
    conv => whnf
    have hB : recvB v g = false := by rw [recvB, hov, ha, hc]; simp
    have hW2 : (recvS v g).W = v.s.W := ackV_W v.s g.ack
    have hN2 : (recvS v g).N = v.s.N := ackV_N v.s g.ack
    have o2 : SOk (recvS v g) := o.s.ack g.ack
    have hW : 1 ≤ v.s.W ∧ v.s.W ≤ 16 := by simpa [okW] using o.s.ok
    refine ⟨[0, 1, 2, 3, 4, 5, 6], [0, 1, 3, 7, 0, 16, 63], by kernel_rfl, ?_⟩
    conv => whnf
    refine ⟨_, Cell.mk bx rfl, ?_⟩
    conv => whnf
    refine ⟨_, Cell.mk gm rfl, ?_⟩
    conv => whnf
    refine (rAckC s1.sd o.s g.ack).mono ?_
    rintro _ h2 ⟨rfl, t2, m2⟩
    have c2 := s1.sender t2 m2 hW2
    have hnd : ¬ d.s.all h.next := fun k => by
      have := hlt _ (.inl k)
      omega
    have gm2 := m2.get gm (.inl hnd)
    have mo2 : Ab.Mod d.all h h2 := mP.trans' m2 (fun _ _ k => k.elim) (fun _ _ k => .inl k)
    conv => whnf
    refine ⟨_, Cell.mk gm2 rfl, ?_⟩
    conv => whnf
    refine br_mk (fun hd => ?_) (fun hd => ?_)
    · exact absurd hd (by rw [show (g, p).1.kind = 2 from hc]; simp)
    conv => whnf
    have hM : recvM v g = { v with s := recvS v g } := by rw [recvM, if_neg hb]
    have oM : COk { v with s := recvS v g } := ⟨o2, by show OkH (recvS v g).W v.N v.C; rw [hW2]; exact o.k, o.n0, o.o, o.ob⟩
    have hv : recvV v now g = (([], [] ++ (paysV now (recvM v g).s v.O).1.map (pg (recvM v g))), (recvM v g).to (paysV now (recvM v g).s v.O).2.1 (paysV now (recvM v g).s v.O).2.2) := by rw [recvV, if_neg (by rw [hB]; simp), if_neg hb, if_neg hb]
    rw [hM] at hv
    rw [hv]
    refine (rPays c2 oM (by show (recvS v g).N + (v.O.length : Int) ≤ _; omega) hn0 hn1).mono ?_
    rintro _ h6 ⟨q6, rfl, gr6, c6, m6⟩
    obtain ⟨G6, x1, x2, x3⟩ := gr6
    have mo6 := mo2.trans' m6 (S2 := d.all) (fun _ _ k => k) (fun _ _ k => k)
    have hpl := (pays_ok now v.O o2 o.ob).2.2.2.1
    have x1 : RoSl h6 q6 ((paysV now (recvS v g) v.O).1.map (pg { v with s := recvS v g })).length 6 (G6.flatMap gC) := x1
    rw [List.length_map] at x1
    have hGl : (paysV now (recvS v g) v.O).1.length = G6.length := by
      have := congrArg List.length x3
      rw [List.length_map, List.length_map] at this
      exact this.symm
    have nq : NewSl h h6 none 0 6 [] := NewSl.nil _ _ _
    conv => whnf
    refine ⟨_, _, nq.1, x1.is, by rw [show (T.at_ 58).bytes = 64 from rfl]; show (0 + (paysV now (recvS v g) v.O).1.length) * 64 ≤ _; omega, (by show 0 + (paysV now (recvS v g) v.O).1.length ≤ _; omega), fun p7 h7 hs7 hm7 hf7 => ?_⟩
    obtain ⟨ng8, mo8⟩ := appN nq mo6 p7 h7 hs7 hm7 hf7
    have ng8 : NewSl h h7 p7 (0 + (paysV now (recvS v g) v.O).1.length) 6 ([] ++ G6.flatMap gC) := ng8
    rw [Nat.zero_add, hGl, List.nil_append] at ng8
    conv => whnf
    refine ⟨none, p7, G6, ?_, Rws.nil _, ng8, fun x hx => (x2 x hx).get hm7, by rw [x3]; rfl, c6.get hm7 (fun i hi k => ?_), mo8⟩
    · show V.tup [.sl none 0, .sl p7 (0 + (paysV now (recvS v g) v.O).1.length)] = _
      rw [Nat.zero_add, hGl]
      rfl
    · obtain ⟨o', k⟩ := k
      cases k
  · have hb : g.kind = 1 := by simpa using hb
    conv => whnf
    refine ⟨_, Cell.mk bx rfl, ?_⟩
    conv => whnf
    refine ⟨_, s1.sd.ov, ?_⟩
    cases hov : v.s.ov with
    | true =>
      conv => whnf
      exact nay (by rw [recvB, hov]; rfl)
    | false =>
    conv => whnf
    have hB : recvB v g = false := by rw [recvB, hov, ha, hb]; simp
    have hW2 : (recvS v g).W = v.s.W := ackV_W v.s g.ack
    have hN2 : (recvS v g).N = v.s.N := ackV_N v.s g.ack
    have o2 : SOk (recvS v g) := o.s.ack g.ack
    have hW : 1 ≤ v.s.W ∧ v.s.W ≤ 16 := by simpa [okW] using o.s.ok
    refine ⟨[0, 1, 2, 3, 4, 5, 6], [0, 1, 3, 7, 0, 16, 63], by kernel_rfl, ?_⟩
    conv => whnf
    refine ⟨_, Cell.mk bx rfl, ?_⟩
    conv => whnf
    refine ⟨_, Cell.mk gm rfl, ?_⟩
    conv => whnf
    refine (rAckC s1.sd o.s g.ack).mono ?_
    rintro _ h2 ⟨rfl, t2, m2⟩
    have c2 := s1.sender t2 m2 hW2
    have hnd : ¬ d.s.all h.next := fun k => by
      have := hlt _ (.inl k)
      omega
    have gm2 := m2.get gm (.inl hnd)
    have mo2 : Ab.Mod d.all h h2 := mP.trans' m2 (fun _ _ k => k.elim) (fun _ _ k => .inl k)
    conv => whnf
    refine ⟨_, Cell.mk gm2 rfl, ?_⟩
    conv => whnf
    refine br_mk (fun hd => ?_) (fun hd => ?_)
    rotate_left
    · exact absurd hd (by rw [show (g, p).1.kind = 1 from hb]; simp)
    conv => whnf
    have hM : recvM v g = ⟨recvS v g, (tkV (recvS v g).W v.N v.C g.seq g.body).2.2.1, (tkV (recvS v g).W v.N v.C g.seq g.body).2.2.2, v.conn, v.O⟩ := by rw [recvM, if_pos hb]
    have okh : OkH (recvS v g).W v.N v.C := by rw [hW2]; exact o.k
    have okw : okW (recvS v g).W = true := by rw [hW2]; exact o.s.ok
    obtain ⟨oh2, on1, on2, on3⟩ := okh.take (by omega) g.seq g.body
    have hn0' := o.n0
    have gk2 : SlIs h2 p g.body.length false 1 (ints .u8 g.body) := gk h2 mo2
    obtain ⟨po2, bx2, _⟩ := c2.box
    refine ⟨[0, 1, 2, 3, 4, 5, 6, 7, 8, 9, 10, 11, 12], [0, 1, 3, 7, 0, 16, 0, 64, 255, 511, 1023, 1023, 2047], by kernel_rfl, ?_⟩
    conv => whnf
    refine ⟨_, Cell.mk bx2 rfl, ?_⟩
    conv => whnf
    refine ⟨_, Cell.mk gm2 rfl, ?_⟩
    conv => whnf
    refine ⟨_, Cell.mk gm2 rfl, ?_⟩
    conv => whnf
    refine (take30c c2.tk okw okh o.n0 hNt hseq gk2 hm).mono ?_
    rintro _ h3 ⟨q3, rfl, rw3, t3, m3⟩
    have c3 := c2.taker t3 m3
    have mo3 := mo2.trans' m3 (S2 := d.all) (fun _ _ k => k) (fun _ _ k => .inr (.inr k))
    obtain ⟨po3, bx3, _⟩ := c3.box
    conv => whnf
    refine ⟨_, rfl, ?_⟩
    conv => whnf
    refine ⟨_, rfl, ?_⟩
    conv => whnf
    refine ⟨[0, 1, 2, 3, 4, 5, 6, 7, 8, 9, 10, 11, 12, 13, 14, 15], [0, 0, 2, 6, 14, 0, 32, 96, 224, 480, 992, 2016, 4094, 8190, 16383, 32767], by kernel_rfl, ?_⟩
    conv => whnf
    refine ⟨_, Cell.mk bx3 rfl, ?_⟩
    conv => whnf
    refine ⟨_, Cell.mk bx3 rfl, ?_⟩
    conv => whnf
    refine ⟨_, c3.tk.n, ?_⟩
    conv => whnf
    have oM : COk ⟨recvS v g, (tkV (recvS v g).W v.N v.C g.seq g.body).2.2.1, (tkV (recvS v g).W v.N v.C g.seq g.body).2.2.2, v.conn, v.O⟩ := ⟨o2, oh2, by show 0 ≤ (tkV (recvS v g).W v.N v.C g.seq g.body).2.2.1; omega, o.o, o.ob⟩
    have c3 : RChS h3 d ⟨recvS v g, (tkV (recvS v g).W v.N v.C g.seq g.body).2.2.1, (tkV (recvS v g).W v.N v.C g.seq g.body).2.2.2, v.conn, v.O⟩ := c3
    have hv : recvV v now g = (((tkV (recvS v g).W v.N v.C g.seq g.body).2.1, [⟨v.conn, 2, 0, (recvM v g).N, 0, []⟩] ++ (paysV now (recvM v g).s v.O).1.map (pg (recvM v g))), (recvM v g).to (paysV now (recvM v g).s v.O).2.1 (paysV now (recvM v g).s v.O).2.2) := by rw [recvV, if_neg (by rw [hB]; simp), if_pos hb, if_pos hb]
    rw [hM] at hv
    rw [hv]
    have rw3 : Rws h3 q3 (tkV (recvS v g).W v.N v.C g.seq g.body).2.1 := rw3
    obtain ⟨ga, hga⟩ : ∃ ga : GP, ga = (⟨v.conn, 2, 0, (tkV (recvS v g).W v.N v.C g.seq g.body).2.2.1, 0, []⟩, none) := ⟨_, rfl⟩
    have nq : NewSl h h3 none 0 6 [] := NewSl.nil _ _ _
    obtain ⟨y1, y2, y3⟩ := app1 nq mo3 [i64 v.conn, i64 2, i64 0, i64 (tkV (recvS v g).W v.N v.C g.seq g.body).2.2.1, i64 0, .sl none 0] rfl
    refine ⟨_, _, y1, y2, by decide, by decide, fun p5 h5 hs5 hm5 hf5 => ?_⟩
    obtain ⟨n5, mo5, my⟩ := y3 p5 h5 hs5 hm5 hf5
    have n5 : NewSl h h5 p5 1 6 [i64 v.conn, i64 2, i64 0, i64 (tkV (recvS v g).W v.N v.C g.seq g.body).2.2.1, i64 0, .sl none 0] := n5
    have c5 := c3.get my (fun i _ ⟨o', k⟩ => by cases k)
    conv => whnf
    refine (rPays c5 oM (by show (recvS v g).N + (v.O.length : Int) ≤ _; omega) hn0 hn1).mono ?_
    rintro _ h6 ⟨q6, rfl, gr6, c6, m6⟩
    obtain ⟨G6, x1, x2, x3⟩ := gr6
    have n6 : NewSl h h6 p5 1 6 [i64 v.conn, i64 2, i64 0, i64 (tkV (recvS v g).W v.N v.C g.seq g.body).2.2.1, i64 0, .sl none 0] := ⟨n5.1.get m6 (fun i o' e => .inl (fun k => by
      have := hlt i k
      have := n5.2 i o' e
      omega)), n5.2⟩
    have mo6 := mo5.trans' m6 (S2 := d.all) (fun _ _ k => k) (fun _ _ k => k)
    have hpl := (pays_ok now v.O o2 o.ob).2.2.2.1
    have x1 : RoSl h6 q6 ((paysV now (recvS v g) v.O).1.map (pg ⟨recvS v g, (tkV (recvS v g).W v.N v.C g.seq g.body).2.2.1, (tkV (recvS v g).W v.N v.C g.seq g.body).2.2.2, v.conn, v.O⟩)).length 6 (G6.flatMap gC) := x1
    rw [List.length_map] at x1
    have hGl : (paysV now (recvS v g) v.O).1.length = G6.length := by
      have := congrArg List.length x3
      rw [List.length_map, List.length_map] at this
      exact this.symm
    conv => whnf
    refine ⟨_, _, n6.1, x1.is, by rw [show (T.at_ 58).bytes = 64 from rfl]; show (1 + (paysV now (recvS v g) v.O).1.length) * 64 ≤ _; omega, (by show 1 + (paysV now (recvS v g) v.O).1.length ≤ _; omega), fun p7 h7 hs7 hm7 hf7 => ?_⟩
    obtain ⟨ng8, mo8⟩ := appN n6 mo6 p7 h7 hs7 hm7 hf7
    have hgc : [i64 v.conn, i64 2, i64 0, i64 (tkV (recvS v g).W v.N v.C g.seq g.body).2.2.1, i64 0, .sl none 0] ++ G6.flatMap gC = (ga :: G6).flatMap gC := by
      rw [hga]
      rfl
    have ng8 : NewSl h h7 p7 (ga :: G6).length 6 ((ga :: G6).flatMap gC) := by
      rw [List.length_cons, ← hGl, Nat.add_comm, ← hgc]
      exact ng8
    conv => whnf
    refine ⟨q3, p7, ga :: G6, ?_, ((rw3.get my).get m6).get hm7, ng8, fun x hx => ?_, ?_, c6.get hm7 (fun i hi k => ?_), mo8⟩
    · show V.tup [.sl q3 (tkV (recvS v g).W v.N v.C g.seq g.body).2.1.length, .sl p7 (1 + (paysV now (recvS v g) v.O).1.length)] = _
      rw [hGl, Nat.add_comm]
      rfl
    · rcases List.mem_cons.1 hx with rfl | hx
      · rw [hga]
        exact RoSl.nil _ _ _
      · exact (x2 x hx).get hm7
    · rw [List.map_cons, x3, hga]
      rfl
    · obtain ⟨o', k⟩ := k
      have := n5.2 i o' k
      have := hlt i hi
      omega
set_option maxHeartbeats 2000000 in
theorem rPass {h : H} {d : RCId} {v : CV} (s : RChS h d v) (o : COk v) (hN : v.s.N + v.O.length ≤ 10000000) {now : Int} (hn0 : -1000000000 ≤ now) (hn1 : now ≤ 1000000000) :
    ACalls Tryz.prog 42 [.ptr (some (d.c, 0)), i64 now] h (RPushQ h d (passV v now)) := by
  have hol := o.o
  have hlt : ∀ i, d.all i → i < h.next := fun i hi => s.lt hi
  obtain ⟨w1, w2, w3, w4⟩ := againV_W v.s now
  have wl := again_len o.s now
  refine ACalls.ro (Q := fun r h' => ∃ (q : Option (Nat × Nat)) (G : List GP), r = .tup [.sl q G.length, i64 (passV v now).1.2] ∧ NewSl h h' q G.length 6 (G.flatMap gC) ∧ (∀ x ∈ G, gOk h' x) ∧ G.map Prod.fst = (passV v now).1.1 ∧ RChS h' d (passV v now).2 ∧ Ab.Mod d.all h h') ?_ (by
    rintro r h' ⟨q, G, rfl, ng, gk, hg, sc, m⟩
    obtain ⟨i, a1, a2, a3⟩ := ng.freeze m
    have hGL : G.length = (passV v now).1.1.length := by
      have := congrArg List.length hg
      simpa using this
    refine ⟨i, q, by rw [hGL], ⟨G, by rw [← hGL]; exact a2, fun x hx => (gk x hx).ro i, hg⟩, sc.ro (fun k => ?_), a3⟩
    have : i < h.next := hlt i k
    omega)
  refine call_ Tryz.func42 rfl rfl (by kernel_rfl) ?_
  conv => whnf
  obtain ⟨po, bx, _⟩ := s.box
  refine ⟨_, Cell.mk bx rfl, ?_⟩
  conv => whnf
  refine (rAgainC s.sd o.s hn0 hn1).mono ?_
  rintro _ h2 ⟨qa, rfl, ra, t2, m2⟩
  have c2 : RChS h2 d (passM v now) := s.sender t2 m2 w1
  have mo2 : Ab.Mod d.all h h2 := m2.mono (fun _ _ k => .inl k)
  conv => whnf
  refine ⟨_, rfl, ?_⟩
  conv => whnf
  refine ⟨_, rfl, ?_⟩
  conv => whnf
  rcases w3 with w3 | w3
  rotate_left
  · rw [w3]
    conv => whnf
    have hv : passV v now = (([], 6), passM v now) := by rw [passV, if_neg (by rw [w3]; decide), w3]
    rw [hv]
    exact ⟨none, [], rfl, NewSl.nil _ _ _, (fun x hx => by cases hx), rfl, c2, mo2⟩
  have hv : passV v now = (((againV v.s now).1.1.map (dataV (passM v now)) ++ (paysV now (passM v now).s v.O).1.map (pg (passM v now)), 0), (passM v now).to (paysV now (passM v now).s v.O).2.1 (paysV now (passM v now).s v.O).2.2) := by rw [passV, if_pos w3]
  rw [w3]
  have oM : SOk (passM v now).s := o.s.again now
  have cM : COk (passM v now) := ⟨oM, by show OkH (againV v.s now).2.W v.N v.C; rw [w1]; exact o.k, o.n0, o.o, o.ob⟩
  have hMN : (passM v now).s.N = v.s.N := w2
  generalize hl : (againV v.s now).1.1 = l at ra hv wl
  conv => whnf
  refine ⟨fun env hh => ∃ (k : Nat) (zk : Int) (G : List GP) (qg : Option (Nat × Nat)), k ≤ l.length ∧ zk = k ∧ G.length = k ∧ G.map Prod.fst = (l.take k).map (dataV (passM v now)) ∧ NewSl h hh qg k 6 (G.flatMap gC) ∧ (∀ x ∈ G, gOk hh x) ∧ RChS hh d (passM v now) ∧ RoSl hh qa l.length 1 (ints .i64 l) ∧ Ab.Mod d.all h hh ∧ env = [(9, i64 zk), (8, .sl qg k), (6, .sl qa l.length), (0, .ptr (some (d.c, 0))), (1, i64 now)],
    fun env _ => match get env 9 with
      | .int _ z => ((l.length : Int) - z).toNat
      | _ => 0, ⟨_, Forget.cons rfl (Forget.cons rfl (Forget.cons rfl (Forget.cons rfl (Forget.cons rfl (Forget.nil _))))), 0, _, [], none, Nat.zero_le _, rfl, rfl, rfl, NewSl.nil _ _ _, (fun x hx => by cases hx), c2, ra, mo2, rfl⟩, ?_⟩
  clear c2 ra mo2 t2 m2 s
  rintro _ hh ⟨k, zk, G, qg, hk, rfl, hGk, hG, ng, gk, c2, ra, mo, rfl⟩
  conv => whnf
  refine br_mk (fun hx => ?_) (fun hx => ?_)
  · conv => whnf
    have hx : k < l.length := by simpa using hx
    obtain ⟨i1, c1, x1, x2⟩ := slo_get ra.is hx
    refine ⟨i1, c1, k, x1, rfl, hx, ?_⟩
    conv => whnf
    refine ⟨_, x2, ?_⟩
    conv => whnf
    refine (rData c2 oM (l.getD k 0)).mono ?_
    rintro _ h7 ⟨pp, rfl, gp, m7⟩
    have c7 := c2.old m7
    have ng7 : NewSl h h7 qg k 6 (G.flatMap gC) := ⟨SlIs.old ng.1 m7 (fun _ _ k => k), ng.2⟩
    have mo7 := mo.trans' m7 (S2 := d.all) (fun _ _ k => k) (fun _ _ k => k.elim)
    conv => whnf
    obtain ⟨y1, y2, y3⟩ := app1 ng7 mo7 (gC (dataV (passM v now) (l.getD k 0), pp)) rfl
    refine ⟨_, _, y1, y2, by rw [show (T.at_ 58).bytes = 64 from rfl]; omega, by omega, fun qg2 hY hs2 hm2 hf2 => ?_⟩
    obtain ⟨ng8, mo8, my⟩ := y3 qg2 hY hs2 hm2 hf2
    have e6 : G.flatMap gC ++ gC (dataV (passM v now) (l.getD k 0), pp) = (G ++ [(dataV (passM v now) (l.getD k 0), pp)]).flatMap gC := by rw [List.flatMap_append]; simp
    rw [e6] at ng8
    conv => whnf
    rw [succ_i64 hx (by omega)]
    have hq8 : ∀ i, inSl qg i → h.next ≤ i := fun i ⟨o, e⟩ => ng.2 i o e
    refine ⟨_, Forget.cons rfl (Forget.cons rfl (Forget.cons rfl (Forget.cons rfl (Forget.cons rfl (Forget.nil _))))), ⟨k + 1, _, G ++ [(dataV (passM v now) (l.getD k 0), pp)], qg2, hx, rfl, by simp [hGk], ?_, ng8, fun y hy => ?_, c7.get my (fun i hi k => ?_), (ra.get m7).get my, mo8, rfl⟩, ?_⟩
    · rw [List.map_append, hG, take_snoc_ hx, List.map_append]
      rfl
    · rcases List.mem_append.1 hy with hy | hy
      · exact ((gk y hy).get m7).get my
      · have : y = (dataV (passM v now) (l.getD k 0), pp) := by simpa using hy
        subst this
        exact gp.get my
    · have := hq8 i k
      have : i < h.next := hlt i hi
      omega
    · show ((l.length : Int) - ((k + 1 : Nat) : Int)).toNat < ((l.length : Int) - (k : Int)).toNat
      omega
  conv => whnf
  have hx : k = l.length := by
    have : ¬ k < l.length := by simpa using hx
    omega
  subst hx
  rw [List.take_length] at hG
  refine (rPays c2 cM (by show (passM v now).s.N + (v.O.length : Int) ≤ _; omega) hn0 hn1).mono ?_
  rintro _ h6 ⟨q6, rfl, gr6, c6, m6⟩
  obtain ⟨G6, x1, x2, x3⟩ := gr6
  have hq8 : ∀ i, inSl qg i → h.next ≤ i := fun i ⟨o, e⟩ => ng.2 i o e
  have ng6 : NewSl h h6 qg l.length 6 (G.flatMap gC) := ⟨ng.1.get m6 (fun i o e => .inl (fun k => by
    have := hlt i k
    have := ng.2 i o e
    omega)), ng.2⟩
  have mo6 := mo.trans' m6 (S2 := d.all) (fun _ _ k => k) (fun _ _ k => k)
  have hpl := (pays_ok now v.O oM o.ob).2.2.2.1
  have x1 : RoSl h6 q6 ((paysV now (passM v now).s v.O).1.map (pg (passM v now))).length 6 (G6.flatMap gC) := x1
  rw [List.length_map] at x1
  have hGl : (paysV now (passM v now).s v.O).1.length = G6.length := by
    have := congrArg List.length x3
    rw [List.length_map, List.length_map] at this
    exact this.symm
  conv => whnf
  refine ⟨_, _, ng6.1, x1.is, by rw [show (T.at_ 58).bytes = 64 from rfl]; show (l.length + (paysV now (passM v now).s v.O).1.length) * 64 ≤ _; omega, (by show l.length + (paysV now (passM v now).s v.O).1.length ≤ _; omega), fun p7 h7 hs7 hm7 hf7 => ?_⟩
  obtain ⟨ng8, mo8⟩ := appN ng6 mo6 p7 h7 hs7 hm7 hf7
  have hln : l.length + (paysV now (passM v now).s v.O).1.length = (G ++ G6).length := by rw [List.length_append, hGk, hGl]
  have ng8 : NewSl h h7 p7 (l.length + (paysV now (passM v now).s v.O).1.length) 6 (G.flatMap gC ++ G6.flatMap gC) := ng8
  rw [hln, ← List.flatMap_append] at ng8
  conv => whnf
  rw [hv]
  refine ⟨p7, G ++ G6, ?_, ng8, fun x hx => ?_, ?_, c6.get hm7 (fun i hi k => ?_), mo8⟩
  · rw [← hln]
    rfl
  · rcases List.mem_append.1 hx with hx | hx
    · exact ((gk x hx).get m6).get hm7
    · exact (x2 x hx).get hm7
  · rw [List.map_append, hG, x3]
    rfl
  · have := hq8 i k
    have := hlt i hi
    omega
end Go.Proofs.YtmififfaljihgaaGreat
