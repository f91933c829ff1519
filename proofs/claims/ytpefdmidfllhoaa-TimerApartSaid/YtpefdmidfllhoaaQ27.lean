/- Timers: the document's; who is begun. -/
import Derived.Test.YtpefdmidfllhoaaQ26
set_option linter.unusedVariables false
namespace Go.Proofs.Ytpefdmidfllhoaa
open Go Go.Ab
theorem asc_get_ext {β : Type} : ∀ {A B : List (Int × β)}, AscS A → AscS B → (∀ k, sget A k = sget B k) → A = B := by
  intro A B ha hb h
  have hk : keys A = keys B := asc_ext ha hb (fun x => by rw [← sget_some, ← sget_some, h])
  have hl : A.length = B.length := by
    have := congrArg List.length hk
    simpa [keys] using this
  apply List.ext_getElem hl
  intro i h1 h2
  have e1 : A[i].1 = B[i].1 := by
    have : (keys A)[i]? = (keys B)[i]? := by rw [hk]
    simpa [keys, h1, h2] using this
  have e2 : sget A A[i].1 = some A[i].2 := (sget_mem ha.nodup).2 (List.getElem_mem h1)
  have e3 : sget B B[i].1 = some B[i].2 := (sget_mem hb.nodup).2 (List.getElem_mem h2)
  rw [← e1, ← h, e2] at e3
  injection e3 with e3
  exact Prod.ext e1 e3
/-- an element put in its place -/
theorem ins_at {S : List Wt} (ha : AscS S) (id : Int) (v : Int × Int) {n : Nat} (hn : n ≤ (delS S id).length) (h1 : ∀ k (hk : k < (delS S id).length), k < n → (delS S id)[k].1 < id) (h2 : n = (delS S id).length ∨ ∃ hk : n < (delS S id).length, ¬ (delS S id)[n].1 < id) :
    (delS S id).take n ++ (id, v) :: (delS S id).drop n = insS S id v := by
  have hD := delS_asc ha id
  have hne : ∀ p ∈ delS S id, p.1 ≠ id := fun p hp => by
    have := (List.mem_filter.1 hp).2
    simpa using this
  have hasc : AscS ((delS S id).take n ++ (id, v) :: (delS S id).drop n) := by
    rw [AscS, keys_append, List.pairwise_append]
    refine ⟨List.Pairwise.sublist (List.Sublist.map _ (List.take_sublist _ _)) hD, ?_, fun a ha b hb => ?_⟩
    · show (id :: keys _).Pairwise _
      rw [List.pairwise_cons]
      refine ⟨fun b hb => ?_, List.Pairwise.sublist (List.Sublist.map _ (List.drop_sublist _ _)) hD⟩
      obtain ⟨p, hp, rfl⟩ := List.mem_map.1 hb
      rcases h2 with rfl | ⟨hk, h2⟩
      · simp at hp
      · rw [List.drop_eq_getElem_cons hk, List.mem_cons] at hp
        have h3 := hne _ (List.getElem_mem hk)
        rcases hp with rfl | hp
        · omega
        · have hD2 := hD
          rw [← List.take_append_drop n (delS S id), List.drop_eq_getElem_cons hk] at hD2
          have := (asc_mid hD2).2 p hp
          omega
    · obtain ⟨p, hp, rfl⟩ := List.mem_map.1 ha
      have hpl : p.1 < id := by
        obtain ⟨k, hk, rfl⟩ := List.getElem_of_mem hp
        rw [List.length_take] at hk
        rw [List.getElem_take]
        exact h1 k (by omega) (by omega)
      obtain ⟨q, hq, rfl⟩ := List.mem_map.1 hb
      rcases List.mem_cons.1 hq with rfl | hq
      · exact hpl
      · have hD2 := hD
        rw [← List.take_append_drop n (delS S id), AscS, keys_append, List.pairwise_append] at hD2
        exact hD2.2.2 _ (List.mem_map.2 ⟨p, hp, rfl⟩) _ (List.mem_map.2 ⟨q, hq, rfl⟩)
  refine asc_get_ext hasc (insS_asc ha id v) (fun k => ?_)
  rw [insS_get ha]
  by_cases e : k = id
  · rw [if_pos e, e]
    exact sget_mid hasc
  · rw [if_neg e]
    have := sget_del hasc k
    rw [if_neg e, List.take_append_drop, delS_get ha, if_neg e] at this
    exact this.symm
theorem flat_take {α : Type} {f : α → List V} {sz : Nat} (hf : ∀ a, (f a).length = sz) (l : List α) {k : Nat} (hk : k ≤ l.length) : (l.flatMap f).take (k * sz) = (l.take k).flatMap f := by
  conv => lhs; rw [← List.take_append_drop k l, List.flatMap_append]
  rw [List.take_append_of_le_length (by rw [flat_length hf, List.length_take]; simp [Nat.min_eq_left hk]), List.take_of_length_le (by rw [flat_length hf, List.length_take]; simp [Nat.min_eq_left hk])]
theorem flat_drop {α : Type} {f : α → List V} {sz : Nat} (hf : ∀ a, (f a).length = sz) (l : List α) {k : Nat} (hk : k ≤ l.length) : (l.flatMap f).drop (k * sz) = (l.drop k).flatMap f := by
  conv => lhs; rw [← List.take_append_drop k l, List.flatMap_append]
  rw [List.drop_append_of_le_length (by rw [flat_length hf, List.length_take]; simp [Nat.min_eq_left hk]), List.drop_of_length_le (by rw [flat_length hf, List.length_take]; simp [Nat.min_eq_left hk]), List.nil_append]
/-- the first k, and the others, of a row that nobody writes -/
theorem ro_take {α : Type} {f : α → List V} {sz : Nat} (hf : ∀ a, (f a).length = sz) {h : H} {p : Option (Nat × Nat)} {l : List α} (o : RoSl h p l.length sz (l.flatMap f)) {k : Nat} (hk : k ≤ l.length) : RoSl h (slp p (0 * sz)) (k - 0) sz ((l.take k).flatMap f) := by
  have := o.cut (Nat.zero_le k) hk
  rw [Nat.zero_mul, List.drop_zero, Nat.sub_zero, flat_take hf l hk] at this
  rw [Nat.zero_mul, Nat.sub_zero]
  exact this
theorem ro_drop {α : Type} {f : α → List V} {sz : Nat} (hf : ∀ a, (f a).length = sz) {h : H} {p : Option (Nat × Nat)} {l : List α} (o : RoSl h p l.length sz (l.flatMap f)) {k : Nat} (hk : k ≤ l.length) : RoSl h (slp p (k * sz)) (l.length - k) sz ((l.drop k).flatMap f) := by
  have := o.cut hk (Nat.le_refl _)
  rw [flat_drop hf l hk, List.take_of_length_le (by rw [flat_length hf, List.length_drop]; exact Nat.le_refl _)] at this
  exact this
theorem appN {S : Nat → Prop} {h0 hh : H} {po : Option (Nat × Nat)} {n m sz : Nat} {xs ys : List V} (no : NewSl h0 hh po n sz xs) (mo : Ab.Mod S h0 hh) : ∀ p' h', SlIs h' p' (n + m) true sz (xs ++ ys) → Ab.Mod (inSl po) hh h' → isFresh hh po p' → NewSl h0 h' p' (n + m) sz (xs ++ ys) ∧ Ab.Mod S h0 h' :=
  fun p' h' hs hm hf => ⟨NewSl.app no hs hf mo.next, NewSl.mod no mo hm⟩
set_option maxHeartbeats 1000000 in
theorem start39 {h : H} {g : Nat} {B M R : Int} {S : List Wt} (s : RSt h g B M R S) (ha : AscS S) (ok : okT B M R = true) (hS : S.length ≤ 100000) (id : Int) {now : Int} (hn0 : -1000000000 ≤ now) (hn1 : now ≤ 1000000000) :
    ACalls Try.prog 39 [.ptr (some (g, 0)), i64 id, i64 now] h (fun r h' => RSt h' g B M R (insS S id (now + waitV B M 0, 0)) ∧ Ab.Mod (one g) h h') := by
  have hg := s.lt
  obtain ⟨b1, b2, b3, b4, b5, b6⟩ := okT_iff.1 ok
  obtain ⟨w1, w2⟩ := waitV_rng b1 b3 0
  refine ACalls.ro (Q := fun r h' => ∃ po, h'.obj g = some (.row true 4 [i64 B, i64 M, i64 R, .sl po (insS S id (now + waitV B M 0, 0)).length]) ∧ NewSl h h' po (insS S id (now + waitV B M 0, 0)).length 3 ((insS S id (now + waitV B M 0, 0)).flatMap wC) ∧ Ab.Mod (one g) h h') ?_ (by
    rintro r h' ⟨po, a, b, c⟩
    obtain ⟨i, _, h1, h2⟩ := rst_ro hg a b c
    exact ⟨i, h1, h2⟩)
  refine call_ Try.func39 rfl rfl (by kernel_rfl) ?_
  conv => whnf
  refine (stop41 s hS id).mono ?_
  rintro _ h1 ⟨s1, m1⟩
  conv => whnf
  obtain ⟨p, hb, hr⟩ := s1.box
  have hDl := delS_le S id
  have key := fun n => @ins_at S ha id (now + waitV B M 0, 0) n
  generalize delS S id = D at hb hr hDl key
  refine ⟨fun env hh => ∃ (j : Nat) (z : Int), j ≤ D.length ∧ z = j ∧ hh = h1 ∧ (∀ k (hk : k < D.length), k < j → D[k].1 < id) ∧ env = [(6, i64 z), (0, .ptr (some (g, 0))), (1, i64 id), (2, i64 now)],
    fun env _ => match get env 6 with
      | .int _ z => (D.length - z).toNat
      | _ => 0, ⟨_, Forget.cons rfl (Forget.cons rfl (Forget.cons rfl (Forget.cons rfl (Forget.nil _)))), 0, _, Nat.zero_le _, rfl, rfl, fun k _ hk => absurd hk (Nat.not_lt_zero k), rfl⟩, ?_⟩
  rintro _ hh ⟨j, z, hj, rfl, eh, hall, rfl⟩
  subst eh
  conv => whnf
  refine ⟨_, Cell.mk hb rfl, ?_⟩
  conv => whnf
  have fin : (j = D.length ∨ ∃ hk : j < D.length, ¬ D[j].1 < id) → D.take j ++ (id, now + waitV B M 0, 0) :: D.drop j = insS S id (now + waitV B M 0, 0) := fun h2 => key j hj hall h2
  refine br_mk (fun hd => ?_) (fun hd => ?_)
  · conv => whnf
    have hd : j < D.length := by simpa using hd
    obtain ⟨i1, c1, f1, f2, f3⟩ := sls_get wC_len hr.is rfl hd
    have k0 := f3 0 (i64 D[j].1) rfl
    refine ⟨_, Cell.mk hb rfl, ?_⟩
    conv => whnf
    refine ⟨i1, c1, j, f1, rfl, hd, ?_⟩
    conv => whnf
    refine ⟨_, k0, ?_⟩
    conv => whnf
    refine br_mk (fun hx => ?_) (fun hx => ?_)
    · conv => whnf
      have hx : D[j].1 < id := by simpa using hx
      refine ⟨_, Forget.cons rfl (Forget.cons rfl (Forget.cons rfl (Forget.cons rfl (Forget.nil _)))), ⟨j + 1, _, hd, succ_i64 hd (by omega), rfl, fun k hk hkj => ?_, rfl⟩, mu_lt hd (by omega)⟩
      by_cases e : k = j
      · subst e; exact hx
      · exact hall k hk (by omega)
    · have hx : ¬ D[j].1 < id := by simpa using hx
      have efin := fin (.inr ⟨hd, hx⟩)
      conv => whnf
      refine ⟨[0, 2, 3, 4, 5, 6, 7, 9, 10, 11, 17, 18, 19, 20, 21, 22, 1, 8, 12, 13, 14, 15, 16, 23, 24, 25, 26], [0, 0, 0, 4, 12, 28, 0, 124, 254, 0, 0, 0, 2558, 7678, 16382, 32766, 65534, 0, 131072, 393216, 917504, 0, 4063232, 8388606, 16777215, 33554431, 67108863], by kernel_rfl, ?_⟩
      conv => whnf
      refine ⟨_, Cell.mk hb rfl, ?_⟩
      conv => whnf
      have rt := ro_take wC_len hr hj
      have rd := ro_drop wC_len hr hj
      refine ⟨⟨_, hr.is⟩, j, rfl, Nat.zero_le _, hj, ?_⟩
      conv => whnf
      refine ⟨_, Cell.mk hb rfl, ?_⟩
      conv => whnf
      refine ⟨⟨_, hr.is⟩, j, rfl, hj, Nat.le_refl _, ?_⟩
      conv => whnf
      obtain ⟨y1, y2, y3⟩ := app0 (h0 := hh) rt.is
      refine ⟨_, _, y1, y2, by rw [show (T.at_ 136).bytes = 24 from rfl]; omega, by omega, fun pA hA hs hm hf => ?_⟩
      obtain ⟨nA, mA⟩ := y3 pA hA hs hm hf
      have bA := mA.get hb (.inl (fun k => k))
      have hrA := hr.get mA
      conv => whnf
      refine ⟨⟨⟨_, hrA.is⟩, j, rfl, hj, Nat.le_refl _, rfl⟩, ?_⟩
      conv => whnf
      refine ⟨⟨_, Cell.mk bA rfl, rfl⟩, ?_⟩
      conv => whnf
      refine (wait38 bA b1 b3 b4 (n := 0) (by decide)).mono ?_
      rintro _ h6 ⟨eh, rfl⟩
      subst eh
      conv => whnf
      refine ⟨⟨⟨_, hrA.is⟩, j, rfl, hj, Nat.le_refl _, rfl⟩, ?_⟩
      conv => whnf
      refine ⟨⟨_, Cell.mk bA rfl, rfl⟩, ?_⟩
      conv => whnf
      rw [wrap_i64 (x := now + waitV B M 0) (by omega) (by omega)]
      rw [show 0 + (j - 0) = j - 0 from Nat.zero_add _]
      obtain ⟨z1, z2, z3⟩ := app1 nA mA (wC (id, now + waitV B M 0, 0)) rfl
      refine ⟨_, _, z1, z2, by rw [show (T.at_ 136).bytes = 24 from rfl]; omega, by omega, fun pB hB hs2 hm2 hf2 => ?_⟩
      obtain ⟨nB, mB, _⟩ := z3 pB hB hs2 hm2 hf2
      have bB := mB.get hb (.inl (fun k => k))
      have hrB := hr.get mB
      conv => whnf
      refine ⟨⟨⟨_, hrB.is⟩, j, rfl, hj, Nat.le_refl _, rfl⟩, ?_⟩
      conv => whnf
      refine ⟨⟨_, Cell.mk bB rfl, rfl⟩, ?_⟩
      conv => whnf
      refine ⟨_, _, nB.1, (rd.get mB).is, by rw [show (T.at_ 136).bytes = 24 from rfl]; omega, by omega, fun pC hC hs3 hm3 hf3 => ?_⟩
      obtain ⟨nC, mC⟩ := appN nB mB pC hC hs3 hm3 hf3
      have bC := mC.get hb (.inl (fun k => k))
      conv => whnf
      refine ⟨_, _, bC, Nat.le_of_ble_eq_true rfl, ?_⟩
      conv => whnf
      have el : j - 0 + 1 + (D.length - j) = (insS S id (now + waitV B M 0, 0)).length := by
        rw [← efin, List.length_append, List.length_cons, List.length_take, List.length_drop]
        omega
      have ef : (D.take j).flatMap wC ++ wC (id, now + waitV B M 0, 0) ++ (D.drop j).flatMap wC = (insS S id (now + waitV B M 0, 0)).flatMap wC := by
        rw [← efin, List.flatMap_append, List.flatMap_cons, List.append_assoc]
      rw [el, ef] at nC
      rw [el]
      have mS : Ab.Mod (one g) hC (hC.set g (.row true 4 [i64 B, i64 M, i64 R, .sl pC (insS S id (now + waitV B M 0, 0)).length])) := Mod.set rfl bC rfl
      have nF := NewSl.keep nC mS (fun i hi => by
        have : i = g := hi
        have := m1.next
        omega)
      exact ⟨pC, H.obj_set_same bC, ⟨nF.1, fun i o e => Nat.le_trans m1.next (nF.2 i o e)⟩, m1.trans' (mC.trans' mS (S2 := one g) (fun _ _ k => k.elim) (fun _ _ k => k)) (fun _ _ k => k) (fun _ _ k => k)⟩
  · have hd : ¬ j < D.length := by simpa using hd
    have efin := fin (.inl (by omega))
    conv => whnf
    refine ⟨[0, 2, 3, 4, 5, 6, 7, 9, 10, 11, 17, 18, 19, 20, 21, 22, 1, 8, 12, 13, 14, 15, 16, 23, 24, 25, 26], [0, 0, 0, 4, 12, 28, 0, 124, 254, 0, 0, 0, 2558, 7678, 16382, 32766, 65534, 0, 131072, 393216, 917504, 0, 4063232, 8388606, 16777215, 33554431, 67108863], by kernel_rfl, ?_⟩
    conv => whnf
    refine ⟨_, Cell.mk hb rfl, ?_⟩
    conv => whnf
    have rt := ro_take wC_len hr hj
    have rd := ro_drop wC_len hr hj
    refine ⟨⟨_, hr.is⟩, j, rfl, Nat.zero_le _, hj, ?_⟩
    conv => whnf
    refine ⟨_, Cell.mk hb rfl, ?_⟩
    conv => whnf
    refine ⟨⟨_, hr.is⟩, j, rfl, hj, Nat.le_refl _, ?_⟩
    conv => whnf
    obtain ⟨y1, y2, y3⟩ := app0 (h0 := hh) rt.is
    refine ⟨_, _, y1, y2, by rw [show (T.at_ 136).bytes = 24 from rfl]; omega, by omega, fun pA hA hs hm hf => ?_⟩
    obtain ⟨nA, mA⟩ := y3 pA hA hs hm hf
    have bA := mA.get hb (.inl (fun k => k))
    have hrA := hr.get mA
    conv => whnf
    refine ⟨⟨⟨_, hrA.is⟩, j, rfl, hj, Nat.le_refl _, rfl⟩, ?_⟩
    conv => whnf
    refine ⟨⟨_, Cell.mk bA rfl, rfl⟩, ?_⟩
    conv => whnf
    refine (wait38 bA b1 b3 b4 (n := 0) (by decide)).mono ?_
    rintro _ h6 ⟨eh, rfl⟩
    subst eh
    conv => whnf
    refine ⟨⟨⟨_, hrA.is⟩, j, rfl, hj, Nat.le_refl _, rfl⟩, ?_⟩
    conv => whnf
    refine ⟨⟨_, Cell.mk bA rfl, rfl⟩, ?_⟩
    conv => whnf
    rw [wrap_i64 (x := now + waitV B M 0) (by omega) (by omega)]
    rw [show 0 + (j - 0) = j - 0 from Nat.zero_add _]
    obtain ⟨z1, z2, z3⟩ := app1 nA mA (wC (id, now + waitV B M 0, 0)) rfl
    refine ⟨_, _, z1, z2, by rw [show (T.at_ 136).bytes = 24 from rfl]; omega, by omega, fun pB hB hs2 hm2 hf2 => ?_⟩
    obtain ⟨nB, mB, _⟩ := z3 pB hB hs2 hm2 hf2
    have bB := mB.get hb (.inl (fun k => k))
    have hrB := hr.get mB
    conv => whnf
    refine ⟨⟨⟨_, hrB.is⟩, j, rfl, hj, Nat.le_refl _, rfl⟩, ?_⟩
    conv => whnf
    refine ⟨⟨_, Cell.mk bB rfl, rfl⟩, ?_⟩
    conv => whnf
    refine ⟨_, _, nB.1, (rd.get mB).is, by rw [show (T.at_ 136).bytes = 24 from rfl]; omega, by omega, fun pC hC hs3 hm3 hf3 => ?_⟩
    obtain ⟨nC, mC⟩ := appN nB mB pC hC hs3 hm3 hf3
    have bC := mC.get hb (.inl (fun k => k))
    conv => whnf
    refine ⟨_, _, bC, Nat.le_of_ble_eq_true rfl, ?_⟩
    conv => whnf
    have el : j - 0 + 1 + (D.length - j) = (insS S id (now + waitV B M 0, 0)).length := by
      rw [← efin, List.length_append, List.length_cons, List.length_take, List.length_drop]
      omega
    have ef : (D.take j).flatMap wC ++ wC (id, now + waitV B M 0, 0) ++ (D.drop j).flatMap wC = (insS S id (now + waitV B M 0, 0)).flatMap wC := by
      rw [← efin, List.flatMap_append, List.flatMap_cons, List.append_assoc]
    rw [el, ef] at nC
    rw [el]
    have mS : Ab.Mod (one g) hC (hC.set g (.row true 4 [i64 B, i64 M, i64 R, .sl pC (insS S id (now + waitV B M 0, 0)).length])) := Mod.set rfl bC rfl
    have nF := NewSl.keep nC mS (fun i hi => by
      have : i = g := hi
      have := m1.next
      omega)
    exact ⟨pC, H.obj_set_same bC, ⟨nF.1, fun i o e => Nat.le_trans m1.next (nF.2 i o e)⟩, m1.trans' (mC.trans' mS (S2 := one g) (fun _ _ k => k.elim) (fun _ _ k => k)) (fun _ _ k => k) (fun _ _ k => k)⟩
end Go.Proofs.Ytpefdmidfllhoaa

