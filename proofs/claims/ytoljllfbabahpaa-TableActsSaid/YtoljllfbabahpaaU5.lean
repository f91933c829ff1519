/- U5: texts of another seat, turned to this one. -/
import Derived.Test.YtoljllfbabahpaaU4
set_option linter.unusedVariables false
set_option linter.unusedSimpArgs false
namespace Go.Proofs.Ytoljllfbabahpaa
open Go Go.Ab Go.Shelf
def wC (x : Wt) : List V := [i64 x.1, i64 x.2.1, i64 x.2.2]
theorem wC_len (x : Wt) : (wC x).length = 3 := rfl
structure RSt (h : H) (g : Nat) (B M R : Int) (S : List Wt) : Prop where
  box : ∃ p, h.obj g = some (.row true 4 [i64 B, i64 M, i64 R, .sl p S.length]) ∧ RoSl h p S.length 3 (S.flatMap wC)
theorem RSt.get {Z : Nat → Prop} {h h' : H} {g : Nat} {B M R : Int} {S : List Wt} (s : RSt h g B M R S) (m : Ab.Mod Z h h') (hg : ¬ Z g) : RSt h' g B M R S := by
  obtain ⟨p, h1, h2⟩ := s.box
  exact ⟨p, m.get h1 (.inl hg), h2.get m⟩
theorem RSt.lt {h : H} {g : Nat} {B M R : Int} {S : List Wt} (s : RSt h g B M R S) : g < h.next := by
  obtain ⟨p, h1, h2⟩ := s.box
  exact h.lt _ _ h1
theorem rst_ro {h h' : H} {g : Nat} {B M R : Int} {S : List Wt} {p : Option (Nat × Nat)} (hg : g < h.next) (hb : h'.obj g = some (.row true 4 [i64 B, i64 M, i64 R, .sl p S.length])) (n : NewSl h h' p S.length 3 (S.flatMap wC)) (m : Ab.Mod (one g) h h') :
    ∃ i, h.next ≤ i ∧ RSt (h'.ro i) g B M R S ∧ Ab.Mod (one g) h (h'.ro i) := by
  obtain ⟨i, h1, h2, h3⟩ := n.freeze m
  exact ⟨i, h1, ⟨p, by rw [H.ro_ne _ (by omega), hb], h2⟩, h3⟩
def NewRQ (B M R : Int) (h : H) (r : V) (h' : H) : Prop :=
  (okT B M R = false ∧ r = .ptr none ∧ h' = h) ∨ (okT B M R = true ∧ ∃ g, r = .ptr (some (g, 0)) ∧ RSt h' g B M R [] ∧ h.next ≤ g ∧ Ab.Mod none_ h h')
theorem okT_inR (B M R : Int) : okT B M R = (inR B 1 1000 && inR M B 1000 && inR R 0 20) := by
  rw [okT, inR, inR, inR]
  simp only [Bool.and_assoc]
theorem new36 (h : H) (B M R : Int) : ACalls Try.prog 43 [i64 B, i64 M, i64 R] h (fun r h' => NewRQ B M R h r h') := by
  refine call_ Try.func43 rfl rfl (by kernel_rfl) ?_
  conv => whnf
  refine (within68 h B 1 1000).mono ?_
  rintro _ h1 ⟨eh, rfl⟩
  subst eh
  conv => whnf
  refine br_mk (fun ha => ?_) (fun ha => ?_)
  · conv => whnf
    have ha : inR B 1 1000 = false := by simpa using ha
    exact .inl ⟨by rw [okT_inR, ha]; rfl, rfl, rfl⟩
  conv => whnf
  have ha : inR B 1 1000 = true := by simpa using ha
  refine (within68 _ M B 1000).mono ?_
  rintro _ h1 ⟨eh, rfl⟩
  subst eh
  conv => whnf
  refine br_mk (fun hb => ?_) (fun hb => ?_)
  · conv => whnf
    have hb : inR M B 1000 = false := by simpa using hb
    exact .inl ⟨by rw [okT_inR, hb, Bool.and_false, Bool.false_and], rfl, rfl⟩
  conv => whnf
  have hb : inR M B 1000 = true := by simpa using hb
  refine (within68 _ R 0 20).mono ?_
  rintro _ h1 ⟨eh, rfl⟩
  subst eh
  conv => whnf
  refine br_mk (fun hc => ?_) (fun hc => ?_)
  · conv => whnf
    have hc : inR R 0 20 = false := by simpa using hc
    exact .inl ⟨by rw [okT_inR, hc, Bool.and_false], rfl, rfl⟩
  conv => whnf
  have hc : inR R 0 20 = true := by simpa using hc
  exact .inr ⟨by rw [okT_inR, ha, hb, hc]; rfl, _, rfl, ⟨none, H.obj_push_new _ _, RoSl.nil _ _ _⟩, Nat.le_refl _, Mod.push none_ _ _⟩
theorem wait38 {h : H} {g : Nat} {B M R : Int} {x : V} (hb : h.obj g = some (.row true 4 [i64 B, i64 M, i64 R, x])) (h1 : 1 ≤ B) (h2 : B ≤ M) (h3 : M ≤ 1000) {n : Int} (hn : n ≤ 9223372036854775807) :
    ACalls Try.prog 102 [.ptr (some (g, 0)), i64 n] h (fun r h' => h' = h ∧ r = i64 (waitV B M n)) := by
  refine call_ Try.func102 rfl rfl (by kernel_rfl) ?_
  conv => whnf
  refine ⟨_, Cell.mk hb rfl, ?_⟩
  conv => whnf
  refine ⟨fun env hh => ∃ (w z : Int), hh = h ∧ 1 ≤ w ∧ w ≤ 2000 ∧ waitW M w (n - z).toNat = waitW M B n.toNat ∧ 0 ≤ z ∧ (z = 0 ∨ z ≤ n) ∧ env = [(6, i64 z), (5, i64 w), (0, .ptr (some (g, 0))), (1, i64 n)],
    fun env _ => match get env 6 with
      | .int _ z => (n - z).toNat
      | _ => 0, ⟨_, Forget.cons rfl (Forget.cons rfl (Forget.cons rfl (Forget.cons rfl (Forget.nil _)))), B, 0, rfl, h1, by omega, by rw [Int.sub_zero], Int.le_refl _, .inl rfl, rfl⟩, ?_⟩
  rintro _ hh ⟨w, z, eh, w1, w2, w3, z1, z2, rfl⟩
  subst eh
  conv => whnf
  have fin : waitW M w (n - z).toNat = w → ∀ x, x = w → (if M < x then M else x) = waitV B M n := fun e x hx => by
    rw [waitV, ← w3, e, hx]
  refine br_mk (fun ha => ?_) (fun ha => ?_)
  · conv => whnf
    have ha : z < n := by simpa using ha
    refine ⟨_, Cell.mk hb rfl, ?_⟩
    conv => whnf
    refine br_mk (fun hc => ?_) (fun hc => ?_)
    · conv => whnf
      have hc : w < M := by simpa using hc
      have e1 : IntKind.i64.wrap (2 * w) = 2 * w := wrap_i64 (by omega) (by omega)
      have e2 : (n - z).toNat = (n - (z + 1)).toNat + 1 := by omega
      have e3 : IntKind.i64.wrap (z + 1) = z + 1 := wrap_i64 (by omega) (by omega)
      rw [e1, e3]
      refine ⟨_, Forget.cons rfl (Forget.cons rfl (Forget.cons rfl (Forget.cons rfl (Forget.nil _)))), ⟨2 * w, z + 1, rfl, by omega, by omega, ?_, by omega, .inr (by omega), rfl⟩, ?_⟩
      · rw [← w3, e2, waitW, if_pos hc]
      · show (n - (z + 1)).toNat < (n - z).toNat
        omega
    · conv => whnf
      have hc : ¬ w < M := by simpa using hc
      refine ⟨_, Cell.mk hb rfl, ?_⟩
      conv => whnf
      exact ⟨rfl, congrArg i64 (fin (waitW_stop hc _) w rfl)⟩
  · conv => whnf
    have ha : ¬ z < n := by simpa using ha
    refine ⟨_, Cell.mk hb rfl, ?_⟩
    conv => whnf
    refine ⟨rfl, congrArg i64 (fin ?_ w rfl)⟩
    rw [show (n - z).toNat = 0 by omega]
    rfl
theorem delS_snoc (S : List Wt) (x : Wt) (id : Int) : delS (S ++ [x]) id = delS S id ++ (if x.1 != id then [x] else []) := filter_snoc _ _ _
theorem delS_le (S : List Wt) (id : Int) : (delS S id).length ≤ S.length := List.length_filter_le _ _
theorem w_len (S : List Wt) : (S.flatMap wC).length = S.length * 3 := flat_length wC_len S
theorem stop41 {h : H} {g : Nat} {B M R : Int} {S : List Wt} (s : RSt h g B M R S) (hS : S.length ≤ 100000) (id : Int) :
    ACalls Try.prog 86 [.ptr (some (g, 0)), i64 id] h (fun r h' => RSt h' g B M R (delS S id) ∧ Ab.Mod (one g) h h') := by
  have hg := s.lt
  refine ACalls.ro (Q := fun r h' => ∃ po, h'.obj g = some (.row true 4 [i64 B, i64 M, i64 R, .sl po (delS S id).length]) ∧ NewSl h h' po (delS S id).length 3 ((delS S id).flatMap wC) ∧ Ab.Mod (one g) h h') ?_ (by
    rintro r h' ⟨po, a, b, c⟩
    obtain ⟨i, _, h1, h2⟩ := rst_ro hg a b c
    exact ⟨i, h1, h2⟩)
  obtain ⟨p, hb, hr⟩ := s.box
  refine call_ Try.func86 rfl rfl (by kernel_rfl) ?_
  conv => whnf
  refine ⟨fun env hh => ∃ (j : Nat) (z : Int) (po : Option (Nat × Nat)), j ≤ S.length ∧ z = j ∧ NewSl h hh po (delS (S.take j) id).length 3 ((delS (S.take j) id).flatMap wC) ∧ Ab.Mod none_ h hh ∧ env = [(5, i64 z), (4, .sl po (delS (S.take j) id).length), (0, .ptr (some (g, 0))), (1, i64 id)],
    fun env _ => match get env 5 with
      | .int _ z => (S.length - z).toNat
      | _ => 0, ⟨_, Forget.cons rfl (Forget.cons rfl (Forget.cons rfl (Forget.cons rfl (Forget.nil _)))), 0, _, none, Nat.zero_le _, rfl, NewSl.nil _ _ _, ⟨Nat.le_refl _, fun _ _ _ => rfl⟩, rfl⟩, ?_⟩
  rintro _ hh ⟨j, z, po, hj, rfl, no, mo, rfl⟩
  conv => whnf
  have bx := mo.get hb (.inl (fun k => k))
  refine ⟨_, Cell.mk bx rfl, ?_⟩
  conv => whnf
  refine br_mk (fun hd => ?_) (fun hd => ?_)
  · conv => whnf
    have hd : j < S.length := by simpa using hd
    have htk : S.take (j + 1) = S.take j ++ [S[j]] := List.take_succ_eq_append_getElem hd
    have hjl : (delS (S.take j) id).length ≤ S.length := by
      have := delS_le (S.take j) id
      rw [List.length_take] at this
      omega
    obtain ⟨i1, c1, f1, f2, f3⟩ := sls_get wC_len (hr.get mo).is rfl hd
    have k0 := f3 0 (i64 S[j].1) rfl
    refine ⟨_, Cell.mk bx rfl, ?_⟩
    conv => whnf
    refine ⟨i1, c1, j, f1, rfl, hd, ?_⟩
    conv => whnf
    refine ⟨_, k0, ?_⟩
    conv => whnf
    refine br_mk (fun hx => ?_) (fun hx => ?_)
    · have e0 : delS (S.take (j + 1)) id = delS (S.take j) id ++ [S[j]] := by rw [htk, delS_snoc, if_pos hx]
      conv => whnf
      refine ⟨_, Cell.mk bx rfl, ?_⟩
      conv => whnf
      refine ⟨i1, c1, j, f1, rfl, hd, ?_⟩
      conv => whnf
      refine ⟨_, f2, ?_⟩
      conv => whnf
      obtain ⟨y1, y2, y3⟩ := app1 no mo (wC S[j]) rfl
      refine ⟨_, _, y1, y2, by rw [show (T.at_ 200).bytes = 24 from rfl]; omega, by omega, fun po2 hY hs hm hf => ?_⟩
      obtain ⟨no2, mo2, my⟩ := y3 po2 hY hs hm hf
      have e6 : (delS (S.take j) id).flatMap wC ++ wC S[j] = (delS (S.take (j + 1)) id).flatMap wC := by rw [e0, List.flatMap_append]; simp
      have e7 : (delS (S.take j) id).length + 1 = (delS (S.take (j + 1)) id).length := by rw [e0]; simp
      rw [e6, e7] at no2
      conv => whnf
      rw [e7]
      exact ⟨_, Forget.cons rfl (Forget.cons rfl (Forget.cons rfl (Forget.cons rfl (Forget.nil _)))), ⟨j + 1, _, po2, hd, succ_i64 hd (by omega), no2, mo2, rfl⟩, mu_lt hd (by omega)⟩
    · have e0 : delS (S.take (j + 1)) id = delS (S.take j) id := by rw [htk, delS_snoc, if_neg (by rw [hx]; simp), List.append_nil]
      conv => whnf
      rw [← e0] at no ⊢
      exact ⟨_, Forget.cons rfl (Forget.cons rfl (Forget.cons rfl (Forget.cons rfl (Forget.nil _)))), ⟨j + 1, _, po, hd, succ_i64 hd (by omega), no, mo, rfl⟩, mu_lt hd (by omega)⟩
  · conv => whnf
    have hd : ¬ j < S.length := by simpa using hd
    obtain rfl : j = S.length := by omega
    rw [List.take_length] at no ⊢
    refine ⟨_, _, bx, Nat.le_of_ble_eq_true rfl, ?_⟩
    conv => whnf
    have mS : Ab.Mod (one g) hh (hh.set g (.row true 4 [i64 B, i64 M, i64 R, .sl po (delS S id).length])) := Mod.set rfl bx rfl
    exact ⟨po, H.obj_set_same bx, NewSl.keep no mS (fun i hi => by
      have : i = g := hi
      omega), mo.trans' mS (fun _ _ k => k.elim) (fun _ _ k => k)⟩
/-- an element put in its place -/
theorem ins_at {S : List Wt} (ha : AscS S) (id : Int) (v : Int × Int) {n : Nat} (hn : n ≤ (delS S id).length) (h1 : ∀ k (hk : k < (delS S id).length), k < n → (delS S id)[k].1 < id) (h2 : n = (delS S id).length ∨ ∃ hk : n < (delS S id).length, ¬ (delS S id)[n].1 < id) :
    (delS S id).take n ++ (id, v) :: (delS S id).drop n = insS S id v := by
  have hD := delS_asc ha id
  have hne : ∀ p ∈ delS S id, p.1 ≠ id := fun p hp => by
    have := (List.mem_filter.1 hp).2
    simpa using this
  have hasc : AscS ((delS S id).take n ++ (id, v) :: (delS S id).drop n) := by
    rw [AscS, keys_append, List.pairwise_append]
    refine ⟨List.Pairwise.sublist (List.Sublist.map _ (List.take_sublist _ _)) hD, ?_, fun a ha b hb => ?_⟩
    · show (id :: keys _).Pairwise _
      rw [List.pairwise_cons]
      refine ⟨fun b hb => ?_, List.Pairwise.sublist (List.Sublist.map _ (List.drop_sublist _ _)) hD⟩
      obtain ⟨p, hp, rfl⟩ := List.mem_map.1 hb
      rcases h2 with rfl | ⟨hk, h2⟩
      · simp at hp
      · rw [List.drop_eq_getElem_cons hk, List.mem_cons] at hp
        have h3 := hne _ (List.getElem_mem hk)
        rcases hp with rfl | hp
        · omega
        · have hD2 := hD
          rw [← List.take_append_drop n (delS S id), List.drop_eq_getElem_cons hk] at hD2
          have := (asc_mid hD2).2 p hp
          omega
    · obtain ⟨p, hp, rfl⟩ := List.mem_map.1 ha
      have hpl : p.1 < id := by
        obtain ⟨k, hk, rfl⟩ := List.getElem_of_mem hp
        rw [List.length_take] at hk
        rw [List.getElem_take]
        exact h1 k (by omega) (by omega)
      obtain ⟨q, hq, rfl⟩ := List.mem_map.1 hb
      rcases List.mem_cons.1 hq with rfl | hq
      · exact hpl
      · have hD2 := hD
        rw [← List.take_append_drop n (delS S id), AscS, keys_append, List.pairwise_append] at hD2
        exact hD2.2.2 _ (List.mem_map.2 ⟨p, hp, rfl⟩) _ (List.mem_map.2 ⟨q, hq, rfl⟩)
  refine asc_get_ext hasc (insS_asc ha id v) (fun k => ?_)
  rw [insS_get ha]
  by_cases e : k = id
  · rw [if_pos e, e]
    exact sget_mid hasc
  · rw [if_neg e]
    have := sget_del hasc k
    rw [if_neg e, List.take_append_drop, delS_get ha, if_neg e] at this
    exact this.symm
set_option maxHeartbeats 1000000 in
theorem start39 {h : H} {g : Nat} {B M R : Int} {S : List Wt} (s : RSt h g B M R S) (ha : AscS S) (ok : okT B M R = true) (hS : S.length ≤ 100000) (id : Int) {now : Int} (hn0 : -1000000000 ≤ now) (hn1 : now ≤ 1000000000) :
    ACalls Try.prog 84 [.ptr (some (g, 0)), i64 id, i64 now] h (fun r h' => RSt h' g B M R (insS S id (now + waitV B M 0, 0)) ∧ Ab.Mod (one g) h h') := by
  have hg := s.lt
  obtain ⟨b1, b2, b3, b4, b5, b6⟩ := okT_iff.1 ok
  obtain ⟨w1, w2⟩ := waitV_rng b1 b3 0
  refine ACalls.ro (Q := fun r h' => ∃ po, h'.obj g = some (.row true 4 [i64 B, i64 M, i64 R, .sl po (insS S id (now + waitV B M 0, 0)).length]) ∧ NewSl h h' po (insS S id (now + waitV B M 0, 0)).length 3 ((insS S id (now + waitV B M 0, 0)).flatMap wC) ∧ Ab.Mod (one g) h h') ?_ (by
    rintro r h' ⟨po, a, b, c⟩
    obtain ⟨i, _, h1, h2⟩ := rst_ro hg a b c
    exact ⟨i, h1, h2⟩)
  refine call_ Try.func84 rfl rfl (by kernel_rfl) ?_
  conv => whnf
  refine (stop41 s hS id).mono ?_
  rintro _ h1 ⟨s1, m1⟩
  conv => whnf
  obtain ⟨p, hb, hr⟩ := s1.box
  have hDl := delS_le S id
  have key := fun n => @ins_at S ha id (now + waitV B M 0, 0) n
  generalize delS S id = D at hb hr hDl key
  refine ⟨fun env hh => ∃ (j : Nat) (z : Int), j ≤ D.length ∧ z = j ∧ hh = h1 ∧ (∀ k (hk : k < D.length), k < j → D[k].1 < id) ∧ env = [(6, i64 z), (0, .ptr (some (g, 0))), (1, i64 id), (2, i64 now)],
    fun env _ => match get env 6 with
      | .int _ z => (D.length - z).toNat
      | _ => 0, ⟨_, Forget.cons rfl (Forget.cons rfl (Forget.cons rfl (Forget.cons rfl (Forget.nil _)))), 0, _, Nat.zero_le _, rfl, rfl, fun k _ hk => absurd hk (Nat.not_lt_zero k), rfl⟩, ?_⟩
  rintro _ hh ⟨j, z, hj, rfl, eh, hall, rfl⟩
  subst eh
  conv => whnf
  refine ⟨_, Cell.mk hb rfl, ?_⟩
  conv => whnf
  have fin : (j = D.length ∨ ∃ hk : j < D.length, ¬ D[j].1 < id) → D.take j ++ (id, now + waitV B M 0, 0) :: D.drop j = insS S id (now + waitV B M 0, 0) := fun h2 => key j hj hall h2
  refine br_mk (fun hd => ?_) (fun hd => ?_)
  · conv => whnf
    have hd : j < D.length := by simpa using hd
    obtain ⟨i1, c1, f1, f2, f3⟩ := sls_get wC_len hr.is rfl hd
    have k0 := f3 0 (i64 D[j].1) rfl
    refine ⟨_, Cell.mk hb rfl, ?_⟩
    conv => whnf
    refine ⟨i1, c1, j, f1, rfl, hd, ?_⟩
    conv => whnf
    refine ⟨_, k0, ?_⟩
    conv => whnf
    refine br_mk (fun hx => ?_) (fun hx => ?_)
    · conv => whnf
      have hx : D[j].1 < id := by simpa using hx
      refine ⟨_, Forget.cons rfl (Forget.cons rfl (Forget.cons rfl (Forget.cons rfl (Forget.nil _)))), ⟨j + 1, _, hd, succ_i64 hd (by omega), rfl, fun k hk hkj => ?_, rfl⟩, mu_lt hd (by omega)⟩
      by_cases e : k = j
      · subst e; exact hx
      · exact hall k hk (by omega)
    · have hx : ¬ D[j].1 < id := by simpa using hx
      have efin := fin (.inr ⟨hd, hx⟩)
      conv => whnf
      refine ⟨[0, 2, 3, 4, 5, 6, 7, 9, 10, 11, 17, 18, 19, 20, 21, 22, 1, 8, 12, 13, 14, 15, 16, 23, 24, 25, 26], [0, 0, 0, 4, 12, 28, 0, 124, 254, 0, 0, 0, 2558, 7678, 16382, 32766, 65534, 0, 131072, 393216, 917504, 0, 4063232, 8388606, 16777215, 33554431, 67108863], by kernel_rfl, ?_⟩
      conv => whnf
      refine ⟨_, Cell.mk hb rfl, ?_⟩
      conv => whnf
      have rt := ro_take wC_len hr hj
      have rd := ro_drop wC_len hr hj
      refine ⟨⟨_, hr.is⟩, j, rfl, Nat.zero_le _, hj, ?_⟩
      conv => whnf
      refine ⟨_, Cell.mk hb rfl, ?_⟩
      conv => whnf
      refine ⟨⟨_, hr.is⟩, j, rfl, hj, Nat.le_refl _, ?_⟩
      conv => whnf
      obtain ⟨y1, y2, y3⟩ := app0 (h0 := hh) rt.is
      refine ⟨_, _, y1, y2, by rw [show (T.at_ 200).bytes = 24 from rfl]; omega, by omega, fun pA hA hs hm hf => ?_⟩
      obtain ⟨nA, mA⟩ := y3 pA hA hs hm hf
      have bA := mA.get hb (.inl (fun k => k))
      have hrA := hr.get mA
      conv => whnf
      refine ⟨⟨⟨_, hrA.is⟩, j, rfl, hj, Nat.le_refl _, rfl⟩, ?_⟩
      conv => whnf
      refine ⟨⟨_, Cell.mk bA rfl, rfl⟩, ?_⟩
      conv => whnf
      refine (wait38 bA b1 b3 b4 (n := 0) (by decide)).mono ?_
      rintro _ h6 ⟨eh, rfl⟩
      subst eh
      conv => whnf
      refine ⟨⟨⟨_, hrA.is⟩, j, rfl, hj, Nat.le_refl _, rfl⟩, ?_⟩
      conv => whnf
      refine ⟨⟨_, Cell.mk bA rfl, rfl⟩, ?_⟩
      conv => whnf
      rw [wrap_i64 (x := now + waitV B M 0) (by omega) (by omega)]
      rw [show 0 + (j - 0) = j - 0 from Nat.zero_add _]
      obtain ⟨z1, z2, z3⟩ := app1 nA mA (wC (id, now + waitV B M 0, 0)) rfl
      refine ⟨_, _, z1, z2, by rw [show (T.at_ 200).bytes = 24 from rfl]; omega, by omega, fun pB hB hs2 hm2 hf2 => ?_⟩
      obtain ⟨nB, mB, _⟩ := z3 pB hB hs2 hm2 hf2
      have bB := mB.get hb (.inl (fun k => k))
      have hrB := hr.get mB
      conv => whnf
      refine ⟨⟨⟨_, hrB.is⟩, j, rfl, hj, Nat.le_refl _, rfl⟩, ?_⟩
      conv => whnf
      refine ⟨⟨_, Cell.mk bB rfl, rfl⟩, ?_⟩
      conv => whnf
      refine ⟨_, _, nB.1, (rd.get mB).is, by rw [show (T.at_ 200).bytes = 24 from rfl]; omega, by omega, fun pC hC hs3 hm3 hf3 => ?_⟩
      obtain ⟨nC, mC⟩ := appN nB mB pC hC hs3 hm3 hf3
      have bC := mC.get hb (.inl (fun k => k))
      conv => whnf
      refine ⟨_, _, bC, Nat.le_of_ble_eq_true rfl, ?_⟩
      conv => whnf
      have el : j - 0 + 1 + (D.length - j) = (insS S id (now + waitV B M 0, 0)).length := by
        rw [← efin, List.length_append, List.length_cons, List.length_take, List.length_drop]
        omega
      have ef : (D.take j).flatMap wC ++ wC (id, now + waitV B M 0, 0) ++ (D.drop j).flatMap wC = (insS S id (now + waitV B M 0, 0)).flatMap wC := by
        rw [← efin, List.flatMap_append, List.flatMap_cons, List.append_assoc]
      rw [el, ef] at nC
      rw [el]
      have mS : Ab.Mod (one g) hC (hC.set g (.row true 4 [i64 B, i64 M, i64 R, .sl pC (insS S id (now + waitV B M 0, 0)).length])) := Mod.set rfl bC rfl
      have nF := NewSl.keep nC mS (fun i hi => by
        have : i = g := hi
        have := m1.next
        omega)
      exact ⟨pC, H.obj_set_same bC, ⟨nF.1, fun i o e => Nat.le_trans m1.next (nF.2 i o e)⟩, m1.trans' (mC.trans' mS (S2 := one g) (fun _ _ k => k.elim) (fun _ _ k => k)) (fun _ _ k => k) (fun _ _ k => k)⟩
  · have hd : ¬ j < D.length := by simpa using hd
    have efin := fin (.inl (by omega))
    conv => whnf
    refine ⟨[0, 2, 3, 4, 5, 6, 7, 9, 10, 11, 17, 18, 19, 20, 21, 22, 1, 8, 12, 13, 14, 15, 16, 23, 24, 25, 26], [0, 0, 0, 4, 12, 28, 0, 124, 254, 0, 0, 0, 2558, 7678, 16382, 32766, 65534, 0, 131072, 393216, 917504, 0, 4063232, 8388606, 16777215, 33554431, 67108863], by kernel_rfl, ?_⟩
    conv => whnf
    refine ⟨_, Cell.mk hb rfl, ?_⟩
    conv => whnf
    have rt := ro_take wC_len hr hj
    have rd := ro_drop wC_len hr hj
    refine ⟨⟨_, hr.is⟩, j, rfl, Nat.zero_le _, hj, ?_⟩
    conv => whnf
    refine ⟨_, Cell.mk hb rfl, ?_⟩
    conv => whnf
    refine ⟨⟨_, hr.is⟩, j, rfl, hj, Nat.le_refl _, ?_⟩
    conv => whnf
    obtain ⟨y1, y2, y3⟩ := app0 (h0 := hh) rt.is
    refine ⟨_, _, y1, y2, by rw [show (T.at_ 200).bytes = 24 from rfl]; omega, by omega, fun pA hA hs hm hf => ?_⟩
    obtain ⟨nA, mA⟩ := y3 pA hA hs hm hf
    have bA := mA.get hb (.inl (fun k => k))
    have hrA := hr.get mA
    conv => whnf
    refine ⟨⟨⟨_, hrA.is⟩, j, rfl, hj, Nat.le_refl _, rfl⟩, ?_⟩
    conv => whnf
    refine ⟨⟨_, Cell.mk bA rfl, rfl⟩, ?_⟩
    conv => whnf
    refine (wait38 bA b1 b3 b4 (n := 0) (by decide)).mono ?_
    rintro _ h6 ⟨eh, rfl⟩
    subst eh
    conv => whnf
    refine ⟨⟨⟨_, hrA.is⟩, j, rfl, hj, Nat.le_refl _, rfl⟩, ?_⟩
    conv => whnf
    refine ⟨⟨_, Cell.mk bA rfl, rfl⟩, ?_⟩
    conv => whnf
    rw [wrap_i64 (x := now + waitV B M 0) (by omega) (by omega)]
    rw [show 0 + (j - 0) = j - 0 from Nat.zero_add _]
    obtain ⟨z1, z2, z3⟩ := app1 nA mA (wC (id, now + waitV B M 0, 0)) rfl
    refine ⟨_, _, z1, z2, by rw [show (T.at_ 200).bytes = 24 from rfl]; omega, by omega, fun pB hB hs2 hm2 hf2 => ?_⟩
    obtain ⟨nB, mB, _⟩ := z3 pB hB hs2 hm2 hf2
    have bB := mB.get hb (.inl (fun k => k))
    have hrB := hr.get mB
    conv => whnf
    refine ⟨⟨⟨_, hrB.is⟩, j, rfl, hj, Nat.le_refl _, rfl⟩, ?_⟩
    conv => whnf
    refine ⟨⟨_, Cell.mk bB rfl, rfl⟩, ?_⟩
    conv => whnf
    refine ⟨_, _, nB.1, (rd.get mB).is, by rw [show (T.at_ 200).bytes = 24 from rfl]; omega, by omega, fun pC hC hs3 hm3 hf3 => ?_⟩
    obtain ⟨nC, mC⟩ := appN nB mB pC hC hs3 hm3 hf3
    have bC := mC.get hb (.inl (fun k => k))
    conv => whnf
    refine ⟨_, _, bC, Nat.le_of_ble_eq_true rfl, ?_⟩
    conv => whnf
    have el : j - 0 + 1 + (D.length - j) = (insS S id (now + waitV B M 0, 0)).length := by
      rw [← efin, List.length_append, List.length_cons, List.length_take, List.length_drop]
      omega
    have ef : (D.take j).flatMap wC ++ wC (id, now + waitV B M 0, 0) ++ (D.drop j).flatMap wC = (insS S id (now + waitV B M 0, 0)).flatMap wC := by
      rw [← efin, List.flatMap_append, List.flatMap_cons, List.append_assoc]
    rw [el, ef] at nC
    rw [el]
    have mS : Ab.Mod (one g) hC (hC.set g (.row true 4 [i64 B, i64 M, i64 R, .sl pC (insS S id (now + waitV B M 0, 0)).length])) := Mod.set rfl bC rfl
    have nF := NewSl.keep nC mS (fun i hi => by
      have : i = g := hi
      have := m1.next
      omega)
    exact ⟨pC, H.obj_set_same bC, ⟨nF.1, fun i o e => Nat.le_trans m1.next (nF.2 i o e)⟩, m1.trans' (mC.trans' mS (S2 := one g) (fun _ _ k => k.elim) (fun _ _ k => k)) (fun _ _ k => k) (fun _ _ k => k)⟩
theorem RSt.ro {h : H} {g : Nat} {B M R : Int} {S : List Wt} (s : RSt h g B M R S) {i : Nat} (hg : g ≠ i) : RSt (h.ro i) g B M R S := by
  obtain ⟨p, h1, h2⟩ := s.box
  exact ⟨p, by rw [H.ro_ne _ hg, h1], h2.ro i⟩
theorem rsS_le (B M R now : Int) (S : List Wt) : (rsS B M R now S).length ≤ S.length := List.length_filterMap_le _ _
def Due42Q (h : H) (g : Nat) (B M R : Int) (S : List Wt) (now : Int) (r : V) (h' : H) : Prop :=
  ∃ qa qo qr, r = .tup [.sl qa (agS R now S).length, .sl qo (ovS R now S).length] ∧ NewSl h h' qa (agS R now S).length 1 (ints .i64 (agS R now S)) ∧ NewSl h h' qo (ovS R now S).length 1 (ints .i64 (ovS R now S)) ∧
    NewSl h h' qr (rsS B M R now S).length 3 ((rsS B M R now S).flatMap wC) ∧ h'.obj g = some (.row true 4 [i64 B, i64 M, i64 R, .sl qr (rsS B M R now S).length]) ∧ Ab.Mod (one g) h h'
set_option maxHeartbeats 1000000 in
theorem due42 {h : H} {g : Nat} {B M R : Int} {S : List Wt} (s : RSt h g B M R S) (ok : okT B M R = true) (hS : S.length ≤ 100000) (hN : ∀ x ∈ S, 0 ≤ x.2.2) {now : Int} (hn0 : -1000000000 ≤ now) (hn1 : now ≤ 1000000000) :
    ACalls Try.prog 88 [.ptr (some (g, 0)), i64 now] h (Due42Q h g B M R S now) := by
  obtain ⟨b1, b2, b3, b4, b5, b6⟩ := okT_iff.1 ok
  have hg := s.lt
  obtain ⟨p, hb, hr⟩ := s.box
  refine call_ Try.func88 rfl rfl (by kernel_rfl) ?_
  conv => whnf
  refine ⟨fun env hh => ∃ (j : Nat) (z : Int) (pa po pr : Option (Nat × Nat)), j ≤ S.length ∧ z = j ∧ NewSl h hh pa (agS R now (S.take j)).length 1 (ints .i64 (agS R now (S.take j))) ∧ NewSl h hh po (ovS R now (S.take j)).length 1 (ints .i64 (ovS R now (S.take j))) ∧
      NewSl h hh pr (rsS B M R now (S.take j)).length 3 ((rsS B M R now (S.take j)).flatMap wC) ∧ (∀ i, inSl pa i → inSl po i → False) ∧ (∀ i, inSl pa i → inSl pr i → False) ∧ (∀ i, inSl po i → inSl pr i → False) ∧ Ab.Mod none_ h hh ∧
      env = [(9, i64 z), (6, .sl pa (agS R now (S.take j)).length), (7, .sl po (ovS R now (S.take j)).length), (8, .sl pr (rsS B M R now (S.take j)).length), (0, .ptr (some (g, 0))), (1, i64 now)],
    fun env _ => match get env 9 with
      | .int _ z => (S.length - z).toNat
      | _ => 0, ⟨_, Forget.cons rfl (Forget.cons rfl (Forget.cons rfl (Forget.cons rfl (Forget.cons rfl (Forget.cons rfl (Forget.nil _)))))), 0, _, none, none, none, Nat.zero_le _, rfl, NewSl.nil _ _ _, NewSl.nil _ _ _, NewSl.nil _ _ _, (fun i a => by
        obtain ⟨o, a⟩ := a
        cases a), (fun i a => by
        obtain ⟨o, a⟩ := a
        cases a), (fun i a => by
        obtain ⟨o, a⟩ := a
        cases a), ⟨Nat.le_refl _, fun _ _ _ => rfl⟩, rfl⟩, ?_⟩
  rintro _ hh ⟨j, z, pa, po, pr, hj, rfl, na, no, nr, d1, d2, d3, mo, rfl⟩
  conv => whnf
  have bx := mo.get hb (.inl (fun k => k))
  refine ⟨_, Cell.mk bx rfl, ?_⟩
  conv => whnf
  refine br_mk (fun hd => ?_) (fun hd => ?_)
  rotate_left
  · conv => whnf
    have hd : ¬ j < S.length := by simpa using hd
    obtain rfl : j = S.length := by omega
    rw [List.take_length] at na no nr ⊢
    refine ⟨_, _, bx, Nat.le_of_ble_eq_true rfl, ?_⟩
    conv => whnf
    have mS : Ab.Mod (one g) hh (hh.set g (.row true 4 [i64 B, i64 M, i64 R, .sl pr (rsS B M R now S).length])) := Mod.set rfl bx rfl
    have kp : ∀ i, one g i → i < h.next := fun i hi => by
      have : i = g := hi
      omega
    exact ⟨pa, po, pr, rfl, NewSl.keep na mS kp, NewSl.keep no mS kp, NewSl.keep nr mS kp, H.obj_set_same bx, mo.trans' mS (fun _ _ k => k.elim) (fun _ _ k => k)⟩
  conv => whnf
  have hd : j < S.length := by simpa using hd
  have htk : S.take (j + 1) = S.take j ++ [S[j]] := List.take_succ_eq_append_getElem hd
  have hx0 := hN _ (getElem_in hd)
  have hjl : (agS R now (S.take j)).length ≤ S.length ∧ (ovS R now (S.take j)).length ≤ S.length ∧ (rsS B M R now (S.take j)).length ≤ S.length := by
    have h1 := agS_le R now (S.take j)
    have h2 := ovS_le R now (S.take j)
    have h3 := rsS_le B M R now (S.take j)
    rw [List.length_take] at h1 h2 h3
    omega
  obtain ⟨i1, c1, f1, f2, f3⟩ := sls_get wC_len (hr.get mo).is rfl hd
  refine ⟨_, Cell.mk bx rfl, ?_⟩
  conv => whnf
  refine ⟨i1, c1, j, f1, rfl, hd, ?_⟩
  conv => whnf
  refine ⟨_, f2, ?_⟩
  conv => whnf
  generalize S[j] = x at f2 f3 htk hx0 ⊢
  have la := fun i (k : inSl pa i) => SlIs.own_lt na.1 k
  have lo := fun i (k : inSl po i) => SlIs.own_lt no.1 k
  have lr := fun i (k : inSl pr i) => SlIs.own_lt nr.1 k
  obtain ⟨gm, gn, ml⟩ := lay_row (h := hh) (sz := 3) [i64 0, i64 0, i64 0] (wC x)
  refine ⟨_, _, gm, Nat.le_of_ble_eq_true rfl, ?_⟩
  conv => whnf
  refine ⟨_, Cell.mk gn rfl, ?_⟩
  conv => whnf
  have na1 := NewSl.kept na ml
  have no1 := NewSl.kept no ml
  have nr1 := NewSl.kept nr ml
  have mo1 := mod_none mo ml
  refine br_mk (fun hq => ?_) (fun hq => ?_)
  · conv => whnf
    have hF : dueF B M R now x = some x := by rw [dueF, if_pos (by simpa using hq)]
    have hA : agB R now x = false := by rw [agB, show decide (x.2.1 > now) = true from hq]; rfl
    have hO : ovB R now x = false := by rw [ovB, show decide (x.2.1 > now) = true from hq]; rfl
    have ea : agS R now (S.take (j + 1)) = agS R now (S.take j) := by rw [htk, agS_snoc, hA]; simp
    have eo : ovS R now (S.take (j + 1)) = ovS R now (S.take j) := by rw [htk, ovS_snoc, hO]; simp
    have er : rsS B M R now (S.take (j + 1)) = rsS B M R now (S.take j) ++ [x] := by rw [htk, rsS_snoc, hF]; rfl
    refine ⟨_, Cells.mk gn (Nat.le_of_ble_eq_true rfl) rfl, ?_⟩
    conv => whnf
    obtain ⟨y1, y2, y3⟩ := app1 nr1 mo1 (wC x) rfl
    refine ⟨_, _, y1, y2, by rw [show (T.at_ 200).bytes = 24 from rfl]; omega, by omega, fun pr2 hY hs hm hf => ?_⟩
    obtain ⟨nr2, mo2, my⟩ := y3 pr2 hY hs hm hf
    obtain ⟨na2, e2⟩ := app1d na1 (fun i a b => d2 i b a) my hf
    obtain ⟨no2, e3⟩ := app1d no1 (fun i a b => d3 i b a) my hf
    have e6 : (rsS B M R now (S.take j)).flatMap wC ++ wC x = (rsS B M R now (S.take (j + 1))).flatMap wC := by rw [er, List.flatMap_append]; simp
    have e7 : (rsS B M R now (S.take j)).length + 1 = (rsS B M R now (S.take (j + 1))).length := by rw [er]; simp
    rw [e6, e7] at nr2
    rw [← ea] at na2
    rw [← eo] at no2
    conv => whnf
    rw [e7, ← ea, ← eo]
    exact ⟨_, Forget.cons rfl (Forget.cons rfl (Forget.cons rfl (Forget.cons rfl (Forget.cons rfl (Forget.cons rfl (Forget.nil _)))))), ⟨j + 1, _, pa, po, pr2, hd, succ_i64 hd (by omega), na2, no2, nr2, d1, fun i a b => e2 i b a, fun i a b => e3 i b a, mo2, rfl⟩, mu_lt hd (by omega)⟩
  conv => whnf
  refine ⟨[0, 1, 2, 3, 4, 5, 6, 7], [0, 1, 0, 4, 12, 28, 63, 127], by kernel_rfl, ?_⟩
  conv => whnf
  refine ⟨_, Cell.mk gn rfl, ?_⟩
  conv => whnf
  have bx1 := ml.get bx (.inl (fun k => k))
  refine ⟨_, Cell.mk bx1 rfl, ?_⟩
  conv => whnf
  refine br_mk (fun hc => ?_) (fun hc => ?_)
  · conv => whnf
    have hc' : x.2.2 < R := by simpa using hc
    have hF : dueF B M R now x = some (x.1, now + waitV B M (x.2.2 + 1), x.2.2 + 1) := by rw [dueF, if_neg (by simpa using hq), if_pos hc']
    have hA : agB R now x = true := by rw [agB, show decide (x.2.1 > now) = false from hq, hc]; rfl
    have hO : ovB R now x = false := by rw [ovB, show decide (x.2.1 > now) = false from hq, hc]; rfl
    have ea : agS R now (S.take (j + 1)) = agS R now (S.take j) ++ [x.1] := by rw [htk, agS_snoc, hA]; simp
    have eo : ovS R now (S.take (j + 1)) = ovS R now (S.take j) := by rw [htk, ovS_snoc, hO]; simp
    have er : rsS B M R now (S.take (j + 1)) = rsS B M R now (S.take j) ++ [(x.1, now + waitV B M (x.2.2 + 1), x.2.2 + 1)] := by rw [htk, rsS_snoc, hF]; rfl
    refine ⟨_, Cell.mk gn rfl, ?_⟩
    conv => whnf
    have ew : IntKind.i64.wrap (x.2.2 + 1) = x.2.2 + 1 := wrap_i64 (by omega) (by omega)
    rw [ew]
    refine ⟨_, _, gn, Nat.le_of_ble_eq_true rfl, ?_⟩
    conv => whnf
    have gn2 := H.obj_set_same (ob' := .row true 3 [i64 x.1, i64 x.2.1, i64 (x.2.2 + 1)]) gn
    have ml2 : Ab.Mod (one hh.next) _ _ := Mod.set (ob := .row true 3 [i64 x.1, i64 x.2.1, i64 (x.2.2 + 1)]) rfl gn rfl
    have bx2 := ml2.get bx1 (.inl (fun k => by
      have : g = hh.next := k
      have := mo.next
      omega))
    refine ⟨_, Cell.mk gn2 rfl, ?_⟩
    conv => whnf
    refine (wait38 bx2 b1 b3 b4 (n := x.2.2 + 1) (by omega)).mono ?_
    rintro _ h4 ⟨eh, rfl⟩
    subst eh
    conv => whnf
    rw [wrap_i64 (x := now + waitV B M (x.2.2 + 1)) (by have := waitV_rng b1 b3 (x.2.2 + 1); omega) (by have := waitV_rng b1 b3 (x.2.2 + 1); omega)]
    refine ⟨_, _, gn2, Nat.le_of_ble_eq_true rfl, ?_⟩
    conv => whnf
    have gn3 := H.obj_set_same (ob' := .row true 3 (wC (x.1, now + waitV B M (x.2.2 + 1), x.2.2 + 1))) gn2
    have ml3 : Ab.Mod (one hh.next) _ _ := Mod.set (ob := .row true 3 (wC (x.1, now + waitV B M (x.2.2 + 1), x.2.2 + 1))) rfl gn2 rfl
    have na3 := NewSl.keep1 (NewSl.keep1 na1 ml2 la) ml3 la
    have no3 := NewSl.keep1 (NewSl.keep1 no1 ml2 lo) ml3 lo
    have nr3 := NewSl.keep1 (NewSl.keep1 nr1 ml2 lr) ml3 lr
    have hfr : ∀ i, i < h.next → one hh.next i → none_ i := fun i hi k => by
      have : i = hh.next := k
      have := mo.next
      omega
    have mo3 := (mo1.trans' ml2 (fun _ _ k => k) hfr).trans' ml3 (fun _ _ k => k) hfr
    refine ⟨_, Cell.mk gn3 rfl, ?_⟩
    conv => whnf
    obtain ⟨y1, y2, y3⟩ := app1 na3 mo3 [i64 x.1] rfl
    refine ⟨_, _, y1, y2, by rw [show (T.at_ 3).bytes = 8 from rfl]; omega, by omega, fun pa2 hY hs hm hf => ?_⟩
    obtain ⟨na4, mo4, my⟩ := y3 pa2 hY hs hm hf
    obtain ⟨no4, e1⟩ := app1d no3 d1 my hf
    obtain ⟨nr4, e2⟩ := app1d nr3 d2 my hf
    have gn4 := my.get gn3 (.inl (fun k => by
      have := la _ k
      omega))
    conv => whnf
    refine ⟨_, Cells.mk gn4 (Nat.le_of_ble_eq_true rfl) rfl, ?_⟩
    conv => whnf
    obtain ⟨z1, z2, z3⟩ := app1 nr4 mo4 (wC (x.1, now + waitV B M (x.2.2 + 1), x.2.2 + 1)) rfl
    refine ⟨_, _, z1, z2, by rw [show (T.at_ 200).bytes = 24 from rfl]; omega, by omega, fun pr2 hZ hs2 hm2 hf2 => ?_⟩
    obtain ⟨nr5, mo5, mz⟩ := z3 pr2 hZ hs2 hm2 hf2
    obtain ⟨na5, e3⟩ := app1d na4 (fun i a b => e2 i b a) mz hf2
    obtain ⟨no5, e4⟩ := app1d no4 (fun i a b => d3 i b a) mz hf2
    have q6 : ints .i64 (agS R now (S.take j)) ++ [i64 x.1] = ints .i64 (agS R now (S.take (j + 1))) := by rw [ea, ints_append]; rfl
    have q7 : (agS R now (S.take j)).length + 1 = (agS R now (S.take (j + 1))).length := by rw [ea]; simp
    have r6 : (rsS B M R now (S.take j)).flatMap wC ++ wC (x.1, now + waitV B M (x.2.2 + 1), x.2.2 + 1) = (rsS B M R now (S.take (j + 1))).flatMap wC := by rw [er, List.flatMap_append]; simp
    have r7 : (rsS B M R now (S.take j)).length + 1 = (rsS B M R now (S.take (j + 1))).length := by rw [er]; simp
    rw [q6, q7] at na5
    rw [r6, r7] at nr5
    rw [← eo] at no5
    conv => whnf
    rw [q7, r7, ← eo]
    exact ⟨_, Forget.cons rfl (Forget.cons rfl (Forget.cons rfl (Forget.cons rfl (Forget.cons rfl (Forget.cons rfl (Forget.nil _)))))), ⟨j + 1, _, pa2, po, pr2, hd, succ_i64 hd (by omega), na5, no5, nr5, e1, fun i a b => e3 i b a, fun i a b => e4 i b a, mo5, rfl⟩, mu_lt hd (by omega)⟩
  · conv => whnf
    have hF : dueF B M R now x = none := by rw [dueF, if_neg (by simpa using hq), if_neg (by simpa using hc)]
    have hA : agB R now x = false := by rw [agB, hc, Bool.and_false]
    have hO : ovB R now x = true := by rw [ovB, show decide (x.2.1 > now) = false from hq, hc]; rfl
    have ea : agS R now (S.take j) = agS R now (S.take (j + 1)) := by rw [htk, agS_snoc, hA]; simp
    have eo : ovS R now (S.take (j + 1)) = ovS R now (S.take j) ++ [x.1] := by rw [htk, ovS_snoc, hO]; simp
    have er : rsS B M R now (S.take j) = rsS B M R now (S.take (j + 1)) := by rw [htk, rsS_snoc, hF]; simp
    refine ⟨_, Cell.mk gn rfl, ?_⟩
    conv => whnf
    obtain ⟨y1, y2, y3⟩ := app1 no1 mo1 [i64 x.1] rfl
    refine ⟨_, _, y1, y2, by rw [show (T.at_ 3).bytes = 8 from rfl]; omega, by omega, fun po2 hY hs hm hf => ?_⟩
    obtain ⟨no2, mo2, my⟩ := y3 po2 hY hs hm hf
    obtain ⟨na2, e2⟩ := app1d na1 (fun i a b => d1 i b a) my hf
    obtain ⟨nr2, e3⟩ := app1d nr1 d3 my hf
    have e6 : ints .i64 (ovS R now (S.take j)) ++ [i64 x.1] = ints .i64 (ovS R now (S.take (j + 1))) := by rw [eo, ints_append]; rfl
    have e7 : (ovS R now (S.take j)).length + 1 = (ovS R now (S.take (j + 1))).length := by rw [eo]; simp
    rw [e6, e7] at no2
    rw [ea] at na2
    rw [er] at nr2
    conv => whnf
    rw [e7, ea, er]
    exact ⟨_, Forget.cons rfl (Forget.cons rfl (Forget.cons rfl (Forget.cons rfl (Forget.cons rfl (Forget.cons rfl (Forget.nil _)))))), ⟨j + 1, _, pa, po2, pr, hd, succ_i64 hd (by omega), na2, no2, nr2, fun i a b => e2 i b a, d2, e3, mo2, rfl⟩, mu_lt hd (by omega)⟩
def Due42R (h : H) (g : Nat) (B M R : Int) (S : List Wt) (now : Int) (r : V) (h' : H) : Prop :=
  ∃ qa qo, r = .tup [.sl qa (agS R now S).length, .sl qo (ovS R now S).length] ∧ RoSl h' qa (agS R now S).length 1 (ints .i64 (agS R now S)) ∧ RoSl h' qo (ovS R now S).length 1 (ints .i64 (ovS R now S)) ∧ RSt h' g B M R (rsS B M R now S) ∧ Ab.Mod (one g) h h'
theorem due42r {h : H} {g : Nat} {B M R : Int} {S : List Wt} (s : RSt h g B M R S) (ok : okT B M R = true) (hS : S.length ≤ 100000) (hN : ∀ x ∈ S, 0 ≤ x.2.2) {now : Int} (hn0 : -1000000000 ≤ now) (hn1 : now ≤ 1000000000) :
    ACalls Try.prog 88 [.ptr (some (g, 0)), i64 now] h (Due42R h g B M R S now) := by
  have hg := s.lt
  let W : H → Option (Nat × Nat) → List Int → Prop := fun h' q l => SlIs h' q l.length false 1 (ints .i64 l) ∧ ∀ i o, q = some (i, o) → h.next ≤ i
  refine ACalls.ro (Q := fun r h' => ∃ qa qo, r = .tup [.sl qa (agS R now S).length, .sl qo (ovS R now S).length] ∧ RoSl h' qa (agS R now S).length 1 (ints .i64 (agS R now S)) ∧ W h' qo (ovS R now S) ∧ RSt h' g B M R (rsS B M R now S) ∧ Ab.Mod (one g) h h') ?_ ?_
  · refine ACalls.ro (Q := fun r h' => ∃ qa qo, r = .tup [.sl qa (agS R now S).length, .sl qo (ovS R now S).length] ∧ W h' qa (agS R now S) ∧ W h' qo (ovS R now S) ∧ RSt h' g B M R (rsS B M R now S) ∧ Ab.Mod (one g) h h') ?_ ?_
    · refine (due42 s ok hS hN hn0 hn1).ro ?_
      rintro r h' ⟨qa, qo, qr, rfl, na, no, nr, bx, m⟩
      obtain ⟨i, h1, h2, h3⟩ := rst_ro hg bx nr m
      exact ⟨i, qa, qo, rfl, ⟨SlIs.ro_weak na.1.weak i, na.2⟩, ⟨SlIs.ro_weak no.1.weak i, no.2⟩, h2, h3⟩
    · rintro r h' ⟨qa, qo, rfl, na, no, st, m⟩
      obtain ⟨i, h1, h2⟩ := SlIs.freeze na.1
      have hi : h.next ≤ i := by
        rcases h1 with ⟨o, h1⟩ | h1
        · exact na.2 i o h1
        · exact Nat.le_trans m.next h1
      exact ⟨i, qa, qo, rfl, h2, ⟨SlIs.ro_weak no.1 i, no.2⟩, st.ro (by omega), m.ro_new hi⟩
  · rintro r h' ⟨qa, qo, rfl, na, no, st, m⟩
    obtain ⟨i, h1, h2⟩ := SlIs.freeze no.1
    have hi : h.next ≤ i := by
      rcases h1 with ⟨o, h1⟩ | h1
      · exact no.2 i o h1
      · exact Nat.le_trans m.next h1
    exact ⟨i, qa, qo, rfl, na.ro i, h2, st.ro (by omega), m.ro_new hi⟩
end Go.Proofs.Ytoljllfbabahpaa
