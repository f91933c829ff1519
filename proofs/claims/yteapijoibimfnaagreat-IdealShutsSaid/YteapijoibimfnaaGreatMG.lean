/- MG: several texts in one. -/
import Derived.Test.YteapijoibimfnaaGreatME
import Derived.Test.YteapijoibimfnaaGreatMF
set_option linter.unusedVariables false
set_option linter.unusedSimpArgs false
/-! Whether messages are one; which rows are the beginning of what was told. -/
namespace Go.Proofs.YteapijoibimfnaaGreat
open Go Go.Ab
theorem beq_len_ne {xs ys : List Int} (h : xs.length ≠ ys.length) : (xs == ys) = false := by
  cases e : xs == ys with
  | false => rfl
  | true => exact absurd (congrArg List.length (beq_iff_eq.1 e)) h
theorem beq_get_ne {xs ys : List Int} {j : Nat} (h : xs.getD j 0 ≠ ys.getD j 0) : (xs == ys) = false := by
  cases e : xs == ys with
  | false => rfl
  | true => exact absurd (by rw [beq_iff_eq.1 e]) h
theorem take_succ_eq {xs ys : List Int} {j : Nat} (hx : j < xs.length) (hy : j < ys.length) (h : xs.take j = ys.take j) (e : xs.getD j 0 = ys.getD j 0) : xs.take (j + 1) = ys.take (j + 1) := by
  rw [List.take_add_one, List.take_add_one, h, get_getD hx, get_getD hy, e]
theorem equal53 {h : H} {p q : Option (Nat × Nat)} {n m : Nat} {xs ys : List Int} (o1 : SlIs h p n false 1 (ints .i64 xs)) (o2 : SlIs h q m false 1 (ints .i64 ys)) (hn : n ≤ 70368744177664) : ACalls Tryz.prog 53 [.sl p n, .sl q m] h (fun r h' => h' = h ∧ r = .bool (xs == ys)) := by
  have h1 := slo_len o1
  have h2 := slo_len o2
  subst h1 h2
  refine call_ Tryz.func53 rfl rfl (by kernel_rfl) ?_
  conv => whnf
  refine br_mk (fun hb => ?_) (fun hb => ?_)
  · conv => whnf
    simp at hb
    rw [beq_len_ne (xs := xs) (ys := ys) (by omega)]
    exact ⟨rfl, rfl⟩
  conv => whnf
  simp at hb
  refine ⟨fun env hh => hh = h ∧ ∃ (j : Nat) (z : Int), j ≤ xs.length ∧ z = j ∧ xs.take j = ys.take j ∧ env = [(13, i64 z), (12, i64 xs.length), (1, .sl q ys.length), (0, .sl p xs.length)],
    fun env _ => match get env 13 with
      | .int _ z => (xs.length - z).toNat
      | _ => 0, ⟨_, Forget.cons rfl (Forget.cons rfl (Forget.cons rfl (Forget.cons rfl (Forget.nil _)))), rfl, 0, _, Nat.zero_le _, rfl, rfl, rfl⟩, ?_⟩
  rintro _ _ ⟨rfl, j, z, hj, rfl, ht, rfl⟩
  conv => whnf
  refine br_mk (fun hc => ?_) (fun hc => ?_)
  rotate_left
  · conv => whnf
    simp at hc
    obtain rfl : j = xs.length := by omega
    have : xs = ys := by
      rw [List.take_length] at ht
      rw [ht, List.take_of_length_le (by omega)]
    subst this
    exact ⟨rfl, by rw [beq_self_eq_true]⟩
  conv => whnf
  simp at hc
  refine ⟨[0, 1, 2, 3, 4, 5, 6, 7, 8], [0, 0, 3, 7, 0, 0, 48, 112, 255], by kernel_rfl, ?_⟩
  conv => whnf
  obtain ⟨i, c, rfl, k1⟩ := slo_get o1 hc
  refine ⟨_, _, j, rfl, rfl, hc, ?_⟩
  conv => whnf
  refine ⟨_, k1, ?_⟩
  conv => whnf
  obtain ⟨i', c', rfl, k2⟩ := slo_get o2 (j := j) (by omega)
  refine ⟨_, _, j, rfl, rfl, by omega, ?_⟩
  conv => whnf
  refine ⟨_, k2, ?_⟩
  conv => whnf
  refine br_mk (fun hd => ?_) (fun hd => ?_)
  · conv => whnf
    rw [beq_get_ne (xs := xs) (ys := ys) (j := j) (by simpa using hd)]
    exact ⟨rfl, rfl⟩
  conv => whnf
  have hs2 := succ_i64 (j := j) (n := xs.length) hc hn
  refine ⟨_, Forget.cons rfl (Forget.cons rfl (Forget.cons rfl (Forget.cons rfl (Forget.nil _)))), ⟨rfl, j + 1, _, by omega, hs2, take_succ_eq hc (by omega) ht (by simpa using hd), rfl⟩, ?_⟩
  show (xs.length - IntKind.i64.wrap ((j : Int) + 1)).toNat < (xs.length - (j : Int)).toNat
  rw [hs2]
  omega
def hintL (m : Msg) : List Int := [m.c, m.e, m.f, m.l]
def sameM (a b : Msg) : Bool := a.k == b.k && (a.p == b.p && (a.d == b.d && (natL a.es == natL b.es && (a.w == b.w && hintL a == hintL b))))
theorem same28 {h : H} (a b : Msg) (oa : mOk h a) (ob : mOk h b) (la : a.es.length ≤ 1000000) : ACalls Tryz.prog 28 [.agg (mC a), .agg (mC b)] h (fun r h' => r = .bool (sameM a b) ∧ Ab.Mod none_ h h') := by
  refine call_ Tryz.func28 rfl rfl (by kernel_rfl) ?_
  conv => whnf
  have m1 := Mod.push none_ h (.row true 9 (mC a))
  have m2 := Mod.push none_ (h.push (.row true 9 (mC a))) (.row true 9 (mC b))
  have g1 : ((h.push (.row true 9 (mC a))).push (.row true 9 (mC b))).obj h.next = some (.row true 9 (mC a)) := m2.get (H.obj_push_new _ _) (.inl (fun k => k))
  have g2 : ((h.push (.row true 9 (mC a))).push (.row true 9 (mC b))).obj (h.next + 1) = some (.row true 9 (mC b)) := H.obj_push_new (h.push (.row true 9 (mC a))) _
  have m12 := mod_none m1 m2
  have oa := mOk.get oa m12
  have ob := mOk.get ob m12
  refine ⟨_, Cell.mk g1 rfl, ?_⟩
  conv => whnf
  refine ⟨_, Cell.mk g2 rfl, ?_⟩
  conv => whnf
  have st1 : ∀ {x y : Bool}, x = false → (x && y) = false := fun {x y} e => by rw [e]; rfl
  refine br_mk (fun hk => ?_) (fun hk => ?_)
  rotate_left
  · conv => whnf
    exact ⟨by rw [sameM, hk, Bool.false_and], m12⟩
  conv => whnf
  refine ⟨_, Cell.mk g1 rfl, ?_⟩
  conv => whnf
  refine ⟨_, Cell.mk g2 rfl, ?_⟩
  conv => whnf
  refine br_mk (fun hp => ?_) (fun hp => ?_)
  rotate_left
  · conv => whnf
    exact ⟨by rw [sameM, hp, Bool.false_and, Bool.and_false], m12⟩
  conv => whnf
  refine ⟨_, Cell.mk g1 rfl, ?_⟩
  conv => whnf
  refine ⟨_, Cell.mk g2 rfl, ?_⟩
  conv => whnf
  refine br_mk (fun hd => ?_) (fun hd => ?_)
  rotate_left
  · conv => whnf
    exact ⟨by rw [sameM, hd, Bool.false_and, Bool.and_false, Bool.and_false], m12⟩
  conv => whnf
  refine ⟨_, Cell.mk g1 rfl, ?_⟩
  conv => whnf
  refine ⟨_, Cell.mk g2 rfl, ?_⟩
  conv => whnf
  refine (equal53 (RoSl.is oa.1) (RoSl.is ob.1) (by omega)).mono ?_
  rintro _ h' ⟨eh, rfl⟩
  subst h'
  conv => whnf
  refine br_mk (fun he => ?_) (fun he => ?_)
  rotate_left
  · conv => whnf
    exact ⟨by rw [sameM, he, Bool.false_and, Bool.and_false, Bool.and_false, Bool.and_false], m12⟩
  conv => whnf
  refine ⟨_, Cell.mk g1 rfl, ?_⟩
  conv => whnf
  refine ⟨_, Cell.mk g2 rfl, ?_⟩
  conv => whnf
  refine br_mk (fun hw => ?_) (fun hw => ?_)
  rotate_left
  · conv => whnf
    exact ⟨by rw [sameM, hw, Bool.false_and, Bool.and_false, Bool.and_false, Bool.and_false, Bool.and_false], m12⟩
  conv => whnf
  refine ⟨[i64 a.c, i64 a.e, i64 a.f, i64 a.l], Cells.mk g1 (Nat.le_of_ble_eq_true rfl) rfl, ?_⟩
  conv => whnf
  refine ⟨[i64 b.c, i64 b.e, i64 b.f, i64 b.l], Cells.mk g2 (Nat.le_of_ble_eq_true rfl) rfl, ?_⟩
  conv => whnf
  refine ⟨_, _, rfl, rfl, ?_⟩
  conv => whnf
  refine ⟨?_, m12⟩
  rw [sameM, hk, hp, hd, he, hw]
  rfl
theorem sameM_k {a b : Msg} (h : a.k ≠ b.k) : sameM a b = false := by
  rw [sameM, show (a.k == b.k) = false from by simpa using h]
  rfl
theorem sameM_eq {a b : Msg} (h : noEp a = noEp b) : sameM a b = true := by
  obtain ⟨a1, a2, a3, a4, a5, a6, a7, a8, a9, a10⟩ := a
  obtain ⟨b1, b2, b3, b4, b5, b6, b7, b8, b9, b10⟩ := b
  simp only [noEp, Msg.mk.injEq, true_and] at h
  obtain ⟨h1, h2, h3, h4, h6, h7, h8, h9, h10⟩ := h
  subst h1 h2 h3 h4 h6 h7 h8 h9 h10
  simp [sameM, hintL]
def EfI (q1 q2 : Option (Nat × Nat)) (A B : List Msg) (h : H) (env : Env) (hh : H) : Prop := ∃ (j : Nat) (z : Int), j ≤ A.length ∧ z = j ∧ (∀ i (ha : i < A.length) (hb : i < B.length), i < j → sameM A[i] B[i] = true) ∧ Ab.Mod none_ h hh ∧
  env = [(17, i64 z), (16, i64 A.length), (15, .sl q1 A.length), (2, .fn 28), (1, .sl q2 B.length)]
set_option maxHeartbeats 2000000 in
theorem equalf27 {h : H} {q1 q2 : Option (Nat × Nat)} {A B : List Msg} (s1 : SlIs h q1 A.length false 9 (A.flatMap mC)) (s2 : SlIs h q2 B.length false 9 (B.flatMap mC)) (hl : A.length = B.length) (h1 : ∀ m ∈ A, mOk h m ∧ m.es.length ≤ 1000000) (h2 : ∀ m ∈ B, mOk h m) (hn : A.length ≤ 1000000) :
    ACalls Tryz.prog 27 [.sl q1 A.length, .sl q2 B.length, .fn 28] h (fun r h' => (∃ b, r = .bool b ∧ (b = true ↔ ∀ i (ha : i < A.length) (hb : i < B.length), sameM A[i] B[i] = true)) ∧ Ab.Mod none_ h h') := by
  refine call_ Tryz.func27 rfl rfl (by kernel_rfl) ?_
  conv => whnf
  refine br_mk (fun hb => ?_) (fun hb => ?_)
  · simp at hb
    omega
  conv => whnf
  refine ⟨EfI q1 q2 A B h, fun env _ => TnMu 17 A.length env, ⟨_, Forget.cons rfl (Forget.cons rfl (Forget.cons rfl (Forget.cons rfl (Forget.cons rfl (Forget.nil _))))), 0, 0, Nat.zero_le _, rfl, (fun i _ _ hi => absurd hi (Nat.not_lt_zero i)), Mod.refl _ _, rfl⟩, ?_⟩
  rintro _ hh ⟨j, z, hj, rfl, hs, m, rfl⟩
  conv => whnf
  refine br_mk (fun hd => ?_) (fun hd => ?_)
  · conv => whnf
    simp at hd
    have hd2 : j < B.length := by omega
    obtain ⟨i1, c1, e1, k1, -⟩ := sls_get mC_len (SlIs.old s1 m (fun _ _ k => k)) rfl hd
    refine ⟨i1, c1, j, e1, rfl, hd, ?_⟩
    conv => whnf
    refine ⟨_, k1, ?_⟩
    conv => whnf
    obtain ⟨gz, gA, mx⟩ := lay_row (h := hh) (sz := 9) [i64 0, i64 0, i64 0, .sl none 0, i64 0, i64 0, i64 0, i64 0, i64 0] (mC A[j])
    refine ⟨_, _, gz, Nat.le_of_ble_eq_true rfl, ?_⟩
    conv => whnf
    have m1 := mod_none m mx
    obtain ⟨i2, c2, e2, k2, -⟩ := sls_get mC_len (SlIs.old s2 m1 (fun _ _ k => k)) rfl hd2
    refine ⟨i2, c2, j, e2, rfl, hd2, ?_⟩
    conv => whnf
    refine ⟨_, k2, ?_⟩
    conv => whnf
    obtain ⟨gz2, gB, my⟩ := lay_row (h := (hh.push (.row true 9 [i64 0, i64 0, i64 0, .sl none 0, i64 0, i64 0, i64 0, i64 0, i64 0])).set hh.next (.row true 9 (mC A[j]))) (sz := 9) [i64 0, i64 0, i64 0, .sl none 0, i64 0, i64 0, i64 0, i64 0, i64 0] (mC B[j])
    refine ⟨_, _, gz2, Nat.le_of_ble_eq_true rfl, ?_⟩
    conv => whnf
    have m2 := mod_none m1 my
    have gA2 := my.get gA (.inl fun k => k)
    refine ⟨_, Cells.mk gA2 (Nat.le_of_ble_eq_true rfl) rfl, ?_⟩
    conv => whnf
    refine ⟨_, Cells.mk gB (Nat.le_of_ble_eq_true rfl) rfl, ?_⟩
    conv => whnf
    have oA := h1 A[j] (List.getElem_mem hd)
    have oB := h2 B[j] (List.getElem_mem hd2)
    refine (same28 A[j] B[j] (oA.1.get m2) (oB.get m2) oA.2).mono ?_
    rintro _ h3 ⟨rfl, m3⟩
    conv => whnf
    have m4 := mod_none m2 m3
    refine br_mk (fun hx => ?_) (fun hx => ?_)
    · conv => whnf
      have hx : sameM A[j] B[j] = false := by simpa using hx
      exact ⟨⟨false, rfl, ⟨fun k => (by cases k), fun k => (by have := k j hd hd2; rw [hx] at this; cases this)⟩⟩, m4⟩
    conv => whnf
    have hx : sameM A[j] B[j] = true := by simpa using hx
    refine ⟨_, Forget.cons rfl (Forget.cons rfl (Forget.cons rfl (Forget.cons rfl (Forget.cons rfl (Forget.nil _))))), ⟨j + 1, _, hd, succ_i64 hd (by omega), (fun i ha hb hij => ?_), m4, rfl⟩, ?_⟩
    · by_cases q : i = j
      · subst q
        exact hx
      · exact hs i ha hb (by omega)
    · exact mu_lt hd hn
  · conv => whnf
    simp at hd
    exact ⟨⟨true, rfl, ⟨fun _ i ha hb => hs i ha hb (by omega), fun _ => rfl⟩⟩, m⟩
theorem equalf27n {h : H} {q1 q2 : Option (Nat × Nat)} {A B : List Msg} {nb : Nat} (hnb : nb = B.length) (s1 : SlIs h q1 A.length false 9 (A.flatMap mC)) (s2 : SlIs h q2 B.length false 9 (B.flatMap mC)) (hl : A.length = B.length) (h1 : ∀ m ∈ A, mOk h m ∧ m.es.length ≤ 1000000) (h2 : ∀ m ∈ B, mOk h m) (hn : A.length ≤ 1000000) :
    ACalls Tryz.prog 27 [.sl q1 A.length, .sl q2 nb, .fn 28] h (fun r h' => (∃ b, r = .bool b ∧ (b = true ↔ ∀ i (ha : i < A.length) (hb : i < B.length), sameM A[i] B[i] = true)) ∧ Ab.Mod none_ h h') := by
  subst hnb
  exact equalf27 s1 s2 hl h1 h2 hn
/-- what is told: a row that begins with this -/
def TldR (T : List Msg) (h : H) (r : V) (h' : H) : Prop := ∃ (q : Option (Nat × Nat)) (T' : List Msg), r = .sl q T'.length ∧ T'.map noEp = T.map noEp ∧ SlIs h' q T'.length false 9 (T'.flatMap mC) ∧ (∀ m ∈ T', mOk h' m) ∧ Ab.Mod none_ h h'
theorem flat_take9 : ∀ (l : List Msg) (n : Nat), (l.flatMap mC).take (n * 9) = (l.take n).flatMap mC
  | [], n => by simp
  | a :: l, 0 => by simp
  | a :: l, n + 1 => by
    rw [List.flatMap_cons, List.take_succ_cons, List.flatMap_cons, ← flat_take9 l n, show (n + 1) * 9 = (mC a).length + n * 9 from by rw [mC_len]; omega, List.take_length_add_append]
theorem slp_zero (q : Option (Nat × Nat)) : slp q 0 = q := by
  cases q <;> rfl
set_option maxHeartbeats 2000000 in
theorem fits13 {h : H} {p : Option (Nat × Nat)} {d k : Int} {T : List Msg} (ht : ACalls Tryz.prog 10 [.ptr p, i64 d, i64 k] h (TldR T h)) (hT : T.length ≤ 90000) {qg : Option (Nat × Nat)} {G : List Msg} (sg : SlIs h qg G.length false 9 (G.flatMap mC)) (hg : ∀ m ∈ G, mOk h m ∧ m.es.length ≤ 1000000) :
    ACalls Tryz.prog 13 [.ptr p, i64 d, i64 k, .sl qg G.length] h (fun r h' => (∃ b, r = .bool b ∧ (b = true ↔ ∃ T' : List Msg, T'.map noEp = T.map noEp ∧ G.length ≤ T'.length ∧ ∀ i (hi : i < G.length) (hb : i < T'.length), sameM G[i] T'[i] = true)) ∧ Ab.Mod none_ h h') := by
  refine call_ Tryz.func13 rfl rfl (by kernel_rfl) ?_
  conv => whnf
  refine ht.mono ?_
  rintro _ h1 ⟨q, T', rfl, hTT, st, ht', m1⟩
  conv => whnf
  have hlT : T'.length = T.length := by
    have := congrArg List.length hTT
    simpa using this
  have hsame : ∀ (T2 : List Msg), T2.map noEp = T.map noEp → ∀ (i : Nat) (hi : i < T2.length) (hb : i < T'.length) (x : Msg), sameM x T2[i] = sameM x T'[i] := fun T2 h2 i hi hb x => by
    have e1 : (T2.map noEp)[i]? = (T'.map noEp)[i]? := by rw [h2, hTT]
    rw [List.getElem?_map, List.getElem?_map, List.getElem?_eq_getElem hi, List.getElem?_eq_getElem hb] at e1
    have e2 : noEp T2[i] = noEp T'[i] := Option.some.inj e1
    have e3 : ∀ y : Msg, sameM x y = sameM x (noEp y) := fun _ => rfl
    rw [e3, e2, ← e3]
  refine br_mk (fun hx => ?_) (fun hx => ?_)
  · conv => whnf
    have hx : G.length ≤ T'.length := by simpa using hx
    refine ⟨⟨_, st⟩, ?_⟩
    conv => whnf
    refine ⟨G.length, rfl, Nat.zero_le _, hx, ?_⟩
    conv => whnf
    have hl2 : (T'.take G.length).length = G.length := by rw [List.length_take]; omega
    have st2 : SlIs h1 (slp q (0 * 9)) (T'.take G.length).length false 9 ((T'.take G.length).flatMap mC) := by
      have := SlIs.cut st (l := 0) (m := G.length) (Nat.zero_le _) hx
      rw [Nat.sub_zero, show (T'.flatMap mC).drop (0 * 9) = T'.flatMap mC by rw [Nat.zero_mul, List.drop_zero], flat_take9] at this
      rw [hl2]
      exact this
    refine (equalf27n hl2.symm (SlIs.old sg m1 (fun _ _ k => k)) st2 hl2.symm (fun m hm => ⟨(hg m hm).1.get m1, (hg m hm).2⟩) (fun m hm => ht' m (List.mem_of_mem_take hm)) (by omega)).mono ?_
    rintro _ h2 ⟨⟨b, rfl, hb⟩, m2⟩
    conv => whnf
    refine ⟨⟨b, rfl, hb.trans ⟨fun k => ⟨T', hTT, hx, fun i hi hb => ?_⟩, fun ⟨T2, k1, k2, k3⟩ i hi hb => ?_⟩⟩, mod_none m1 m2⟩
    · have := k i hi (by omega)
      rw [List.getElem_take] at this
      exact this
    · rw [List.getElem_take, ← hsame T2 k1 i (by omega) (by omega)]
      exact k3 i hi (by omega)
  · conv => whnf
    have hx : ¬ G.length ≤ T'.length := by simpa using hx
    refine ⟨⟨false, rfl, ⟨fun k => (by cases k), fun ⟨T2, k1, k2, _⟩ => ?_⟩⟩, m1⟩
    have := congrArg List.length k1
    simp at this
    omega
end Go.Proofs.YteapijoibimfnaaGreat
/-! The law's beds: a town and a server's numbers. -/
namespace Go.Proofs.YteapijoibimfnaaGreat
open Go Go.Ab
theorem round7 {m : Int} (hm : 0 < m) (hm2 : m ≤ 72057594037927936) (x : Int) (h : H) : ACalls Tryz.prog 7 [i64 x, i64 m] h (fun r h' => h' = h ∧ r = i64 (x % m)) := by
  have hr := tmod_round (x := x) hm
  have h1 := Int.emod_nonneg x (show m ≠ 0 by omega)
  have h2 := Int.emod_lt_of_pos x hm
  refine call_ Tryz.func7 rfl rfl (by kernel_rfl) ?_
  conv => whnf
  refine ⟨by omega, ?_⟩
  conv => whnf
  refine br_mk (fun hb => ?_) (fun hb => ?_)
  · conv => whnf
    simp at hb
    rw [if_pos hb] at hr
    refine ⟨rfl, congrArg i64 ?_⟩
    rw [hr]
    exact wrap_i64 (by omega) (by omega)
  · conv => whnf
    simp at hb
    rw [if_neg (by omega)] at hr
    exact ⟨rfl, congrArg i64 hr⟩
set_option maxHeartbeats 2000000 in
theorem small15 {h : H} {p : Option (Nat × Nat)} {n : Nat} {l : List Int} (s : SlIs h p n false 1 (ints .i64 l)) (hn : n ≤ 1000000) : ACalls Tryz.prog 15 [.sl p n] h (fun r h' => (∃ a b c d e f, r = .agg [i64 a, i64 b, i64 c, i64 d, i64 e, i64 f]) ∧ Ab.Mod none_ h h') := by
  refine call_ Tryz.func15 rfl rfl (by kernel_rfl) ?_
  conv => whnf
  obtain ⟨mP, gP⟩ := pre_row (Mod.refl none_ h) (.row true 6 [i64 0, i64 0, i64 0, i64 0, i64 0, i64 0])
  have s1 := SlIs.old s mP (fun _ _ k => k)
  refine (at32 s1 hn 0 3 (by decide) (by decide) (by decide)).mono ?_
  rintro _ h1 ⟨eh, a, rfl, _⟩
  subst h1
  conv => whnf
  refine (at32 s1 hn 1 4 (by decide) (by decide) (by decide)).mono ?_
  rintro _ h1 ⟨eh, b, rfl, _⟩
  subst h1
  conv => whnf
  refine (at32 s1 hn 2 5 (by decide) (by decide) (by decide)).mono ?_
  rintro _ h1 ⟨eh, c, rfl, _⟩
  subst h1
  conv => whnf
  refine (at32 s1 hn 3 6 (by decide) (by decide) (by decide)).mono ?_
  rintro _ h1 ⟨eh, d, rfl, _⟩
  subst h1
  conv => whnf
  obtain ⟨a', ha⟩ : ∃ x, x = IntKind.i64.wrap (1 + (a : Int)) := ⟨_, rfl⟩
  obtain ⟨b', hb⟩ : ∃ x, x = IntKind.i64.wrap (1 + (b : Int)) := ⟨_, rfl⟩
  obtain ⟨d', hd⟩ : ∃ x, x = IntKind.i64.wrap (1 + (d : Int)) := ⟨_, rfl⟩
  rw [← ha, ← hb, ← hd]
  obtain ⟨g0, gx, mx⟩ := lay_row (h := h.push (.row true 6 [i64 0, i64 0, i64 0, i64 0, i64 0, i64 0])) (sz := 6) [i64 0, i64 0, i64 0, i64 0, i64 0, i64 0] [i64 a', i64 b', i64 c, i64 d', i64 0, i64 0]
  refine ⟨_, _, g0, Nat.le_of_ble_eq_true rfl, ?_⟩
  conv => whnf
  have s5 := SlIs.old s1 mx (fun _ _ k => k)
  refine ⟨[0, 1, 2, 3, 4, 5, 6], [0, 1, 0, 4, 15, 31, 63], by kernel_rfl, ?_⟩
  conv => whnf
  refine ⟨_, Cell.mk gx rfl, ?_⟩
  conv => whnf
  refine (at32 s5 hn 4 10 (by decide) (by decide) (by decide)).mono ?_
  rintro _ h1 ⟨eh, e, rfl, _⟩
  subst h1
  conv => whnf
  refine ⟨⟨_, Cell.mk gx rfl, rfl⟩, ?_⟩
  conv => whnf
  obtain ⟨e', he⟩ : ∃ x, x = IntKind.i64.wrap (d' + (e : Int)) := ⟨_, rfl⟩
  rw [← he]
  refine ⟨_, _, gx, Nat.le_of_ble_eq_true rfl, ?_⟩
  conv => whnf
  have gy := H.obj_set_same gx (ob' := .row true 6 [i64 a', i64 b', i64 c, i64 d', i64 e', i64 0])
  have my := new_set (cs' := [i64 a', i64 b', i64 c, i64 d', i64 e', i64 0]) mx (Nat.le_refl _) gx
  refine (at32 (SlIs.old s1 my (fun _ _ k => k)) hn 5 120 (by decide) (by decide) (by decide)).mono ?_
  rintro _ h1 ⟨eh, f, rfl, _⟩
  subst h1
  conv => whnf
  obtain ⟨f', hf⟩ : ∃ x, x = IntKind.i64.wrap (5 + (f : Int)) := ⟨_, rfl⟩
  rw [← hf]
  refine ⟨_, _, gy, Nat.le_of_ble_eq_true rfl, ?_⟩
  conv => whnf
  have gz := H.obj_set_same gy (ob' := .row true 6 [i64 a', i64 b', i64 c, i64 d', i64 e', i64 f'])
  have mz := new_set (cs' := [i64 a', i64 b', i64 c, i64 d', i64 e', i64 f']) my (Nat.le_refl _) gy
  refine ⟨_, Cells.mk gz (Nat.le_of_ble_eq_true rfl) rfl, ?_⟩
  conv => whnf
  have gP3 := mz.get gP (.inl fun k => k)
  refine ⟨_, _, gP3, Nat.le_of_ble_eq_true rfl, ?_⟩
  conv => whnf
  have gU := H.obj_set_same gP3 (ob' := .row true 6 [i64 a', i64 b', i64 c, i64 d', i64 e', i64 f'])
  have mU := new_set (cs' := [i64 a', i64 b', i64 c, i64 d', i64 e', i64 f']) (mod_none mP mz) (Nat.le_refl _) gP3
  refine ⟨_, Cells.mk gU (Nat.le_of_ble_eq_true rfl) rfl, ?_⟩
  conv => whnf
  exact ⟨⟨_, _, _, _, _, _, rfl⟩, mU⟩
theorem sl_keep {h h' : H} {q : Option (Nat × Nat)} {n sz b : Nat} {cs : List V} {o' : Bool} {sz' : Nat} {rest' : List V} (s : SlIs h q n false sz cs) (hb : h.obj b = some (.row o' sz' rest')) (hne : sz ≠ sz' ∨ ∃ v, v ∈ cs ∧ v ∉ rest') (m : Ab.Mod (one b) h h') : SlIs h' q n false sz cs := by
  obtain ⟨hl, hr⟩ := s
  rcases hr with ⟨h0, _⟩ | ⟨i, o, o2, r, rfl, hi, h3, h4, h5⟩
  · exact ⟨hl, .inl ⟨h0, .inr rfl⟩⟩
  · refine ⟨hl, .inr ⟨i, o, o2, r, rfl, m.get hi (.inl fun k => ?_), h3, h4, h5⟩⟩
    have k : i = b := k
    subst k
    rw [hi] at hb
    injection hb with hb
    injection hb with b1 b2 b3
    subst b2
    subst b3
    rcases hne with hne | ⟨v, v1, v2⟩
    · exact hne rfl
    · rw [← h5] at v1
      exact v2 (List.mem_of_mem_drop (List.mem_of_mem_take v1))
def BedR (h : H) (r : V) (h' : H) : Prop := ∃ (g : Gra) (a b c d e f : Int), r = .tup [.agg g.cells, .agg [i64 a, i64 b, i64 c, i64 d, i64 e, i64 f]] ∧ g.ok h' ∧ mayG g = true ∧ 0 < g.es.length ∧ Ab.Mod none_ h h'
set_option maxHeartbeats 2000000 in
theorem beds5 {h : H} {p q : Option (Nat × Nat)} {n m : Nat} {l l2 : List Int} (s : SlIs h p n false 1 (ints .i64 l)) (hn : n ≤ 1000000) (s2 : SlIs h q m false 1 (ints .i64 l2)) (hm : m ≤ 1000000) : ACalls Tryz.prog 5 [.sl p n, .sl q m] h (BedR h) := by
  refine call_ Tryz.func5 rfl rfl (by kernel_rfl) ?_
  conv => whnf
  obtain ⟨m0, g0⟩ := pre_row (Mod.refl none_ h) (.row true 3 gra0.cells)
  obtain ⟨m1, g1⟩ := pre_row m0 (.row true 6 [i64 0, i64 0, i64 0, i64 0, i64 0, i64 0])
  have g0 := m1.get g0 (.inl fun k => k)
  have mA := mod_none m0 m1
  refine (town14 (SlIs.old s mA (fun _ _ k => k)) hn).mono ?_
  rintro _ h2 ⟨g, rfl, ok, m2, hmay, hpos⟩
  have g0 := m2.get g0 (.inl fun k => k)
  have g1 := m2.get g1 (.inl fun k => k)
  have mB := mod_none mA m2
  conv => whnf
  refine (small15 (SlIs.old s2 mB (fun _ _ k => k)) hm).mono ?_
  rintro _ h3 ⟨⟨a, b, c, d, e, f, rfl⟩, m3⟩
  have g0 := m3.get g0 (.inl fun k => k)
  have g1 := m3.get g1 (.inl fun k => k)
  have mC := mod_none mB m3
  conv => whnf
  refine ⟨_, _, g0, Nat.le_of_ble_eq_true rfl, ?_⟩
  conv => whnf
  have ms := Mod.set (S := one h.next) (ob := .row true 3 g.cells) rfl g0 rfl
  have g4 := H.obj_set_same g0 (ob' := .row true 3 g.cells)
  have m4 := new_set (cs' := g.cells) mC (Nat.le_refl _) g0
  have g5 := ms.get g1 (.inl fun k => by
    have k : h.next + 1 = h.next := k
    omega)
  refine ⟨_, _, g5, Nat.le_of_ble_eq_true rfl, ?_⟩
  conv => whnf
  have ms2 := Mod.set (S := one (h.next + 1)) (ob := .row true 6 [i64 a, i64 b, i64 c, i64 d, i64 e, i64 f]) rfl g5 rfl
  have g6 := H.obj_set_same g5 (ob' := .row true 6 [i64 a, i64 b, i64 c, i64 d, i64 e, i64 f])
  have m6 := new_set (cs' := [i64 a, i64 b, i64 c, i64 d, i64 e, i64 f]) m4 (Nat.le_succ _) g5
  have g7 := ms2.get g4 (.inl fun k => by
    have k : h.next = h.next + 1 := k
    omega)
  refine ⟨_, Cells.mk g7 (Nat.le_of_ble_eq_true rfl) rfl, ?_⟩
  conv => whnf
  refine ⟨_, Cells.mk g6 (Nat.le_of_ble_eq_true rfl) rfl, ?_⟩
  conv => whnf
  have ok3 := ok.old m3 (fun _ _ k => k)
  have hcell : i64 (g.es[0].1) ∈ g.es.flatMap eC := List.mem_flatMap.2 ⟨g.es[0], List.getElem_mem hpos, List.mem_cons_self⟩
  have hno : i64 (g.es[0].1) ∉ gra0.cells := by simp [Gra.cells, gra0]
  have ok4 : g.ok _ := ⟨sl_keep ok3.n g0 (.inl (by decide)) ms, sl_keep ok3.e g0 (.inr ⟨_, hcell, hno⟩) ms, sl_keep ok3.b g0 (.inl (by decide)) ms, ok.ln, ok.le, ok.lb⟩
  have ok5 : g.ok _ := ⟨sl_keep ok4.n g5 (.inl (by decide)) ms2, sl_keep ok4.e g5 (.inl (by decide)) ms2, sl_keep ok4.b g5 (.inl (by decide)) ms2, ok.ln, ok.le, ok.lb⟩
  exact ⟨g, a, b, c, d, e, f, rfl, ok5, hmay, hpos, m6⟩
end Go.Proofs.YteapijoibimfnaaGreat
/-! A way that is told holds: the plain law. -/
namespace Go.Proofs.YteapijoibimfnaaGreat
open Go Go.Ab
def lastK (T : List Msg) : Option Int := T.getLast?.map fun m => m.k
theorem lastK_snoc (T : List Msg) (m : Msg) : lastK (T ++ [m]) = some m.k := by simp [lastK]
theorem shutB_mask (U : List Int) (x : Nat) : shutB (maskV U) x = decide (0 < U.getD x 0) := by
  rw [shutB, List.getD_eq_getElem?_getD, maskV, List.getElem?_map]
  by_cases h : x < U.length
  · rw [List.getElem?_range h]
    rfl
  · rw [List.getElem?_eq_none (by rw [List.length_range]; omega), List.getD_eq_getElem?_getD, List.getElem?_eq_none (by omega)]
    rfl
theorem Wlk.rch {g : Gra} {k : Nat} {c : List Bool} {e : Nat} {w : List Nat} (h : Wlk g k c e w) : Rch (rdOf g k c) e := by
  induction h with
  | nil he hk => exact .base he (beq_iff_eq.2 hk)
  | cons he hn hs hw ih =>
    refine .step he ?_ (decide_eq_true hn) hs ih
    cases hw with
    | nil h _ => exact h
    | cons h _ _ _ => exact h
theorem Wlk.mono {g : Gra} {k : Nat} {c c2 : List Bool} {e : Nat} {w : List Nat} (h : Wlk g k c e w) (hc : ∀ x ∈ w, shutB c x = false → shutB c2 x = false) : Wlk g k c2 e w := by
  induction h with
  | nil he hk => exact .nil he hk
  | cons he hn hs _ ih => exact .cons he hn (hc _ List.mem_cons_self hs) (ih fun x hx => hc x (List.mem_cons_of_mem _ hx))
theorem Rch.mono {g : Gra} {k : Nat} {c c2 : List Bool} {e : Nat} (h : Rch (rdOf g k c) e) (hc : ∀ x, shutB c x = false → shutB c2 x = false) : Rch (rdOf g k c2) e := by
  induction h with
  | base he hf => exact .base he hf
  | step he hn ht hs _ ih => exact .step he hn ht (hc _ hs) ih
structure JG (c : IdC) (v : IdV) : Prop where
  two : 2 ≤ v.T.length
  don : v.don = true → toK c.g v.ar = v.nd ∧ lastK v.T = some 8
  has : v.don = false → v.has = true → Wlk c.g v.nd (maskV v.U) v.ar v.way ∧ toK c.g v.ar ≠ v.nd ∧ lastK v.T = some 7
  no : v.don = false → v.has = false → ¬ Rch (rdOf c.g v.nd (maskV v.U)) v.ar ∧ lastK v.T = some 6
structure SmV (v v' : IdV) : Prop where
  ar : v'.ar = v.ar
  nd : v'.nd = v.nd
  U : v'.U = v.U
  now : v'.now = v.now
  lo : v.T.length ≤ v'.T.length
  hi : v'.T.length ≤ v.T.length + 2
  es : ∀ N : Nat, v.way.length ≤ N → (∀ m ∈ v.T, m.es.length ≤ N) → (∀ m ∈ v'.T, m.es.length ≤ N) → True
theorem AskP.sm {c : IdC} {v v' : IdV} {a : Bool} (p : AskP c v a v') : SmV v v' := by
  rcases p with ⟨a1, ⟨a2, q, m, a3, rfl⟩ | ⟨a2, a3, rfl⟩⟩ | ⟨a1, q, qw, w, m, v1, a0, a2, a3, rfl, q2, m2, ⟨b1, b2, rfl⟩ | ⟨b1, b2, rfl⟩⟩
  · exact ⟨rfl, rfl, rfl, rfl, by simp, by simp, fun _ _ _ _ => trivial⟩
  · exact ⟨rfl, rfl, rfl, rfl, Nat.le_refl _, by simp, fun _ _ _ _ => trivial⟩
  · exact ⟨rfl, rfl, rfl, rfl, by simp <;> omega, by simp, fun _ _ _ _ => trivial⟩
  · exact ⟨rfl, rfl, rfl, rfl, by simp <;> omega, by simp, fun _ _ _ _ => trivial⟩
theorem AskP.jg {c : IdC} {v v' : IdV} {a : Bool} (p : AskP c v a v') (hd : v.don = false) (h1 : 1 ≤ v.T.length) (h2 : v.has = false → a = true → lastK v.T = some 6 ∧ 2 ≤ v.T.length) : JG c v' := by
  rcases p with ⟨a1, ⟨a2, q, m, a3, rfl⟩ | ⟨a2, a3, rfl⟩⟩ | ⟨a1, q, qw, w, m, v1, a0, a2, a3, rfl, q2, m2, ⟨b1, b2, rfl⟩ | ⟨b1, b2, rfl⟩⟩
  · refine ⟨by simp <;> omega, fun k => ?_, (fun _ k => by cases k), fun _ _ => ⟨a1, by rw [lastK_snoc, a3]⟩⟩
    have k : v.don = true := k
    rw [hd] at k
    cases k
  · obtain ⟨x1, x2⟩ := h2 a2 a3
    refine ⟨x2, fun k => ?_, (fun _ k => by cases k), fun _ _ => ⟨a1, x1⟩⟩
    have k : v.don = true := k
    rw [hd] at k
    cases k
  · exact ⟨by simp <;> omega, fun _ => ⟨b1, by rw [lastK_snoc, b2]⟩, (fun k => by cases k), (fun k => by cases k)⟩
  · refine ⟨by simp <;> omega, fun k => ?_, fun _ _ => ⟨a2, b1, by rw [lastK_snoc, b2]⟩, (fun _ k => by cases k)⟩
    have k : v.don = true := k
    rw [hd] at k
    cases k
theorem ChgP.jg {c : IdC} {v v1 v' : IdV} {shut : List Int} {m : Nat} (J : JG c v) {U : List Int} {now : Int} (e1 : v1 = { v with U := U, now := now }) (p : ChgP c v1 shut m v')
    (hw : ∀ w, Wlk c.g v.nd (maskV v.U) v.ar w → metB w shut = false → Wlk c.g v.nd (maskV U) v.ar w) (hr : m = 0 → Rch (rdOf c.g v.nd (maskV U)) v.ar → Rch (rdOf c.g v.nd (maskV v.U)) v.ar) : JG c v' ∧ SmV v1 v' := by
  have h2 := J.two
  rcases p with ⟨a, b⟩ | ⟨a, rfl⟩
  · refine ⟨?_, b.sm⟩
    subst e1
    have hd : v.don = false := by
      have a : askB { v with U := U, now := now } shut m = true := a
      simp only [askB, Bool.and_eq_true, Bool.not_eq_true'] at a
      exact a.1
    exact b.jg hd (by show 1 ≤ v.T.length; omega) fun k _ => ⟨(J.no hd k).2, h2⟩
  · refine ⟨?_, ⟨rfl, rfl, rfl, rfl, Nat.le_refl _, by omega, fun _ _ _ _ => trivial⟩⟩
    subst e1
    have a : (!v.don && (v.has && metB v.way shut || !v.has && decide (0 < m))) = false := a
    refine ⟨J.two, J.don, fun k1 k2 => ?_, fun k1 k2 => ?_⟩
    · have k1 : v.don = false := k1
      have k2 : v.has = true := k2
      rw [k1, k2] at a
      obtain ⟨x1, x2, x3⟩ := J.has k1 k2
      exact ⟨hw _ x1 (by simpa using a), x2, x3⟩
    · have k1 : v.don = false := k1
      have k2 : v.has = false := k2
      rw [k1, k2] at a
      obtain ⟨x1, x2⟩ := J.no k1 k2
      have hm : m = 0 := by
        simp at a
        omega
      exact ⟨fun k => x1 (hr hm k), x2⟩
/-- what is closed, from the numbers till when -/
def Unt (U un : List Int) (n : Int) : Prop := U.length = un.length ∧ ∀ k, k < un.length → U.getD k 0 = if n < un.getD k 0 then un.getD k 0 else 0
theorem Unt.begin (N : Nat) : Unt (List.replicate N 0) (List.replicate N 0) 0 := by
  refine ⟨rfl, fun k hk => ?_⟩
  rw [List.length_replicate] at hk
  have : (List.replicate N (0 : Int)).getD k 0 = 0 := by
    rw [List.getD_eq_getElem?_getD, List.getElem?_replicate, if_pos hk]
    rfl
  rw [this]
  rfl
def mkU (un : List Int) (n : Int) : List Bool := (List.range un.length).map fun k : Nat => decide (n < un.getD k 0)
theorem Unt.mask {U un : List Int} {n : Int} (h : Unt U un n) (hn : 0 ≤ n) : maskV U = mkU un n := by
  rw [maskV, mkU, h.1]
  refine List.map_congr_left fun k hk => ?_
  rw [h.2 k (List.mem_range.1 hk)]
  refine decide_eq_decide.2 ?_
  split <;> omega
theorem Unt.close {U un : List Int} {n m : Int} (h : Unt U un n) (hm : 1 ≤ m) {e : Nat} (he : e < un.length) : Unt (setV U (n + m) [(e : Int)]) (un.set e (n + m)) n := by
  refine ⟨by rw [setV_length, List.length_set]; exact h.1, fun k hk => ?_⟩
  rw [List.length_set] at hk
  rw [setV_get _ _ _ (by rw [h.1]; exact hk), getD_set' hk]
  by_cases q : e = k
  · subst q
    rw [if_pos (List.mem_singleton.2 rfl), if_pos rfl, if_pos (by omega)]
  · rw [if_neg (by rw [List.mem_singleton]; omega), if_neg q]
    exact h.2 k hk
theorem lapse_mem {U : List Int} {now : Int} {k : Nat} (hk : k < U.length) : (k : Int) ∈ lapseV U now ↔ 0 < U.getD k 0 ∧ U.getD k 0 ≤ now := by
  rw [lapseV, pl_mem]
  constructor
  · rintro ⟨j, _, h2, h3⟩
    obtain rfl : k = j := Int.ofNat.inj h3
    simp only [Bool.and_eq_true, decide_eq_true_eq] at h2
    exact h2
  · rintro ⟨h1, h2⟩
    exact ⟨k, hk, by simp only [Bool.and_eq_true, decide_eq_true_eq]; exact ⟨h1, h2⟩, rfl⟩
theorem Unt.tick {U un : List Int} {n : Int} (h : Unt U un n) (hn : 0 ≤ n) : Unt (setV U 0 (lapseV U (n + 1))) un (n + 1) := by
  refine ⟨by rw [setV_length]; exact h.1, fun k hk => ?_⟩
  have hk2 : k < U.length := by rw [h.1]; exact hk
  have e := h.2 k hk
  rw [setV_get _ _ _ hk2]
  by_cases q : (k : Int) ∈ lapseV U (n + 1)
  · rw [if_pos q]
    have := (lapse_mem hk2).1 q
    rw [e] at this
    split at this
    · rw [if_neg (by omega)]
    · omega
  · rw [if_neg q, e]
    have := mt (lapse_mem hk2).2 q
    rw [e] at this
    split
    · rename_i k1
      rw [if_pos k1] at this
      rw [if_pos (by omega)]
    · rw [if_neg (by omega)]
theorem close_jg {c : IdC} {v v' : IdV} (J : JG c v) {e : Nat} {m : Int} (hU : v.U.length = c.g.es.length) (he : e < c.g.es.length) (h0 : 0 ≤ v.now) (hm : 1 ≤ m) (p : ClsP c v e m v') : JG c v' ∧ SmV { v with U := setV v.U (v.now + m) [(e : Int)] } v' := by
  obtain ⟨_, p⟩ := p
  have hsh : ∀ x, shutB (maskV (setV v.U (v.now + m) [(e : Int)])) x = (decide (x = e) || shutB (maskV v.U) x) := fun x => by
    rw [shutB_mask, shutB_mask]
    by_cases hx : x < v.U.length
    · rw [setV_get _ _ _ hx]
      by_cases q : x = e
      · subst q
        rw [if_pos (List.mem_singleton.2 rfl)]
        simp
        omega
      · rw [if_neg (by rw [List.mem_singleton]; omega)]
        simp [q]
    · have q : x ≠ e := by omega
      rw [List.getD_eq_getElem?_getD, List.getElem?_eq_none (by rw [setV_length]; omega), List.getD_eq_getElem?_getD, List.getElem?_eq_none (by omega)]
      simp [q]
  refine ChgP.jg J (now := v.now) rfl p (fun w hw hmet => hw.mono fun x hx hs => ?_) fun _ hr => hr.mono fun x hs => ?_
  · rw [hsh, hs, Bool.or_false]
    refine decide_eq_false fun q => ?_
    subst q
    have : (x : Int) ∈ outV v.U (v.now + m) [(x : Int)] := by
      rw [outV, pl_mem]
      refine ⟨x, by omega, ?_, rfl⟩
      rw [shutB_mask] at hs
      have hs : ¬ 0 < v.U.getD x 0 := of_decide_eq_false hs
      simp only [turnsB, Bool.and_eq_true]
      refine ⟨decide_eq_true (List.mem_singleton.2 rfl), ?_⟩
      rw [show ((x : Int)).toNat = x from rfl, decide_eq_false hs, decide_eq_true (show 0 < v.now + m by omega)]
      rfl
    rw [metB, List.any_eq_false] at hmet
    exact hmet x hx (decide_eq_true this)
  · rw [hsh] at hs
    simp at hs
    exact hs.2
theorem tick_jg {c : IdC} {v v' : IdV} (J : JG c v) (p : TikP c v v') : JG c v' ∧ SmV { v with now := v.now + 1, U := setV v.U 0 (lapseV v.U (v.now + 1)) } v' := by
  obtain ⟨_, p⟩ := p
  have hsh : ∀ x, shutB (maskV v.U) x = false → shutB (maskV (setV v.U 0 (lapseV v.U (v.now + 1)))) x = false := fun x hs => by
    rw [shutB_mask] at hs ⊢
    have hs := of_decide_eq_false hs
    refine decide_eq_false ?_
    by_cases hx : x < v.U.length
    · rw [setV_get _ _ _ hx]
      split
      · omega
      · exact hs
    · rw [List.getD_eq_getElem?_getD, List.getElem?_eq_none (by rw [setV_length]; omega)]
      decide
  refine ChgP.jg J (U := setV v.U 0 (lapseV v.U (v.now + 1))) (now := v.now + 1) rfl p (fun w hw _ => hw.mono fun x _ hs => hsh x hs) fun hm hr => ?_
  have e0 : lapseV v.U (v.now + 1) = [] := List.eq_nil_of_length_eq_zero hm
  rw [e0] at hr
  refine hr.mono fun x hs => ?_
  rw [shutB_mask] at hs ⊢
  have hs := of_decide_eq_false hs
  refine decide_eq_false fun k => hs ?_
  by_cases hx : x < v.U.length
  · rw [setV_get _ _ _ hx, if_neg (by simp)]
    exact k
  · rw [List.getD_eq_getElem?_getD, List.getElem?_eq_none (by omega)] at k
    exact absurd k (by decide)
/-- what is told last holds now -/
theorem JG.far {c : IdC} {v : IdV} (J : JG c v) (ha : v.ar < c.g.es.length) {z : Int} (h1 : 0 ≤ z ↔ Rch (rdOf c.g v.nd (maskV v.U)) v.ar) (h2 : z = 0 ↔ toK c.g v.ar = v.nd) : ∃ k, lastK v.T = some k ∧ (k = 6 ↔ z < 0) ∧ (k = 8 ↔ z = 0) := by
  by_cases hd : v.don = true
  · obtain ⟨a, b⟩ := J.don hd
    have := h2.2 a
    exact ⟨8, b, by omega, by omega⟩
  · have hd : v.don = false := by simpa using hd
    by_cases hh : v.has = true
    · obtain ⟨a, b, e⟩ := J.has hd hh
      have h3 := h1.2 a.rch
      have h4 := mt h2.1 b
      exact ⟨7, e, by omega, by omega⟩
    · have hh : v.has = false := by simpa using hh
      obtain ⟨a, e⟩ := J.no hd hh
      have h3 := mt h1.1 a
      exact ⟨6, e, by omega, by omega⟩
end Go.Proofs.YteapijoibimfnaaGreat
/-! What the document fixes of a server without a wire. -/
namespace Go.Proofs.YteapijoibimfnaaGreat
open Go Go.Ab
theorem told10r {h : H} {c : IdC} {v : IdV} (s : Idl h c v) (hl : v.T.length ≤ 90000) : ACalls Tryz.prog 10 [.ptr (some (c.I, 0)), i64 c.w.1, i64 c.w.2] h (TldR v.T h) := (told10 s hl).mono fun r h' ⟨q, T', a, b, e, _, f, m⟩ => ⟨q, T', a, b, e.weak, f, m⟩
theorem told10e {h : H} {p : Option (Nat × Nat)} {d k : Int} (ht : ACalls Tryz.prog 10 [.ptr p, i64 d, i64 k] h (fun r h' => r = .sl none 0 ∧ Ab.Mod none_ h h')) : ACalls Tryz.prog 10 [.ptr p, i64 d, i64 k] h (TldR [] h) := ht.mono fun r h' ⟨a, m⟩ => ⟨none, [], a, rfl, SlIs.nil _ _ _, (fun m hm => by cases hm), m⟩
theorem fits_e {h : H} {p : Option (Nat × Nat)} {d k : Int} (ht : ACalls Tryz.prog 10 [.ptr p, i64 d, i64 k] h (fun r h' => r = .sl none 0 ∧ Ab.Mod none_ h h')) : ACalls Tryz.prog 13 [.ptr p, i64 d, i64 k, .sl none 0] h (fun r h' => r = .bool true ∧ Ab.Mod none_ h h') := (fits13 (told10e ht) (by decide) (qg := none) (G := []) (SlIs.nil _ _ _) (fun m hm => by cases hm)).mono fun r h' ⟨⟨b, a, e⟩, m⟩ => ⟨by rw [a, e.2 ⟨[], rfl, Nat.le_refl _, fun i hi => absurd hi (Nat.not_lt_zero i)⟩], m⟩
theorem told_n {h : H} {d k : Int} : ACalls Tryz.prog 10 [.ptr none, i64 d, i64 k] h (fun r h' => r = .sl none 0 ∧ Ab.Mod none_ h h') := (told10n h d k).mono fun r h' ⟨a, b⟩ => ⟨b, by rw [a]; exact Mod.refl _ _⟩
set_option maxHeartbeats 4000000 in
theorem awake4 (h : H) : ACalls Tryz.prog 4 [] h (fun r _ => r = .bool true) := by
  refine call_ Tryz.func4 rfl rfl (by kernel_rfl) ?_
  conv => whnf
  obtain ⟨m0, g0⟩ := pre_row (Mod.refl none_ h) (.row true 1 [i64 3, i64 3, i64 5])
  refine (beds5 (l := [3, 3, 5]) (l2 := []) (SlIs.row (n := 3) g0 rfl).weak (by decide) (SlIs.nil _ _ _) (by decide)).mono ?_
  rintro _ h1 ⟨g, a1, a2, a3, a4, a5, a6, rfl, ok, hm, hpos, m1⟩
  conv => whnf
  refine ⟨_, rfl, ?_⟩
  conv => whnf
  refine ⟨_, rfl, ?_⟩
  conv => whnf
  obtain ⟨m2, g2⟩ := pre_row m1 (.row true 3 gra0.cells)
  obtain ⟨m3, g3⟩ := pre_row m2 (.row true 6 [i64 0, i64 0, i64 0, i64 0, i64 0, i64 0])
  have g2' := m3.get g2 (.inl fun k => k)
  refine ⟨_, _, g2', Nat.le_of_ble_eq_true rfl, ?_⟩
  conv => whnf
  have ms4 := Mod.set (S := one h1.next) (ob := .row true 3 g.cells) rfl g2' rfl
  have m4 := new_set (cs' := g.cells) (mod_none m2 m3) (Nat.le_refl _) g2'
  have g4 := H.obj_set_same g2' (ob' := .row true 3 g.cells)
  have g5 := ms4.get g3 (.inl fun k => by
    have k : h1.next + 1 = h1.next := k
    omega)
  refine ⟨_, _, g5, Nat.le_of_ble_eq_true rfl, ?_⟩
  conv => whnf
  have ms6 := Mod.set (S := one (h1.next + 1)) (ob := .row true 6 [i64 a1, i64 a2, i64 a3, i64 a4, i64 a5, i64 a6]) rfl g5 rfl
  have m6 := new_set (cs' := [i64 a1, i64 a2, i64 a3, i64 a4, i64 a5, i64 a6]) m4 (Nat.le_succ _) g5
  have g6 := ms6.get g4 (.inl fun k => by
    have k : h1.next = h1.next + 1 := k
    omega)
  have ok6 := ok.old m6 (fun _ _ k => k)
  refine ⟨_, Cells.mk g6 (Nat.le_of_ble_eq_true rfl) rfl, ?_⟩
  conv => whnf
  refine (new6 g ok6).mono ?_
  rintro _ h7 ⟨m7, ⟨hno, _⟩ | ⟨_, c, hcg, hcB, rfl, sp⟩⟩
  · rw [hm] at hno
    cases hno
  subst hcg
  have g7 := m7.get g6 (.inl fun k => k)
  have ok7 := ok6.old m7 (fun _ _ k => k)
  conv => whnf
  refine ⟨_, rfl, ?_⟩
  conv => whnf
  refine ⟨_, rfl, ?_⟩
  conv => whnf
  refine (new6 gra0 ⟨SlIs.nil _ _ _, SlIs.nil _ _ _, SlIs.nil _ _ _, by decide, by decide, by decide⟩).mono ?_
  rintro _ h8 ⟨m8, ⟨_, rfl⟩ | ⟨hno, _⟩⟩
  rotate_left
  · exact absurd hno (by decide)
  have g8 := m8.get g7 (.inl fun k => k)
  have ok8 := ok7.old m8 (fun _ _ k => k)
  have sp8 := sp.old m8
  conv => whnf
  refine ⟨_, rfl, ?_⟩
  conv => whnf
  refine ⟨_, rfl, ?_⟩
  conv => whnf
  refine ⟨_, Cell.mk g8 rfl, ?_⟩
  conv => whnf
  obtain ⟨i1, c1, e1, k1, k2⟩ := sls_get eC_len ok8.e rfl hpos
  refine ⟨i1, c1, 0, e1, rfl, hpos, ?_⟩
  conv => whnf
  refine ⟨_, k2 1 (i64 c.g.es[0].2.1) rfl, ?_⟩
  conv => whnf
  have hto : c.g.es[0].2.1 = (toK c.g 0 : Int) := by
    have := mayG_edge hm hpos
    rw [toK, es_get c.g hpos]
    omega
  have htl : toK c.g 0 < c.g.ns.length := by
    have := mayG_edge hm hpos
    omega
  rw [hto]
  have hw12 : pwf .i64 ((1 : Int), (2 : Int)) := ⟨rfl, rfl⟩
  refine (heard8 sp8 (by rw [List.length_replicate]) hw12 (a := 0) hpos htl).mono ?_
  rintro _ h9 ⟨xt, q, m4', v', hk4, hp, hmo, s9, st9⟩
  conv => whnf
  rcases hp with ⟨hno, _⟩ | ⟨_, q1, qw, w, m5', v1, hk5, _, _, rfl, q2, m8', ⟨b1, hk8, rfl⟩ | ⟨b1, _, _⟩⟩
  · exact absurd (Rch.base hpos (beq_iff_eq.2 rfl)) hno
  rotate_left
  · exact absurd rfl b1
  refine (told10r s9 (by show 3 ≤ 90000; omega)).mono ?_
  rintro _ h10 ⟨q10, T', rfl, hT, st, ho, m10⟩
  have hT2 : T'.map noEp = [noEp m4', noEp m5', noEp m8'] := hT
  obtain ⟨x0, x1, x2, rfl, hx0, hx1, hx2⟩ : ∃ x0 x1 x2, T' = [x0, x1, x2] ∧ x0.k = 4 ∧ x1.k = 5 ∧ x2.k = 8 := by
    rcases T' with _ | ⟨x0, _ | ⟨x1, _ | ⟨x2, _ | ⟨x3, T'⟩⟩⟩⟩
    · cases hT2
    · exact absurd (congrArg List.length hT2) (by simp)
    · exact absurd (congrArg List.length hT2) (by simp)
    · have hT3 : [noEp x0, noEp x1, noEp x2] = [noEp m4', noEp m5', noEp m8'] := hT2
      injection hT3 with f0 hT3
      injection hT3 with f1 hT3
      injection hT3 with f2 hT3
      exact ⟨x0, x1, x2, rfl, (congrArg Msg.k f0).trans hk4, (congrArg Msg.k f1).trans hk5, (congrArg Msg.k f2).trans hk8⟩
    · exact absurd (congrArg List.length hT2) (by simp)
  have s10 := s9.old m10
  conv => whnf
  obtain ⟨i0, c0, e0, -, f0⟩ := sls_get mC_len st rfl (show 0 < [x0, x1, x2].length from Nat.le_of_ble_eq_true rfl)
  refine ⟨i0, c0, 0, e0, rfl, Nat.le_of_ble_eq_true rfl, ?_⟩
  conv => whnf
  refine ⟨_, f0 0 (i64 x0.k) rfl, ?_⟩
  conv => whnf
  rw [hx0]
  conv => whnf
  obtain ⟨i2, c2, e2, -, f2⟩ := sls_get mC_len st rfl (show 2 < [x0, x1, x2].length from Nat.le_of_ble_eq_true rfl)
  refine ⟨i2, c2, 2, e2, rfl, Nat.le_of_ble_eq_true rfl, ?_⟩
  conv => whnf
  refine ⟨_, f2 0 (i64 x2.k) rfl, ?_⟩
  conv => whnf
  rw [hx2]
  conv => whnf
  refine ⟨⟨_, st⟩, ?_⟩
  conv => whnf
  refine ⟨2, rfl, Nat.zero_le _, Nat.le_of_ble_eq_true rfl, ?_⟩
  conv => whnf
  have st2 : SlIs h10 (slp q10 (0 * 9)) [x0, x1].length false 9 ([x0, x1].flatMap mC) := by
    have := SlIs.cut st (l := 0) (m := 2) (Nat.zero_le _) (Nat.le_of_ble_eq_true rfl)
    exact this
  have hg2 : ∀ m ∈ [x0, x1], mOk h10 m ∧ m.es.length ≤ 1000000 := fun m hm => by
    have := ho m (by
      rcases List.mem_cons.1 hm with rfl | hm
      · exact List.mem_cons_self
      · exact List.mem_cons_of_mem _ (List.mem_cons.2 (.inl (List.mem_singleton.1 hm))))
    exact ⟨this, by have := this.2; omega⟩
  refine (fits13 (told10r s10 (by show 3 ≤ 90000; omega)) (by show 3 ≤ 90000; omega) st2 hg2).mono ?_
  rintro _ h11 ⟨⟨b, rfl, hb⟩, m11⟩
  have hb : b = true := hb.2 ⟨[x0, x1, x2], hT, Nat.le_of_ble_eq_true rfl, fun i hi hb => by
    rcases i with _ | _ | i
    · exact sameM_eq rfl
    · exact sameM_eq rfl
    · exact absurd hi (by simp)⟩
  subst hb
  have s11 := s10.old m11
  conv => whnf
  obtain ⟨i3, c3, e3, k3, -⟩ := sls_get mC_len (SlIs.old st m11 (fun _ _ k => k)) rfl (show 1 < [x0, x1, x2].length from Nat.le_of_ble_eq_true rfl)
  refine ⟨i3, c3, 1, e3, rfl, Nat.le_of_ble_eq_true rfl, ?_⟩
  conv => whnf
  refine ⟨_, k3, ?_⟩
  conv => whnf
  obtain ⟨m12, g12⟩ := pre_row m11 (.row true 9 (mC x1))
  have s12 := s11.old m12
  refine (fits13 (told10r s12 (by show 3 ≤ 90000; omega)) (by show 3 ≤ 90000; omega) (qg := some (h11.next, 0)) (G := [x1]) (SlIs.row (n := 1) g12 rfl).weak (fun m hm => ?_)).mono ?_
  · obtain rfl := List.mem_singleton.1 hm
    have := hg2 m (List.mem_cons_of_mem _ (List.mem_singleton.2 rfl))
    exact ⟨this.1.get (mod_none m11 m12), this.2⟩
  rintro _ h13 ⟨⟨b, rfl, hb⟩, m13⟩
  have hb : b = false := by
    cases b with
    | false => rfl
    | true =>
      obtain ⟨T2, t1, t2, t3⟩ := hb.1 rfl
      have t1 : T2.map noEp = [noEp m4', noEp m5', noEp m8'] := t1
      rcases T2 with _ | ⟨y0, T2⟩
      · cases t1
      · injection t1 with f0 _
        have hy : y0.k = 4 := (congrArg Msg.k f0).trans hk4
        have := t3 0 (by simp) (by simp)
        have : sameM x1 y0 = true := this
        rw [sameM_k (by rw [hx1, hy]; decide)] at this
        cases this
  subst hb
  have s13 := s12.old m13
  conv => whnf
  refine (told10o s13 (d := 1) (k := 3) ⟨rfl, rfl⟩ (by intro e; injection e with e1 e2; cases e2)).mono ?_
  rintro _ h14 ⟨rfl, m14⟩
  have s14 := s13.old m14
  conv => whnf
  refine (fits_e (told10o s14 (d := 9) (k := 9) ⟨rfl, rfl⟩ (by intro e; injection e with e1 e2; cases e2))).mono ?_
  rintro _ h15 ⟨rfl, m15⟩
  conv => whnf
  refine (fits_e told_n).mono ?_
  rintro _ h16 ⟨rfl, m16⟩
  conv => whnf
  refine told_n.mono ?_
  rintro _ h17 ⟨rfl, m17⟩
  conv => whnf
  rfl
end Go.Proofs.YteapijoibimfnaaGreat
/-! The law IdealShuts: the walk. -/
namespace Go.Proofs.YteapijoibimfnaaGreat
open Go Go.Ab
theorem own_putB {h : H} {p : Option (Nat × Nat)} {n : Nat} {xs : List Bool} (w : SlIs h p n true 1 (bools xs)) {j : Nat} (hj : j < n) (v : Bool) : ∃ i c sz cs, p = some (i, c) ∧ h.obj i = some (.row true sz cs) ∧ c + j * 1 + 1 ≤ cs.length ∧ SlIs (h.set i (.row true sz (splice cs (c + j * 1) [V.bool v]))) p n true 1 (bools (xs.set j v)) := by
  obtain ⟨hl, hr⟩ := w
  rcases hr with ⟨rfl, _⟩ | ⟨i, c, o', r, rfl, e2, e3, e4, e5⟩
  · omega
  · obtain rfl := e3 rfl
    have hlen : (bools xs).length = n * 1 := hl
    refine ⟨i, c, 1, r, rfl, e2, by omega, ⟨by rw [bools_length, List.length_set, ← bools_length, hlen], .inr ⟨i, c, true, _, rfl, H.obj_set_same e2, fun e => e, ?_, ?_⟩⟩⟩
    · rw [splice_one, List.length_set]
      exact e4
    · rw [splice_one, Nat.mul_one, Nat.mul_one, List.drop_set, if_neg (by omega), List.take_set]
      rw [Nat.mul_one] at e5
      rw [e5, show c + j - c = j by omega]
      simp [bools, List.map_set]
theorem stp_none {h6 hh h' : H} {ps ps' : Nat → Part} (mm : Ab.Mod none_ h6 hh) (hlo : ∀ n i, (ps n).F i → h6.next ≤ i) (st : StpP hh ps h' ps') : Ab.Mod none_ h6 h' :=
  mm.trans' st.1 (fun _ _ k => k) fun i hi ⟨n, k⟩ => absurd (hlo n i k) (by omega)
def MkI (un : List Int) (n : Int) (j : Nat) (l : List Bool) : Prop := l.length = un.length ∧ ∀ i, i < j → l.getD i false = decide (n < un.getD i 0)
theorem mkI_all {un : List Int} {n : Int} {l : List Bool} (h : MkI un n un.length l) : l = mkU un n := by
  refine List.ext_getElem? fun i => ?_
  by_cases hi : i < un.length
  · have := h.2 i hi
    rw [List.getD_eq_getElem?_getD] at this
    rw [List.getElem?_eq_getElem (by rw [h.1]; exact hi)] at this ⊢
    rw [mkU, List.getElem?_map, List.getElem?_range hi]
    exact congrArg some this
  · rw [List.getElem?_eq_none (by rw [h.1]; omega), List.getElem?_eq_none (by rw [mkU, List.length_map, List.length_range]; omega)]
theorem refFar11n {h : H} {g : Gra} (ok : g.ok h) (hm : mayG g = true) {a k n : Nat} (ha : a < g.es.length) (hk : k < g.ns.length) {qc : Option (Nat × Nat)} {c : List Bool} (hn : n = c.length) (sc : SlIs h qc n false 1 (bools c)) :
    ACalls Tryz.prog 11 [.agg g.cells, i64 a, i64 k, .sl qc n] h (FarR g a k c h) := by
  subst hn
  exact refFar11 ok hm ha hk sc
theorem lastK_noEp {T T' : List Msg} (h : T'.map noEp = T.map noEp) : lastK T' = lastK T := by
  have e : ∀ X : List Msg, lastK X = ((X.map noEp).getLast?).map fun m => m.k := fun X => by
    rw [lastK, List.getLast?_map, Option.map_map]
    rfl
  rw [e, e, h]
theorem lastK_get {T : List Msg} (h : T.length - 1 < T.length) : lastK T = some T[T.length - 1].k := by
  rw [lastK, List.getLast?_eq_getElem?, List.getElem?_eq_getElem h]
  rfl
def LpI (h6 : H) (c : IdC) (a nd gb : Nat) (qs qu : Option (Nat × Nat)) (m : Nat) (env : Env) (hh : H) : Prop := ∃ (n : Nat) (z : Int) (v : IdV) (un : List Int), n ≤ 40 ∧ z = n ∧ Idl hh c v ∧ JG c v ∧ v.ar = a ∧ v.nd = nd ∧ v.now = n ∧ v.mo = .map true (mpP .i64 (itB c)) ∧ Unt v.U un n ∧ un.length = c.g.es.length ∧ v.T.length ≤ 10 + 10 * n ∧
  SlIs hh qu c.g.es.length true 1 (ints .i64 un) ∧ (∀ k i, inSl qu i → ¬ (idP c v k).F i) ∧ Ab.Mod none_ h6 hh ∧ hh.obj gb = some (.row true 3 c.g.cells) ∧
  env = [(16, i64 z), (15, .sl qu c.g.es.length), (14, i64 nd), (13, i64 a), (11, .ptr (some (c.I, 0))), (9, .ptr (some (gb, 0))), (3, .sl qs m)]
def MlI (un : List Int) (n N : Nat) (a nd gb I : Nat) (qs qu qm : Option (Nat × Nat)) (m : Nat) (last : Int) (h0 : H) (env : Env) (hh : H) : Prop := ∃ (j : Nat) (z : Int) (l : List Bool), j ≤ N ∧ z = j ∧ MkI un n j l ∧ SlIs hh qm N true 1 (bools l) ∧ Ab.Mod none_ h0 hh ∧
  env = [(22, i64 z), (21, .sl qm N), (20, i64 last), (16, i64 n), (15, .sl qu N), (14, i64 nd), (13, i64 a), (11, .ptr (some (I, 0))), (9, .ptr (some (gb, 0))), (3, .sl qs m)]
set_option maxHeartbeats 4000000 in
theorem ideal3 {h : H} {p q : Option (Nat × Nat)} {l : List Int} {S : List (Int × Int)} (sl : RoSl h p l.length 1 (ints .i64 l)) (ss : RoSl h q S.length 2 (S.flatMap pC)) (at_ node : Int) : ACalls Tryz.prog 3 [.sl p l.length, i64 at_, i64 node, .sl q S.length] h (fun r _ => r = .bool true) := by
  refine call_ Tryz.func3 rfl rfl (by kernel_rfl) ?_
  conv => whnf
  refine br_mk (fun hx => ?_) (fun hx => ?_)
  · conv => whnf
    refine (awake4 h).mono ?_
    rintro _ h1 rfl
    conv => whnf
  have hll : l.length ≤ 100 := by
    simp at hx
    omega
  conv => whnf
  refine br_mk (fun hx => ?_) (fun hx => ?_)
  · conv => whnf
    refine (awake4 h).mono ?_
    rintro _ h1 rfl
    conv => whnf
  have hsl : S.length ≤ 15 := by
    simp at hx
    omega
  conv => whnf
  refine (beds5 (l2 := []) sl.is (by omega) (SlIs.nil _ _ _) (by decide)).mono ?_
  rintro _ h1 ⟨g, a1, a2, a3, a4, a5, a6, rfl, ok, hm, hpos, m1⟩
  conv => whnf
  refine ⟨_, rfl, ?_⟩
  conv => whnf
  refine ⟨_, rfl, ?_⟩
  conv => whnf
  obtain ⟨m2, g2⟩ := pre_row m1 (.row true 3 gra0.cells)
  obtain ⟨m3, g3⟩ := pre_row m2 (.row true 6 [i64 0, i64 0, i64 0, i64 0, i64 0, i64 0])
  have g2' := m3.get g2 (.inl fun k => k)
  refine ⟨_, _, g2', Nat.le_of_ble_eq_true rfl, ?_⟩
  conv => whnf
  have ms4 := Mod.set (S := one h1.next) (ob := .row true 3 g.cells) rfl g2' rfl
  have m4 := new_set (cs' := g.cells) (mod_none m2 m3) (Nat.le_refl _) g2'
  have g4 := H.obj_set_same g2' (ob' := .row true 3 g.cells)
  have g5 := ms4.get g3 (.inl fun k => by
    have k : h1.next + 1 = h1.next := k
    omega)
  refine ⟨_, _, g5, Nat.le_of_ble_eq_true rfl, ?_⟩
  conv => whnf
  have ms6 := Mod.set (S := one (h1.next + 1)) (ob := .row true 6 [i64 a1, i64 a2, i64 a3, i64 a4, i64 a5, i64 a6]) rfl g5 rfl
  have m6 := new_set (cs' := [i64 a1, i64 a2, i64 a3, i64 a4, i64 a5, i64 a6]) m4 (Nat.le_succ _) g5
  have g6 := ms6.get g4 (.inl fun k => by
    have k : h1.next = h1.next + 1 := k
    omega)
  have ok6 := ok.old m6 (fun _ _ k => k)
  have ss6 := ss.get (mod_none m1 m6)
  refine ⟨_, Cells.mk g6 (Nat.le_of_ble_eq_true rfl) rfl, ?_⟩
  conv => whnf
  refine (new6 g ok6).mono ?_
  rintro _ h7 ⟨m7, ⟨hno, _⟩ | ⟨_, c, hcg, hcB, rfl, sp⟩⟩
  · rw [hm] at hno
    cases hno
  subst hcg
  have hz := mayG_size hm
  have g7 := m7.get g6 (.inl fun k => k)
  conv => whnf
  refine ⟨_, rfl, ?_⟩
  conv => whnf
  refine ⟨_, rfl, ?_⟩
  conv => whnf
  refine ⟨[0, 1, 2, 3, 5, 6, 7, 8, 4, 9, 10, 11], [0, 0, 2, 6, 15, 0, 0, 64, 192, 511, 1023, 2047], by kernel_rfl, ?_⟩
  conv => whnf
  refine ⟨_, Cell.mk g7 rfl, ?_⟩
  conv => whnf
  refine ⟨_, Cell.mk g7 rfl, ?_⟩
  conv => whnf
  obtain ⟨a, ha⟩ : ∃ a : Nat, at_ % (c.g.es.length : Int) = a := Int.eq_ofNat_of_zero_le (Int.emod_nonneg _ (by omega))
  obtain ⟨nd, hnd⟩ : ∃ a : Nat, node % (c.g.ns.length : Int) = a := Int.eq_ofNat_of_zero_le (Int.emod_nonneg _ (by omega))
  have hal : a < c.g.es.length := by
    have := Int.emod_lt_of_pos at_ (show (0 : Int) < c.g.es.length by omega)
    omega
  have hnl : nd < c.g.ns.length := by
    have := Int.emod_lt_of_pos node (show (0 : Int) < c.g.ns.length by omega)
    omega
  have ra := round7 (m := (c.g.es.length : Int)) (by omega) (by omega) at_ h7
  rw [ha] at ra
  have rb := round7 (m := (c.g.ns.length : Int)) (by omega) (by omega) node h7
  rw [hnd] at rb
  refine ra.mono ?_
  rintro _ h8 ⟨eh, rfl⟩
  subst h8
  conv => whnf
  refine ⟨⟨_, Cell.mk g7 rfl, rfl⟩, ?_⟩
  conv => whnf
  refine rb.mono ?_
  rintro _ h8 ⟨eh, rfl⟩
  subst h8
  conv => whnf
  refine (heard8 sp (by rw [List.length_replicate]) (d := 0) (k := 1) ⟨rfl, rfl⟩ hal hnl).mono ?_
  rintro _ h9 ⟨xt, q9, m4', v9, hk4, hp, hmo, s9, st9⟩
  have J9 := hp.jg rfl (Nat.le_refl 1) (fun _ k => by cases k)
  have sm9 := hp.sm
  have hgb : h1.next < c.B := Nat.lt_of_lt_of_le (Nat.lt_succ_self _) (Nat.le_trans m3.next hcB)
  have hlo9 : ∀ n i, (idN c (List.replicate c.g.es.length 0) n).F i → h1.next ≤ i := fun n i k => Nat.le_trans (Nat.le_of_lt hgb) (sp.lo n i k)
  have mm9 := stp_none (mod_none m6 m7) hlo9 st9
  have g9 := st9.get g7 fun n k => by
    have := sp.lo n _ k
    omega
  conv => whnf
  refine ⟨_, Cell.mk g9 rfl, ?_⟩
  conv => whnf
  refine ⟨c.g.es.length, rfl, rfl, by omega, by rw [show (T.at_ 3).bytes = 8 from rfl]; omega, ?_⟩
  conv => whnf
  obtain ⟨m10, g10⟩ := pre_row mm9 (.row true 1 (zerosV c.g.es.length [V.int .i64 0]))
  obtain ⟨qu, hqu⟩ : ∃ q, q = some (h9.next, 0) := ⟨_, rfl⟩
  have su : SlIs (h9.push (.row true 1 (zerosV c.g.es.length [V.int .i64 0]))) qu c.g.es.length true 1 (ints .i64 (List.replicate c.g.es.length 0)) := by
    rw [hqu, ← zeros_ints]
    exact SlIs.row g10 (by rw [zeros_ints, ints_length, List.length_replicate, Nat.mul_one])
  have hqs : ∀ k i, inSl qu i → ¬ (idP { c with xt := xt, w := ((0 : Int), (1 : Int)) } v9 k).F i := fun k i ⟨o, e⟩ => by
    rw [hqu] at e
    injection e with e
    injection e with e1 e2
    rw [← e1]
    exact s9.sp.fresh (Nat.le_refl _) k
  have hqB : ∀ i, inSl qu i → c.B ≤ i := fun i ⟨o, e⟩ => by
    rw [hqu] at e
    injection e with e
    injection e with e1 e2
    rw [← e1]
    exact s9.sp.hB
  refine ⟨LpI h1 { c with xt := xt, w := ((0 : Int), (1 : Int)) } a nd h1.next q qu S.length, fun env _ => TnMu 16 40 env, ⟨_, Forget.cons rfl (Forget.cons rfl (Forget.cons rfl (Forget.cons rfl (Forget.cons rfl (Forget.cons rfl (Forget.cons rfl (Forget.nil _))))))), 0, 0, v9, List.replicate c.g.es.length 0, by omega, rfl, s9.old m10, J9, sm9.ar, sm9.nd, sm9.now, hmo, by rw [sm9.U]; exact Unt.begin _, List.length_replicate, by have := sm9.hi; exact Nat.le_trans this (by show 1 + 2 ≤ 10 + 10 * 0; omega), su, hqs, mod_none mm9 m10, m10.get g9 (.inl fun k => k), by rw [hqu]; rfl⟩, ?_⟩
  clear su hqs hqu g10 m10 g9 mm9 hlo9 sm9 J9 st9 s9 hmo hp g7 m7 sp g6 ms6 g5 g4 ms4 g2' g3 g2 m2 m3 m4 ss6 ok6 m6 hcB ra rb
  rintro _ hh ⟨n, z, v, un, hn, rfl, s, J, har, hvd, hnow, hmo, hU, hul, hTl, su, hqs, mm, gb, rfl⟩
  have oks := ok.old mm (fun _ _ k => k)
  have sss := ss.get (mod_none m1 mm)
  have hlo : ∀ k i, (idP { c with xt := xt, w := ((0 : Int), (1 : Int)) } v k).F i → h1.next ≤ i := fun k i f => Nat.le_trans (Nat.le_of_lt hgb) (s.sp.lo k i f)
  have hnoF : ∀ k, ¬ (idP { c with xt := xt, w := ((0 : Int), (1 : Int)) } v k).F h1.next := fun k f => by
    have := s.sp.lo k _ f
    have hgb : h1.next < ({ c with xt := xt, w := ((0 : Int), (1 : Int)) } : IdC).B := hgb
    omega
  conv => whnf
  refine br_mk (fun hd => ?_) (fun hd => ?_)
  · conv => whnf
    simp at hd
    refine br_mk (fun hc => ?_) (fun hc => ?_)
    · conv => whnf
      simp at hc
      refine ⟨[0, 1, 2, 3, 4, 5, 6, 7, 9, 10, 11, 12, 13, 8, 14, 15, 16, 17], [0, 0, 3, 7, 15, 0, 32, 96, 255, 0, 0, 1536, 3584, 7680, 16383, 32767, 32767, 131071], by kernel_rfl, ?_⟩
      conv => whnf
      obtain ⟨i1, c1, e1, k1, k2⟩ := sls_get pC_len sss.is rfl hc
      refine ⟨i1, c1, n, e1, rfl, hc, ?_⟩
      conv => whnf
      refine ⟨0, rfl, by omega, ?_⟩
      conv => whnf
      refine ⟨_, k2 0 (i64 S[n].1) rfl, ?_⟩
      conv => whnf
      refine ⟨_, Cell.mk gb rfl, ?_⟩
      conv => whnf
      refine ⟨i1, c1, n, e1, rfl, hc, ?_⟩
      conv => whnf
      refine ⟨1, rfl, by omega, ?_⟩
      conv => whnf
      refine ⟨_, k2 1 (i64 S[n].2) rfl, ?_⟩
      conv => whnf
      have hN0 : (c.g.es.length : Int) ≠ 0 := by omega
      obtain ⟨x, hx⟩ : ∃ a : Nat, S[n].1 % (c.g.es.length : Int) = a := Int.eq_ofNat_of_zero_le (Int.emod_nonneg _ hN0)
      have hxl : x < c.g.es.length := by
        have := Int.emod_lt_of_pos S[n].1 (show (0 : Int) < c.g.es.length by omega)
        omega
      have rx := round7 (m := (c.g.es.length : Int)) (by omega) (by omega) S[n].1 hh
      rw [hx] at rx
      refine rx.mono ?_
      rintro _ h12 ⟨eh, rfl⟩
      subst h12
      conv => whnf
      refine ⟨⟨_, k2 1 (i64 S[n].2) rfl, rfl⟩, ?_⟩
      conv => whnf
      refine (round7 (m := 12) (by omega) (by omega) S[n].2 hh).mono ?_
      rintro _ h12 ⟨eh, rfl⟩
      subst h12
      conv => whnf
      have h12a := Int.emod_nonneg S[n].2 (show (12 : Int) ≠ 0 by omega)
      have h12b := Int.emod_lt_of_pos S[n].2 (show (0 : Int) < 12 by omega)
      obtain ⟨y, hy⟩ : ∃ y : Int, y = 1 + S[n].2 % 12 := ⟨_, rfl⟩
      rw [wrap_i64 (x := 1 + S[n].2 % 12) (by omega) (by omega), ← hy]
      refine (close9 s hmo (by omega) hxl (by omega) (by omega) (by omega) (by omega)).mono ?_
      rintro _ h13 ⟨vB, hcl, sB, stB⟩
      conv => whnf
      rw [wrap_i64 (x := (n : Int) + y) (by omega) (by omega)]
      have su1 := stB.sl su hqs
      obtain ⟨i4, c4, sz4, cs4, f1, f2, f3, su4⟩ := own_put su1 hxl ((n : Int) + y)
      refine ⟨i4, c4, x, f1, rfl, hxl, ?_⟩
      conv => whnf
      refine ⟨_, _, f2, f3, ?_⟩
      conv => whnf
      have hi4 : inSl qu i4 := ⟨c4, f1⟩
      have hB4 := hqB i4 hi4
      have rqs : ∀ k i, inSl qu i → ¬ (idP { c with xt := xt, w := ((0 : Int), (1 : Int)) } vB k).F i := fun k i hi => stB.far (SlIs.own_lt su hi) (fun n => hqs n i hi) k
      have mo5 := Mod.set (S := one i4) (ob := .row true sz4 (splice cs4 (c4 + x * 1) [V.int .i64 ((n : Int) + y)])) rfl f2 rfl
      have rS := sB.loc mo5 (fun k i f z => rqs k i (by rw [show i = i4 from z]; exact hi4) f) fun i hi z => by
        have z : i = i4 := z
        have hi : i < c.B := hi
        omega
      obtain ⟨rJ, smB⟩ := close_jg J s.hU hxl (by omega) (by omega) hcl
      have rar : vB.ar = a := smB.ar.trans har
      have rnd : vB.nd = nd := smB.nd.trans hvd
      have rnow : vB.now = n := smB.now.trans hnow
      have rmo := hcl.1.trans hmo
      have rU : Unt vB.U (un.set x ((n : Int) + y)) n := by
        rw [smB.U]
        show Unt (setV v.U (v.now + y) [(x : Int)]) _ _
        rw [hnow]
        exact hU.close (by omega) (by rw [hul]; exact hxl)
      have rul : (un.set x ((n : Int) + y)).length = c.g.es.length := by rw [List.length_set]; exact hul
      have rT : vB.T.length ≤ 12 + 10 * n := by
        have := smB.hi
        have h2 : vB.T.length ≤ v.T.length + 2 := this
        omega
      have rmm := new_set (cs' := splice cs4 (c4 + x * 1) [V.int .i64 ((n : Int) + y)]) (stp_none mm hlo stB) (by omega) f2
      have rgb := mo5.get (stB.get gb hnoF) (.inl fun z => by
        have z : h1.next = i4 := z
        omega)
      generalize hu : un.set x ((n : Int) + y) = uB at rU rul su4
      refine (told10r rS (by omega)).mono ?_
      rintro _ h14 ⟨qt, T', rfl, hT, st, ho, m14⟩
      have hTl' : T'.length = vB.T.length := by
        have := congrArg List.length hT
        simpa using this
      have two := rJ.two
      conv => whnf
      refine br_mk (fun hx => ?_) (fun hx => ?_)
      · simp at hx
        omega
      conv => whnf
      have hlt : T'.length - 1 < T'.length := by omega
      obtain ⟨i5, c5, e5, -, f5⟩ := sls_get mC_len st rfl hlt
      refine ⟨i5, c5, T'.length - 1, e5, by rw [wrap_i64 (by omega) (by omega)]; omega, hlt, ?_⟩
      conv => whnf
      refine ⟨_, f5 0 (i64 T'[T'.length - 1].k) rfl, ?_⟩
      have hlk : lastK vB.T = some T'[T'.length - 1].k := by rw [← lastK_noEp hT, lastK_get hlt]
      obtain ⟨kk, hkk⟩ : ∃ kk, kk = T'[T'.length - 1].k := ⟨_, rfl⟩
      rw [← hkk] at hlk ⊢
      conv => whnf
      refine ⟨c.g.es.length, rfl, rfl, by omega, by rw [show (T.at_ 4).bytes = 1 from rfl]; omega, ?_⟩
      conv => whnf
      obtain ⟨m15, g15⟩ := pre_row m14 (.row true 1 (zerosV c.g.es.length [V.bool false]))
      obtain ⟨qm, hqm⟩ : ∃ q, q = some (h14.next, 0) := ⟨_, rfl⟩
      have sm : SlIs (h14.push (.row true 1 (zerosV c.g.es.length [V.bool false]))) qm c.g.es.length true 1 (bools (List.replicate c.g.es.length false)) := by
        rw [hqm, ← zeros_bools]
        exact SlIs.row g15 (by rw [zeros_bools, bools_length, List.length_replicate, Nat.mul_one])
      have hqmn : ∀ i c, qm = some (i, c) → h14.next ≤ i := fun i c e => by
        rw [hqm] at e
        injection e with e
        injection e with e1 e2
        omega
      refine ⟨MlI uB n c.g.es.length a nd h1.next c.I q qu qm S.length kk h14, fun env _ => TnMu 22 c.g.es.length env, ⟨_, Forget.cons rfl (Forget.cons rfl (Forget.cons rfl (Forget.cons rfl (Forget.cons rfl (Forget.cons rfl (Forget.cons rfl (Forget.cons rfl (Forget.cons rfl (Forget.cons rfl (Forget.nil _)))))))))), 0, 0, _, Nat.zero_le _, rfl, ⟨by rw [List.length_replicate, rul], fun i hi => absurd hi (Nat.not_lt_zero i)⟩, sm, m15, by rw [hqm]; rfl⟩, ?_⟩
      clear sm hqm g15 m15
      rintro _ h15 ⟨j, z, lm, hj, rfl, hmk, sm, mk, rfl⟩
      have m16 := mod_none m14 mk
      have rS5 := rS.old m16
      have su5 := SlIs.old su4 m16 (fun _ _ k => k)
      conv => whnf
      refine br_mk (fun hj2 => ?_) (fun hj2 => ?_)
      · conv => whnf
        simp at hj2
        obtain ⟨i6, c6, e6, k6⟩ := slo_get su5.weak hj2
        refine ⟨i6, c6, j, e6, rfl, hj2, ?_⟩
        conv => whnf
        refine ⟨_, k6, ?_⟩
        conv => whnf
        obtain ⟨i7, c7, sz7, cs7, f71, f72, f73, sm7⟩ := own_putB sm hj2 (decide ((n : Int) < uB.getD j 0))
        refine ⟨i7, c7, j, f71, rfl, hj2, ?_⟩
        conv => whnf
        refine ⟨_, _, f72, f73, ?_⟩
        conv => whnf
        refine ⟨_, Forget.cons rfl (Forget.cons rfl (Forget.cons rfl (Forget.cons rfl (Forget.cons rfl (Forget.cons rfl (Forget.cons rfl (Forget.cons rfl (Forget.cons rfl (Forget.cons rfl (Forget.nil _)))))))))), ⟨j + 1, _, _, hj2, succ_i64 hj2 (by omega), ⟨by rw [List.length_set]; exact hmk.1, fun i hi => ?_⟩, sm7, new_set mk (hqmn _ _ f71) f72, rfl⟩, mu_lt hj2 (by omega)⟩
        rw [List.getD_eq_getElem?_getD, List.getElem?_set]
        by_cases w : j = i
        · subst w
          rw [if_pos rfl, if_pos (by rw [hmk.1, rul]; exact hj2)]
          rfl
        · rw [if_neg w, ← List.getD_eq_getElem?_getD]
          exact hmk.2 i (by omega)
      conv => whnf
      simp at hj2
      obtain rfl : j = c.g.es.length := by omega
      rw [← rul] at hmk
      have hlm := mkI_all hmk
      have rgb5 := m16.get rgb (.inl fun k => k)
      have rmm5 := mod_none rmm m16
      refine ⟨_, Cells.mk rgb5 (Nat.le_of_ble_eq_true rfl) rfl, ?_⟩
      conv => whnf
      refine (refFar11n (ok.old rmm5 (fun _ _ k => k)) hm hal hnl (by rw [hmk.1, rul]) sm.weak).mono ?_
      rintro _ h17 ⟨zf, rfl, hz1, hz2, m17⟩
      rw [hlm, ← rU.mask (by omega), ← rar, ← rnd] at hz1
      rw [← rar, ← rnd] at hz2
      obtain ⟨k2, hl2, h6, h8⟩ := rJ.far rS.ha hz1 hz2
      have hk2 : k2 = kk := by
        rw [hlk] at hl2
        exact (Option.some.inj hl2).symm
      subst hk2
      have rS6 := rS5.old m17
      conv => whnf
      refine br_mk (fun hx1 => ?_) (fun hx1 => ?_)
      · exfalso
        have e6 : (k2 == 6) = decide (zf < 0) := Bool.eq_iff_iff.2 (by simp [h6])
        rw [e6] at hx1
        simp at hx1
      conv => whnf
      refine br_mk (fun hx2 => ?_) (fun hx2 => ?_)
      · exfalso
        have e8 : (k2 == 8) = (zf == 0) := Bool.eq_iff_iff.2 (by simp [h8])
        rw [e8] at hx2
        simp at hx2
      conv => whnf
      refine (tick12 rS6 rmo (by omega) (by omega) (by omega)).mono ?_
      rintro _ h18 ⟨vT, htk, sT, stT⟩
      conv => whnf
      obtain ⟨JT, smT⟩ := tick_jg rJ htk
      have hloB : ∀ k i, (idP { c with xt := xt, w := ((0 : Int), (1 : Int)) } vB k).F i → h1.next ≤ i := fun k i f => Nat.le_trans (Nat.le_of_lt hgb) (rS.sp.lo k i f)
      have hnoB : ∀ k, ¬ (idP { c with xt := xt, w := ((0 : Int), (1 : Int)) } vB k).F h1.next := fun k f => by
        have := rS.sp.lo k _ f
        have hgb : h1.next < ({ c with xt := xt, w := ((0 : Int), (1 : Int)) } : IdC).B := hgb
        omega
      have su6 := SlIs.old su5 m17 (fun _ _ k => k)
      refine ⟨_, Forget.cons rfl (Forget.cons rfl (Forget.cons rfl (Forget.cons rfl (Forget.cons rfl (Forget.cons rfl (Forget.cons rfl (Forget.nil _))))))), ⟨n + 1, _, vT, uB, by omega, by rw [wrap_i64 (by omega) (by omega)]; omega, sT, JT, smT.ar.trans rar, smT.nd.trans rnd, ?_, htk.1.trans rmo, ?_, rul, ?_, stT.sl su6 rqs, (fun k i hi => stT.far (SlIs.own_lt su6 hi) (fun n => rqs n i hi) k), stp_none (mod_none rmm5 m17) hloB stT, stT.get (m17.get rgb5 (.inl fun k => k)) hnoB, rfl⟩, ?_⟩
      · rw [smT.now]
        show vB.now + 1 = ((n + 1 : Nat) : Int)
        omega
      · rw [smT.U]
        show Unt (setV vB.U 0 (lapseV vB.U (vB.now + 1))) uB ((n + 1 : Nat) : Int)
        rw [rnow, show ((n + 1 : Nat) : Int) = (n : Int) + 1 by omega]
        exact rU.tick (by omega)
      · have := smT.hi
        have h2 : vT.T.length ≤ vB.T.length + 2 := this
        omega
      · show ((40 : Nat) - IntKind.i64.wrap ((n : Int) + 1)).toNat < (((40 : Nat) : Int) - (n : Int)).toNat
        rw [wrap_i64 (by omega) (by omega)]
        omega
    · conv => whnf
      have rS := s
      have rJ := J
      have rar := har
      have rnd := hvd
      have rnow := hnow
      have rmo := hmo
      have rU := hU
      have rul := hul
      have rT : v.T.length ≤ 12 + 10 * n := by omega
      have su4 := su
      have rqs := hqs
      have rmm := mm
      have rgb := gb
      obtain ⟨uB, hu⟩ : ∃ uB, uB = un := ⟨_, rfl⟩
      obtain ⟨vB, hv⟩ : ∃ vB, vB = v := ⟨_, rfl⟩
      rw [← hu] at rU rul su4
      rw [← hv] at rS rJ rar rnd rnow rmo rU rT rqs
      refine (told10r rS (by omega)).mono ?_
      rintro _ h14 ⟨qt, T', rfl, hT, st, ho, m14⟩
      have hTl' : T'.length = vB.T.length := by
        have := congrArg List.length hT
        simpa using this
      have two := rJ.two
      conv => whnf
      refine br_mk (fun hx => ?_) (fun hx => ?_)
      · simp at hx
        omega
      conv => whnf
      have hlt : T'.length - 1 < T'.length := by omega
      obtain ⟨i5, c5, e5, -, f5⟩ := sls_get mC_len st rfl hlt
      refine ⟨i5, c5, T'.length - 1, e5, by rw [wrap_i64 (by omega) (by omega)]; omega, hlt, ?_⟩
      conv => whnf
      refine ⟨_, f5 0 (i64 T'[T'.length - 1].k) rfl, ?_⟩
      have hlk : lastK vB.T = some T'[T'.length - 1].k := by rw [← lastK_noEp hT, lastK_get hlt]
      obtain ⟨kk, hkk⟩ : ∃ kk, kk = T'[T'.length - 1].k := ⟨_, rfl⟩
      rw [← hkk] at hlk ⊢
      conv => whnf
      refine ⟨c.g.es.length, rfl, rfl, by omega, by rw [show (T.at_ 4).bytes = 1 from rfl]; omega, ?_⟩
      conv => whnf
      obtain ⟨m15, g15⟩ := pre_row m14 (.row true 1 (zerosV c.g.es.length [V.bool false]))
      obtain ⟨qm, hqm⟩ : ∃ q, q = some (h14.next, 0) := ⟨_, rfl⟩
      have sm : SlIs (h14.push (.row true 1 (zerosV c.g.es.length [V.bool false]))) qm c.g.es.length true 1 (bools (List.replicate c.g.es.length false)) := by
        rw [hqm, ← zeros_bools]
        exact SlIs.row g15 (by rw [zeros_bools, bools_length, List.length_replicate, Nat.mul_one])
      have hqmn : ∀ i c, qm = some (i, c) → h14.next ≤ i := fun i c e => by
        rw [hqm] at e
        injection e with e
        injection e with e1 e2
        omega
      refine ⟨MlI uB n c.g.es.length a nd h1.next c.I q qu qm S.length kk h14, fun env _ => TnMu 22 c.g.es.length env, ⟨_, Forget.cons rfl (Forget.cons rfl (Forget.cons rfl (Forget.cons rfl (Forget.cons rfl (Forget.cons rfl (Forget.cons rfl (Forget.cons rfl (Forget.cons rfl (Forget.cons rfl (Forget.nil _)))))))))), 0, 0, _, Nat.zero_le _, rfl, ⟨by rw [List.length_replicate, rul], fun i hi => absurd hi (Nat.not_lt_zero i)⟩, sm, m15, by rw [hqm]; rfl⟩, ?_⟩
      clear sm hqm g15 m15
      rintro _ h15 ⟨j, z, lm, hj, rfl, hmk, sm, mk, rfl⟩
      have m16 := mod_none m14 mk
      have rS5 := rS.old m16
      have su5 := SlIs.old su4 m16 (fun _ _ k => k)
      conv => whnf
      refine br_mk (fun hj2 => ?_) (fun hj2 => ?_)
      · conv => whnf
        simp at hj2
        obtain ⟨i6, c6, e6, k6⟩ := slo_get su5.weak hj2
        refine ⟨i6, c6, j, e6, rfl, hj2, ?_⟩
        conv => whnf
        refine ⟨_, k6, ?_⟩
        conv => whnf
        obtain ⟨i7, c7, sz7, cs7, f71, f72, f73, sm7⟩ := own_putB sm hj2 (decide ((n : Int) < uB.getD j 0))
        refine ⟨i7, c7, j, f71, rfl, hj2, ?_⟩
        conv => whnf
        refine ⟨_, _, f72, f73, ?_⟩
        conv => whnf
        refine ⟨_, Forget.cons rfl (Forget.cons rfl (Forget.cons rfl (Forget.cons rfl (Forget.cons rfl (Forget.cons rfl (Forget.cons rfl (Forget.cons rfl (Forget.cons rfl (Forget.cons rfl (Forget.nil _)))))))))), ⟨j + 1, _, _, hj2, succ_i64 hj2 (by omega), ⟨by rw [List.length_set]; exact hmk.1, fun i hi => ?_⟩, sm7, new_set mk (hqmn _ _ f71) f72, rfl⟩, mu_lt hj2 (by omega)⟩
        rw [List.getD_eq_getElem?_getD, List.getElem?_set]
        by_cases w : j = i
        · subst w
          rw [if_pos rfl, if_pos (by rw [hmk.1, rul]; exact hj2)]
          rfl
        · rw [if_neg w, ← List.getD_eq_getElem?_getD]
          exact hmk.2 i (by omega)
      conv => whnf
      simp at hj2
      obtain rfl : j = c.g.es.length := by omega
      rw [← rul] at hmk
      have hlm := mkI_all hmk
      have rgb5 := m16.get rgb (.inl fun k => k)
      have rmm5 := mod_none rmm m16
      refine ⟨_, Cells.mk rgb5 (Nat.le_of_ble_eq_true rfl) rfl, ?_⟩
      conv => whnf
      refine (refFar11n (ok.old rmm5 (fun _ _ k => k)) hm hal hnl (by rw [hmk.1, rul]) sm.weak).mono ?_
      rintro _ h17 ⟨zf, rfl, hz1, hz2, m17⟩
      rw [hlm, ← rU.mask (by omega), ← rar, ← rnd] at hz1
      rw [← rar, ← rnd] at hz2
      obtain ⟨k2, hl2, h6, h8⟩ := rJ.far rS.ha hz1 hz2
      have hk2 : k2 = kk := by
        rw [hlk] at hl2
        exact (Option.some.inj hl2).symm
      subst hk2
      have rS6 := rS5.old m17
      conv => whnf
      refine br_mk (fun hx1 => ?_) (fun hx1 => ?_)
      · exfalso
        have e6 : (k2 == 6) = decide (zf < 0) := Bool.eq_iff_iff.2 (by simp [h6])
        rw [e6] at hx1
        simp at hx1
      conv => whnf
      refine br_mk (fun hx2 => ?_) (fun hx2 => ?_)
      · exfalso
        have e8 : (k2 == 8) = (zf == 0) := Bool.eq_iff_iff.2 (by simp [h8])
        rw [e8] at hx2
        simp at hx2
      conv => whnf
      refine (tick12 rS6 rmo (by omega) (by omega) (by omega)).mono ?_
      rintro _ h18 ⟨vT, htk, sT, stT⟩
      conv => whnf
      obtain ⟨JT, smT⟩ := tick_jg rJ htk
      have hloB : ∀ k i, (idP { c with xt := xt, w := ((0 : Int), (1 : Int)) } vB k).F i → h1.next ≤ i := fun k i f => Nat.le_trans (Nat.le_of_lt hgb) (rS.sp.lo k i f)
      have hnoB : ∀ k, ¬ (idP { c with xt := xt, w := ((0 : Int), (1 : Int)) } vB k).F h1.next := fun k f => by
        have := rS.sp.lo k _ f
        have hgb : h1.next < ({ c with xt := xt, w := ((0 : Int), (1 : Int)) } : IdC).B := hgb
        omega
      have su6 := SlIs.old su5 m17 (fun _ _ k => k)
      refine ⟨_, Forget.cons rfl (Forget.cons rfl (Forget.cons rfl (Forget.cons rfl (Forget.cons rfl (Forget.cons rfl (Forget.cons rfl (Forget.nil _))))))), ⟨n + 1, _, vT, uB, by omega, by rw [wrap_i64 (by omega) (by omega)]; omega, sT, JT, smT.ar.trans rar, smT.nd.trans rnd, ?_, htk.1.trans rmo, ?_, rul, ?_, stT.sl su6 rqs, (fun k i hi => stT.far (SlIs.own_lt su6 hi) (fun n => rqs n i hi) k), stp_none (mod_none rmm5 m17) hloB stT, stT.get (m17.get rgb5 (.inl fun k => k)) hnoB, rfl⟩, ?_⟩
      · rw [smT.now]
        show vB.now + 1 = ((n + 1 : Nat) : Int)
        omega
      · rw [smT.U]
        show Unt (setV vB.U 0 (lapseV vB.U (vB.now + 1))) uB ((n + 1 : Nat) : Int)
        rw [rnow, show ((n + 1 : Nat) : Int) = (n : Int) + 1 by omega]
        exact rU.tick (by omega)
      · have := smT.hi
        have h2 : vT.T.length ≤ vB.T.length + 2 := this
        omega
      · show ((40 : Nat) - IntKind.i64.wrap ((n : Int) + 1)).toNat < (((40 : Nat) : Int) - (n : Int)).toNat
        rw [wrap_i64 (by omega) (by omega)]
        omega
  · conv => whnf
    refine (awake4 hh).mono ?_
    rintro _ h20 rfl
    conv => whnf
end Go.Proofs.YteapijoibimfnaaGreat
