/- ChannelOwes: its walk. -/
import Derived.Test.YtoljllfbabahpaaU29
set_option linter.unusedVariables false
namespace Go.Proofs.Ytoljllfbabahpaa
open Go Go.Ab
theorem OwI.facts {v : CV} {a p W : Int} (o : OwI v a p W) : v.s.N - a ≤ W ∧ a ≤ v.s.N ∧ (v.O.length : Int) = p - v.s.N ∧ (0 < v.O.length → v.s.N - a = W) := by
  have h1 := (o.b.kr.len o.b.ok.s).1
  have h2 := o.b.ok.s.len
  have h3 := o.b.W
  refine ⟨by omega, o.b.kr.le, o.b.len, fun h => ?_⟩
  rcases o.full with e | e
  · rw [e] at h
    exact absurd h (Nat.lt_irrefl _)
  · exact e
theorem u8_small {x : Int} (h0 : 0 ≤ x) (h1 : x ≤ 255) : IntKind.u8.wrap x = x := by
  simp [IntKind.wrap, IntKind.bits, IntKind.signed]
  omega
set_option maxHeartbeats 2000000 in
theorem owes3 {h : H} {po : Option (Nat × Nat)} {m : Nat} {xs : List Int} (ro : RoSl h po m 1 (ints .i64 xs)) (W n : Int) : ACalls Try.prog 3 [i64 W, i64 n, .sl po m] h (fun r _ => r = .bool true) := by
  have hm := slo_len ro.is
  refine call_ Try.func3 rfl rfl (by kernel_rfl) ?_
  conv => whnf
  refine br_mk (fun ha => ?_) (fun ha => ?_)
  · conv => whnf
    refine (awake15 h).mono ?_
    rintro _ h1 rfl
    conv => whnf
  conv => whnf
  have ha : ¬ W < 1 := by simpa using ha
  refine br_mk (fun hb => ?_) (fun hb => ?_)
  · conv => whnf
    refine (awake15 h).mono ?_
    rintro _ h1 rfl
    conv => whnf
  conv => whnf
  have hb : ¬ W > 16 := by simpa using hb
  refine br_mk (fun hc => ?_) (fun hc => ?_)
  · conv => whnf
    refine (awake15 h).mono ?_
    rintro _ h1 rfl
    conv => whnf
  conv => whnf
  have hc : ¬ n < 0 := by simpa using hc
  refine br_mk (fun hd => ?_) (fun hd => ?_)
  · conv => whnf
    refine (awake15 h).mono ?_
    rintro _ h1 rfl
    conv => whnf
  conv => whnf
  have hd : ¬ n > 100 := by simpa using hd
  refine br_mk (fun he => ?_) (fun he => ?_)
  · conv => whnf
    refine (awake15 h).mono ?_
    rintro _ h1 rfl
    conv => whnf
  conv => whnf
  have he : m ≤ 30 := by
    have : ¬ (m : Int) > 30 := by simpa using he
    omega
  obtain ⟨ok, oi0⟩ := OwI.new (W := W) (by omega) (by omega)
  refine (cNew h ⟨1, W, 0, 900, 900, 5⟩ 1).mono ?_
  rintro _ h1 q
  obtain ⟨d, rfl, s1, _, m1⟩ := newC_yes q ok
  clear q
  have ro := ro.get m1
  conv => whnf
  refine ⟨_, rfl, ?_⟩
  conv => whnf
  refine ⟨_, rfl, ?_⟩
  conv => whnf
  refine ⟨fun env hk => ∃ (j : Nat) (zj p nn : Int) (v : CV) (pc : Option (Nat × Nat)), (j : Int) ≤ n ∧ zj = j ∧ ChS hk d pc v ∧ OwI v 0 p W ∧ v.s.N = nn ∧ 0 ≤ p ∧ p ≤ j ∧ (p = j ∨ 64 ≤ v.O.length) ∧ RoSl hk po m 1 (ints .i64 xs) ∧ env = [(12, i64 zj), (10, i64 p), (9, i64 nn), (11, i64 0), (0, i64 W), (1, i64 n), (2, .sl po m), (7, .ptr (some (d.c, 0)))],
    fun env _ => match get env 12 with
      | .int _ z => (n - z).toNat
      | _ => 0, ⟨_, Forget.cons rfl (Forget.cons rfl (Forget.cons rfl (Forget.cons rfl (Forget.cons rfl (Forget.cons rfl (Forget.cons rfl (Forget.cons rfl (Forget.nil _)))))))), 0, _, 0, 0, _, _, by omega, rfl, s1, oi0, rfl, Int.le_refl _, Int.le_refl _, .inl rfl, ro, rfl⟩, ?_⟩
  rintro _ hh ⟨j, zj, p, nn, v, pc, hj, rfl, s, o, hN, hp0, hpj, hpe, ro, rfl⟩
  obtain ⟨f1, f2, f3, f4⟩ := o.facts
  conv => whnf
  refine br_mk (fun hx => ?_) (fun hx => ?_)
  · conv => whnf
    have hx : (j : Int) < n := by simpa using hx
    rw [u8_small (x := (j : Int)) (by omega) (by omega)]
    obtain ⟨l2, n2⟩ := laid_oct hh [(j : Int)]
    refine (cPush (s.old n2) o.b.ok (by omega) (now := 0) (by decide) (by decide) l2 (by simp)).mono ?_
    rintro _ h4 ⟨q, po4, rfl, g4, s4, _, m4⟩
    have ro := (ro.get n2).get m4
    conv => whnf
    refine ⟨_, rfl, ?_⟩
    conv => whnf
    refine ⟨_, rfl, ?_⟩
    conv => whnf
    rw [wrap_i64 (x := p - nn) (by omega) (by omega)]
    by_cases hf : 64 ≤ v.O.length
    · have hv : pushV v 0 [(j : Int)] = (([], 5), v) := by rw [pushV, if_neg (by rw [o.b.ov]; simp), if_pos hf]
      rw [hv] at g4 s4 ⊢
      rw [decide_eq_true (show p - nn ≥ 64 by omega)]
      conv => whnf
      rw [wrap_i64 (x := nn - 0) (by omega) (by omega), decide_eq_true (show nn - 0 ≥ W by omega)]
      conv => whnf
      rw [wrap_i64 (x := nn - 0) (by omega) (by omega), decide_eq_false (show ¬ nn - 0 > W by omega)]
      conv => whnf
      refine (cOwed s4).mono ?_
      rintro _ h7 ⟨eh, rfl⟩
      subst eh
      conv => whnf
      rw [wrap_i64 (x := p - nn) (by omega) (by omega)]
      refine br_mk (fun hI => ?_) (fun hI => ?_)
      · exact absurd hI (by
          have : (v.O.length : Int) = p - nn := by omega
          rw [this]
          simp)
      conv => whnf
      refine (cOwed s4).mono ?_
      rintro _ h7 ⟨eh, rfl⟩
      subst eh
      conv => whnf
      refine br_mk (fun hI => ?_) (fun hI => ?_)
      · conv => whnf
        have hI : 0 < v.O.length := by
          have : (v.O.length : Int) > 0 := by simpa using hI
          omega
        rw [wrap_i64 (x := nn - 0) (by omega) (by omega)]
        refine br_mk (fun hI => ?_) (fun hI => ?_)
        · exact absurd hI (by
            have : nn - 0 = W := by omega
            rw [this]
            simp)
        conv => whnf
        rw [wrap_i64 (x := (j : Int) + 1) (by omega) (by omega)]
        refine ⟨_, Forget.cons rfl (Forget.cons rfl (Forget.cons rfl (Forget.cons rfl (Forget.cons rfl (Forget.cons rfl (Forget.cons rfl (Forget.cons rfl (Forget.nil _)))))))), ⟨j + 1, _, p, nn, v, _, by omega, by omega, s4, o, hN, hp0, by omega, .inr hf, ro, rfl⟩, ?_⟩
        show (n - ((j : Int) + 1)).toNat < (n - (j : Int)).toNat
        omega
      · conv => whnf
        rw [wrap_i64 (x := (j : Int) + 1) (by omega) (by omega)]
        refine ⟨_, Forget.cons rfl (Forget.cons rfl (Forget.cons rfl (Forget.cons rfl (Forget.cons rfl (Forget.cons rfl (Forget.cons rfl (Forget.cons rfl (Forget.nil _)))))))), ⟨j + 1, _, p, nn, v, _, by omega, by omega, s4, o, hN, hp0, by omega, .inr hf, ro, rfl⟩, ?_⟩
        show (n - ((j : Int) + 1)).toNat < (n - (j : Int)).toNat
        omega
    · have hpj2 : p = j := by omega
      subst hpj2
      obtain ⟨L, v2, hv, o2, hN2, hL⟩ := o.push hf 0
      rw [hv] at g4 s4 ⊢
      obtain ⟨k1, k2, k3, k4⟩ := o2.facts
      rw [decide_eq_false (show ¬ (j : Int) - nn ≥ 64 by omega)]
      conv => whnf
      rw [wrap_i64 (x := (j : Int) + 1) (by omega) (by omega)]
      have s4 : ChS h4 d po4 v2 := s4
      have g4 : Grams h4 q (L.map (pg v)) := g4
      have hLl : (L.map (pg v)).length = L.length := by simp
      refine ⟨fun env hk => ∃ (k : Nat) (zk nk : Int), k ≤ L.length ∧ zk = (k : Int) ∧ nk = nn + (k : Int) ∧ Ab.Mod none_ h4 hk ∧ env = [(9, i64 nk), (15, i64 zk), (12, i64 (j : Int)), (10, i64 ((j : Int) + 1)), (11, i64 0), (0, i64 W), (1, i64 n), (2, .sl po m), (13, .sl q (L.map (pg v)).length), (7, .ptr (some (d.c, 0)))],
        fun env _ => match get env 15 with
          | .int _ z => ((L.length : Int) - z).toNat
          | _ => 0, ⟨_, Forget.cons rfl (Forget.cons rfl (Forget.cons rfl (Forget.cons rfl (Forget.cons rfl (Forget.cons rfl (Forget.cons rfl (Forget.cons rfl (Forget.cons rfl (Forget.cons rfl (Forget.nil _)))))))))), 0, _, _, Nat.zero_le _, rfl, by omega, mod_refl _ _, rfl⟩, ?_⟩
      rintro _ hk ⟨k, zk, nk, hk1, rfl, rfl, mk, rfl⟩
      conv => whnf
      refine br_mk (fun hy => ?_) (fun hy => ?_)
      · conv => whnf
        have hy : k < L.length := by simpa using hy
        have gk := g4.get mk
        have hkl : k < (L.map (pg v)).length := by omega
        obtain ⟨i3, c3, p3, y1, y2, y3, y4⟩ := gk.cell hkl
        have e3 : (L.map (pg v))[k] = ⟨1, 1, nn + (k : Int), 0, 0, [nn + (k : Int)]⟩ := by
          rw [List.getElem_map, hL k hy, hN, pg, o.b.conn, o.b.tn]
        rw [e3] at y3 y4
        refine ⟨[0, 1, 2, 3, 4, 5, 6, 7, 8, 9, 10, 11, 12, 13, 14, 15, 16, 17, 18, 19, 20, 21, 22, 23, 24, 25, 26, 27], [0, 0, 3, 7, 15, 31, 63, 127, 127, 511, 1023, 2047, 127, 8191, 16383, 32767, 65535, 65535, 262143, 524287, 1048575, 2097151, 65535, 4259839, 12648447, 29425663, 67108863, 134217727], by kernel_rfl, ?_⟩
        conv => whnf
        refine ⟨_, _, k, y1, rfl, hkl, ?_⟩
        conv => whnf
        refine ⟨_, y3 1 _ rfl, ?_⟩
        conv => whnf
        refine ⟨_, _, k, y1, rfl, hkl, ?_⟩
        conv => whnf
        refine ⟨_, y3 2 _ rfl, ?_⟩
        conv => whnf
        refine br_mk (fun hI => ?_) (fun hI => ?_)
        · exact absurd hI (by simp)
        conv => whnf
        refine ⟨_, _, k, y1, rfl, hkl, ?_⟩
        conv => whnf
        refine ⟨_, y3 5 _ rfl, ?_⟩
        conv => whnf
        have hpb : nn + (L.length : Int) ≤ 100 := by omega
        refine ⟨_, y4.is, (fun x hx2 => by
          have : x = nn + (k : Int) := by simpa using hx2
          omega), ?_⟩
        conv => whnf
        rw [u8_small (x := nn + (k : Int)) (by omega) (by omega)]
        obtain ⟨l7, n7⟩ := laid_oct hk [nn + (k : Int)]
        refine ⟨_, l7, (fun x hx2 => by
          have : x = nn + (k : Int) := by simpa using hx2
          omega), ?_⟩
        conv => whnf
        refine br_mk (fun hI => ?_) (fun hI => ?_)
        · exact absurd hI (by simp)
        conv => whnf
        rw [wrap_i64 (x := nn + (k : Int) + 1) (by omega) (by omega), wrap_i64 (x := (k : Int) + 1) (by omega) (by omega)]
        refine ⟨_, Forget.cons rfl (Forget.cons rfl (Forget.cons rfl (Forget.cons rfl (Forget.cons rfl (Forget.cons rfl (Forget.cons rfl (Forget.cons rfl (Forget.cons rfl (Forget.cons rfl (Forget.nil _)))))))))), ⟨k + 1, _, _, by omega, by omega, by omega, mod_none mk n7, rfl⟩, ?_⟩
        show ((L.length : Int) - ((k : Int) + 1)).toNat < ((L.length : Int) - (k : Int)).toNat
        omega
      · conv => whnf
        have hy : k = L.length := by
          have : ¬ k < L.length := by simpa using hy
          omega
        subst hy
        have s6 := s4.old mk
        have ro := ro.get mk
        rw [wrap_i64 (x := (nn + (L.length : Int)) - 0) (by omega) (by omega), decide_eq_false (show ¬ (nn + (L.length : Int)) - 0 > W by omega)]
        conv => whnf
        refine (cOwed s6).mono ?_
        rintro _ h7 ⟨eh, rfl⟩
        subst eh
        conv => whnf
        rw [wrap_i64 (x := ((j : Int) + 1) - (nn + (L.length : Int))) (by omega) (by omega)]
        refine br_mk (fun hI => ?_) (fun hI => ?_)
        · exact absurd hI (by
            have : (v2.O.length : Int) = ((j : Int) + 1) - (nn + (L.length : Int)) := by omega
            rw [this]
            simp)
        conv => whnf
        refine (cOwed s6).mono ?_
        rintro _ h7 ⟨eh, rfl⟩
        subst eh
        conv => whnf
        refine br_mk (fun hI => ?_) (fun hI => ?_)
        · conv => whnf
          have hI : 0 < v2.O.length := by
            have : (v2.O.length : Int) > 0 := by simpa using hI
            omega
          rw [wrap_i64 (x := (nn + (L.length : Int)) - 0) (by omega) (by omega)]
          refine br_mk (fun hI => ?_) (fun hI => ?_)
          · exact absurd hI (by
              have : (nn + (L.length : Int)) - 0 = W := by omega
              rw [this]
              simp)
          conv => whnf
          rw [wrap_i64 (x := (j : Int) + 1) (by omega) (by omega)]
          refine ⟨_, Forget.cons rfl (Forget.cons rfl (Forget.cons rfl (Forget.cons rfl (Forget.cons rfl (Forget.cons rfl (Forget.cons rfl (Forget.cons rfl (Forget.nil _)))))))), ⟨j + 1, _, _, _, v2, _, by omega, by omega, s6, o2, by omega, by omega, by omega, .inl (by omega), ro, rfl⟩, ?_⟩
          show (n - ((j : Int) + 1)).toNat < (n - (j : Int)).toNat
          omega
        · conv => whnf
          rw [wrap_i64 (x := (j : Int) + 1) (by omega) (by omega)]
          refine ⟨_, Forget.cons rfl (Forget.cons rfl (Forget.cons rfl (Forget.cons rfl (Forget.cons rfl (Forget.cons rfl (Forget.cons rfl (Forget.cons rfl (Forget.nil _)))))))), ⟨j + 1, _, _, _, v2, _, by omega, by omega, s6, o2, by omega, by omega, by omega, .inl (by omega), ro, rfl⟩, ?_⟩
          show (n - ((j : Int) + 1)).toNat < (n - (j : Int)).toNat
          omega
  conv => whnf
  refine ⟨fun env hk => ∃ (j : Nat) (zj a nn : Int) (v : CV) (pc : Option (Nat × Nat)), j ≤ m ∧ zj = j ∧ ChS hk d pc v ∧ OwI v a p W ∧ v.s.N = nn ∧ 0 ≤ a ∧ RoSl hk po m 1 (ints .i64 xs) ∧ env = [(16, i64 zj), (10, i64 p), (9, i64 nn), (11, i64 a), (0, i64 W), (2, .sl po m), (7, .ptr (some (d.c, 0)))],
    fun env _ => match get env 16 with
      | .int _ z => ((m : Int) - z).toNat
      | _ => 0, ⟨_, Forget.cons rfl (Forget.cons rfl (Forget.cons rfl (Forget.cons rfl (Forget.cons rfl (Forget.cons rfl (Forget.cons rfl (Forget.nil _))))))), 0, _, 0, nn, v, _, Nat.zero_le _, rfl, s, o, hN, Int.le_refl _, ro, rfl⟩, ?_⟩
  have hp1 : p ≤ 100 := by omega
  clear s o hN f1 f2 f3 f4 ro hpe hj hx
  rintro _ hh ⟨i, zi, a, nn, v, pc, hi, rfl, s, o, hN, ha0, ro, rfl⟩
  obtain ⟨f1, f2, f3, f4⟩ := o.facts
  conv => whnf
  refine br_mk (fun hx => ?_) (fun hx => ?_)
  rotate_left
  · conv => whnf
    refine (awake15 hh).mono ?_
    rintro _ h1 rfl
    conv => whnf
  conv => whnf
  have hx : i < m := by simpa using hx
  obtain ⟨i1, c1, x1, x2⟩ := slo_get ro.is hx
  refine ⟨i1, c1, i, x1, rfl, hx, ?_⟩
  conv => whnf
  refine ⟨_, x2, ?_⟩
  conv => whnf
  rw [wrap_i64 (x := W + 1) (by omega) (by omega)]
  refine (round19 (m := W + 1) (by omega) (by omega) _ hh).mono ?_
  rintro _ h2 ⟨eh, rfl⟩
  subst eh
  have hr0 := Int.emod_nonneg (xs.getD i 0) (show W + 1 ≠ 0 by omega)
  have hr1 := Int.emod_lt_of_pos (xs.getD i 0) (show 0 < W + 1 by omega)
  generalize xs.getD i 0 % (W + 1) = rr at hr0 hr1 ⊢
  conv => whnf
  rw [wrap_i64 (x := a + rr) (by omega) (by omega)]
  refine br_mk (fun hg => ?_) (fun hg => ?_)
  · have hg : a + rr > nn := by simpa using hg
    conv => whnf
    obtain ⟨L, v2, hv, o2, hN2, hL⟩ := o.ack (k := nn) (by omega) (by omega) 0
    refine (cRecv (g := ⟨1, 2, 0, nn, 0, []⟩) (p := none) s o.b.ok (by omega) (by have := o.b.tn; omega) (now := 0) (by decide) (by decide) (fun h' m => (SlIs.nil _ false _)) (i64_in (by show -1000000000 ≤ (0 : Int); decide) (by show (0 : Int) ≤ 1000000000; decide)) (by simp)).mono ?_
    rintro _ h4 ⟨qr, q, po4, rfl, w4, g4, s4, _, m4⟩
    rw [hv] at w4 g4 s4 ⊢
    have ro := ro.get m4
    obtain ⟨k1, k2, k3, k4⟩ := o2.facts
    conv => whnf
    refine ⟨_, rfl, ?_⟩
    conv => whnf
    refine ⟨_, rfl, ?_⟩
    conv => whnf
    have s4 : ChS h4 d po4 v2 := s4
    have g4 : Grams h4 q (L.map (pg v)) := g4
    have hLl : (L.map (pg v)).length = L.length := by simp
    refine ⟨fun env hk => ∃ (k : Nat) (zk nk : Int), k ≤ L.length ∧ zk = (k : Int) ∧ nk = nn + (k : Int) ∧ Ab.Mod none_ h4 hk ∧ env = [(9, i64 nk), (20, i64 zk), (16, i64 (i : Int)), (10, i64 p), (11, i64 nn), (0, i64 W), (2, .sl po m), (19, .sl q (L.map (pg v)).length), (7, .ptr (some (d.c, 0)))],
      fun env _ => match get env 20 with
        | .int _ z => ((L.length : Int) - z).toNat
        | _ => 0, ⟨_, Forget.cons rfl (Forget.cons rfl (Forget.cons rfl (Forget.cons rfl (Forget.cons rfl (Forget.cons rfl (Forget.cons rfl (Forget.cons rfl (Forget.cons rfl (Forget.nil _))))))))), 0, _, _, Nat.zero_le _, rfl, by omega, mod_refl _ _, rfl⟩, ?_⟩
    rintro _ hk ⟨k, zk, nk, hk1, rfl, rfl, mk, rfl⟩
    conv => whnf
    refine br_mk (fun hy => ?_) (fun hy => ?_)
    · conv => whnf
      have hy : k < L.length := by simpa using hy
      have gk := g4.get mk
      have hkl : k < (L.map (pg v)).length := by omega
      obtain ⟨i3, c3, p3, y1, y2, y3, y4⟩ := gk.cell hkl
      have e3 : (L.map (pg v))[k] = ⟨1, 1, nn + (k : Int), 0, 0, [nn + (k : Int)]⟩ := by
        rw [List.getElem_map, hL k hy, hN, pg, o.b.conn, o.b.tn]
      rw [e3] at y3 y4
      refine ⟨[0, 1, 2, 3, 4, 5, 6, 7, 8, 9, 10, 11, 12, 13, 14, 15, 16, 17, 18, 19, 20, 21, 22, 23, 24, 25, 26, 27], [0, 0, 3, 7, 15, 31, 63, 127, 127, 511, 1023, 2047, 127, 8191, 16383, 32767, 65535, 65535, 262143, 524287, 1048575, 2097151, 65535, 4259839, 12648447, 29425663, 67108863, 134217727], by kernel_rfl, ?_⟩
      conv => whnf
      refine ⟨_, _, k, y1, rfl, hkl, ?_⟩
      conv => whnf
      refine ⟨_, y3 1 _ rfl, ?_⟩
      conv => whnf
      refine ⟨_, _, k, y1, rfl, hkl, ?_⟩
      conv => whnf
      refine ⟨_, y3 2 _ rfl, ?_⟩
      conv => whnf
      refine br_mk (fun hI => ?_) (fun hI => ?_)
      · exact absurd hI (by simp)
      conv => whnf
      refine ⟨_, _, k, y1, rfl, hkl, ?_⟩
      conv => whnf
      refine ⟨_, y3 5 _ rfl, ?_⟩
      conv => whnf
      have hpb : nn + (L.length : Int) ≤ 100 := by omega
      refine ⟨_, y4.is, (fun x hx2 => by
        have : x = nn + (k : Int) := by simpa using hx2
        omega), ?_⟩
      conv => whnf
      rw [u8_small (x := nn + (k : Int)) (by omega) (by omega)]
      obtain ⟨l7, n7⟩ := laid_oct hk [nn + (k : Int)]
      refine ⟨_, l7, (fun x hx2 => by
        have : x = nn + (k : Int) := by simpa using hx2
        omega), ?_⟩
      conv => whnf
      refine br_mk (fun hI => ?_) (fun hI => ?_)
      · exact absurd hI (by simp)
      conv => whnf
      rw [wrap_i64 (x := nn + (k : Int) + 1) (by omega) (by omega), wrap_i64 (x := (k : Int) + 1) (by omega) (by omega)]
      refine ⟨_, Forget.cons rfl (Forget.cons rfl (Forget.cons rfl (Forget.cons rfl (Forget.cons rfl (Forget.cons rfl (Forget.cons rfl (Forget.cons rfl (Forget.cons rfl (Forget.nil _))))))))), ⟨k + 1, _, _, by omega, by omega, by omega, mod_none mk n7, rfl⟩, ?_⟩
      show ((L.length : Int) - ((k : Int) + 1)).toNat < ((L.length : Int) - (k : Int)).toNat
      omega
    · conv => whnf
      have hy : k = L.length := by
        have : ¬ k < L.length := by simpa using hy
        omega
      subst hy
      have s6 := s4.old mk
      have ro := ro.get mk
      rw [wrap_i64 (x := (nn + (L.length : Int)) - nn) (by omega) (by omega), decide_eq_false (show ¬ (nn + (L.length : Int)) - nn > W by omega)]
      conv => whnf
      refine (cOwed s6).mono ?_
      rintro _ h7 ⟨eh, rfl⟩
      subst eh
      conv => whnf
      rw [wrap_i64 (x := p - (nn + (L.length : Int))) (by omega) (by omega)]
      refine br_mk (fun hI => ?_) (fun hI => ?_)
      · exact absurd hI (by
          have : (v2.O.length : Int) = p - (nn + (L.length : Int)) := by omega
          rw [this]
          simp)
      conv => whnf
      refine (cOwed s6).mono ?_
      rintro _ h7 ⟨eh, rfl⟩
      subst eh
      conv => whnf
      refine br_mk (fun hI => ?_) (fun hI => ?_)
      · conv => whnf
        have hI : 0 < v2.O.length := by
          have : (v2.O.length : Int) > 0 := by simpa using hI
          omega
        rw [wrap_i64 (x := (nn + (L.length : Int)) - nn) (by omega) (by omega)]
        refine br_mk (fun hI => ?_) (fun hI => ?_)
        · exact absurd hI (by
            have : (nn + (L.length : Int)) - nn = W := by omega
            rw [this]
            simp)
        conv => whnf
        rw [wrap_i64 (x := (i : Int) + 1) (by omega) (by omega)]
        refine ⟨_, Forget.cons rfl (Forget.cons rfl (Forget.cons rfl (Forget.cons rfl (Forget.cons rfl (Forget.cons rfl (Forget.cons rfl (Forget.nil _))))))), ⟨i + 1, _, _, _, v2, _, by omega, by omega, s6, o2, by omega, by omega, ro, rfl⟩, ?_⟩
        show ((m : Int) - ((i : Int) + 1)).toNat < ((m : Int) - (i : Int)).toNat
        omega
      · conv => whnf
        rw [wrap_i64 (x := (i : Int) + 1) (by omega) (by omega)]
        refine ⟨_, Forget.cons rfl (Forget.cons rfl (Forget.cons rfl (Forget.cons rfl (Forget.cons rfl (Forget.cons rfl (Forget.cons rfl (Forget.nil _))))))), ⟨i + 1, _, _, _, v2, _, by omega, by omega, s6, o2, by omega, by omega, ro, rfl⟩, ?_⟩
        show ((m : Int) - ((i : Int) + 1)).toNat < ((m : Int) - (i : Int)).toNat
        omega
  · have hg : ¬ a + rr > nn := by simpa using hg
    conv => whnf
    obtain ⟨L, v2, hv, o2, hN2, hL⟩ := o.ack (k := (a + rr)) (by omega) (by omega) 0
    refine (cRecv (g := ⟨1, 2, 0, (a + rr), 0, []⟩) (p := none) s o.b.ok (by omega) (by have := o.b.tn; omega) (now := 0) (by decide) (by decide) (fun h' m => (SlIs.nil _ false _)) (i64_in (by show -1000000000 ≤ (0 : Int); decide) (by show (0 : Int) ≤ 1000000000; decide)) (by simp)).mono ?_
    rintro _ h4 ⟨qr, q, po4, rfl, w4, g4, s4, _, m4⟩
    rw [hv] at w4 g4 s4 ⊢
    have ro := ro.get m4
    obtain ⟨k1, k2, k3, k4⟩ := o2.facts
    conv => whnf
    refine ⟨_, rfl, ?_⟩
    conv => whnf
    refine ⟨_, rfl, ?_⟩
    conv => whnf
    have s4 : ChS h4 d po4 v2 := s4
    have g4 : Grams h4 q (L.map (pg v)) := g4
    have hLl : (L.map (pg v)).length = L.length := by simp
    refine ⟨fun env hk => ∃ (k : Nat) (zk nk : Int), k ≤ L.length ∧ zk = (k : Int) ∧ nk = nn + (k : Int) ∧ Ab.Mod none_ h4 hk ∧ env = [(9, i64 nk), (20, i64 zk), (16, i64 (i : Int)), (10, i64 p), (11, i64 (a + rr)), (0, i64 W), (2, .sl po m), (19, .sl q (L.map (pg v)).length), (7, .ptr (some (d.c, 0)))],
      fun env _ => match get env 20 with
        | .int _ z => ((L.length : Int) - z).toNat
        | _ => 0, ⟨_, Forget.cons rfl (Forget.cons rfl (Forget.cons rfl (Forget.cons rfl (Forget.cons rfl (Forget.cons rfl (Forget.cons rfl (Forget.cons rfl (Forget.cons rfl (Forget.nil _))))))))), 0, _, _, Nat.zero_le _, rfl, by omega, mod_refl _ _, rfl⟩, ?_⟩
    rintro _ hk ⟨k, zk, nk, hk1, rfl, rfl, mk, rfl⟩
    conv => whnf
    refine br_mk (fun hy => ?_) (fun hy => ?_)
    · conv => whnf
      have hy : k < L.length := by simpa using hy
      have gk := g4.get mk
      have hkl : k < (L.map (pg v)).length := by omega
      obtain ⟨i3, c3, p3, y1, y2, y3, y4⟩ := gk.cell hkl
      have e3 : (L.map (pg v))[k] = ⟨1, 1, nn + (k : Int), 0, 0, [nn + (k : Int)]⟩ := by
        rw [List.getElem_map, hL k hy, hN, pg, o.b.conn, o.b.tn]
      rw [e3] at y3 y4
      refine ⟨[0, 1, 2, 3, 4, 5, 6, 7, 8, 9, 10, 11, 12, 13, 14, 15, 16, 17, 18, 19, 20, 21, 22, 23, 24, 25, 26, 27], [0, 0, 3, 7, 15, 31, 63, 127, 127, 511, 1023, 2047, 127, 8191, 16383, 32767, 65535, 65535, 262143, 524287, 1048575, 2097151, 65535, 4259839, 12648447, 29425663, 67108863, 134217727], by kernel_rfl, ?_⟩
      conv => whnf
      refine ⟨_, _, k, y1, rfl, hkl, ?_⟩
      conv => whnf
      refine ⟨_, y3 1 _ rfl, ?_⟩
      conv => whnf
      refine ⟨_, _, k, y1, rfl, hkl, ?_⟩
      conv => whnf
      refine ⟨_, y3 2 _ rfl, ?_⟩
      conv => whnf
      refine br_mk (fun hI => ?_) (fun hI => ?_)
      · exact absurd hI (by simp)
      conv => whnf
      refine ⟨_, _, k, y1, rfl, hkl, ?_⟩
      conv => whnf
      refine ⟨_, y3 5 _ rfl, ?_⟩
      conv => whnf
      have hpb : nn + (L.length : Int) ≤ 100 := by omega
      refine ⟨_, y4.is, (fun x hx2 => by
        have : x = nn + (k : Int) := by simpa using hx2
        omega), ?_⟩
      conv => whnf
      rw [u8_small (x := nn + (k : Int)) (by omega) (by omega)]
      obtain ⟨l7, n7⟩ := laid_oct hk [nn + (k : Int)]
      refine ⟨_, l7, (fun x hx2 => by
        have : x = nn + (k : Int) := by simpa using hx2
        omega), ?_⟩
      conv => whnf
      refine br_mk (fun hI => ?_) (fun hI => ?_)
      · exact absurd hI (by simp)
      conv => whnf
      rw [wrap_i64 (x := nn + (k : Int) + 1) (by omega) (by omega), wrap_i64 (x := (k : Int) + 1) (by omega) (by omega)]
      refine ⟨_, Forget.cons rfl (Forget.cons rfl (Forget.cons rfl (Forget.cons rfl (Forget.cons rfl (Forget.cons rfl (Forget.cons rfl (Forget.cons rfl (Forget.cons rfl (Forget.nil _))))))))), ⟨k + 1, _, _, by omega, by omega, by omega, mod_none mk n7, rfl⟩, ?_⟩
      show ((L.length : Int) - ((k : Int) + 1)).toNat < ((L.length : Int) - (k : Int)).toNat
      omega
    · conv => whnf
      have hy : k = L.length := by
        have : ¬ k < L.length := by simpa using hy
        omega
      subst hy
      have s6 := s4.old mk
      have ro := ro.get mk
      rw [wrap_i64 (x := (nn + (L.length : Int)) - (a + rr)) (by omega) (by omega), decide_eq_false (show ¬ (nn + (L.length : Int)) - (a + rr) > W by omega)]
      conv => whnf
      refine (cOwed s6).mono ?_
      rintro _ h7 ⟨eh, rfl⟩
      subst eh
      conv => whnf
      rw [wrap_i64 (x := p - (nn + (L.length : Int))) (by omega) (by omega)]
      refine br_mk (fun hI => ?_) (fun hI => ?_)
      · exact absurd hI (by
          have : (v2.O.length : Int) = p - (nn + (L.length : Int)) := by omega
          rw [this]
          simp)
      conv => whnf
      refine (cOwed s6).mono ?_
      rintro _ h7 ⟨eh, rfl⟩
      subst eh
      conv => whnf
      refine br_mk (fun hI => ?_) (fun hI => ?_)
      · conv => whnf
        have hI : 0 < v2.O.length := by
          have : (v2.O.length : Int) > 0 := by simpa using hI
          omega
        rw [wrap_i64 (x := (nn + (L.length : Int)) - (a + rr)) (by omega) (by omega)]
        refine br_mk (fun hI => ?_) (fun hI => ?_)
        · exact absurd hI (by
            have : (nn + (L.length : Int)) - (a + rr) = W := by omega
            rw [this]
            simp)
        conv => whnf
        rw [wrap_i64 (x := (i : Int) + 1) (by omega) (by omega)]
        refine ⟨_, Forget.cons rfl (Forget.cons rfl (Forget.cons rfl (Forget.cons rfl (Forget.cons rfl (Forget.cons rfl (Forget.cons rfl (Forget.nil _))))))), ⟨i + 1, _, _, _, v2, _, by omega, by omega, s6, o2, by omega, by omega, ro, rfl⟩, ?_⟩
        show ((m : Int) - ((i : Int) + 1)).toNat < ((m : Int) - (i : Int)).toNat
        omega
      · conv => whnf
        rw [wrap_i64 (x := (i : Int) + 1) (by omega) (by omega)]
        refine ⟨_, Forget.cons rfl (Forget.cons rfl (Forget.cons rfl (Forget.cons rfl (Forget.cons rfl (Forget.cons rfl (Forget.cons rfl (Forget.nil _))))))), ⟨i + 1, _, _, _, v2, _, by omega, by omega, s6, o2, by omega, by omega, ro, rfl⟩, ?_⟩
        show ((m : Int) - ((i : Int) + 1)).toNat < ((m : Int) - (i : Int)).toNat
        omega
end Go.Proofs.Ytoljllfbabahpaa
