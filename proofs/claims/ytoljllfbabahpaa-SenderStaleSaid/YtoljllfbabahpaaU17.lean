/- SenderStale: its walk. -/
import Derived.Test.YtoljllfbabahpaaU16
set_option linter.unusedVariables false
namespace Go.Proofs.Ytoljllfbabahpaa
open Go Go.Ab
theorem wrap_u8_eq (x : Int) : IntKind.u8.wrap x = x % 256 := by simp [IntKind.wrap, IntKind.bits, IntKind.signed]
set_option maxHeartbeats 1000000 in
theorem stale11 {h : H} {po : Option (Nat × Nat)} {m : Nat} {xs : List Int} (ro : RoSl h po m 1 (ints .i64 xs)) (n : Int) : ACalls Try.prog 11 [i64 n, .sl po m] h (fun r _ => r = .bool true) := by
  have hm := slo_len ro.is
  refine call_ Try.func11 rfl rfl (by kernel_rfl) ?_
  conv => whnf
  refine br_mk (fun ha => ?_) (fun ha => ?_)
  · conv => whnf
    refine (awake39 h).mono ?_
    rintro _ h1 rfl
    conv => whnf
  conv => whnf
  have ha : ¬ n < 1 := by simpa using ha
  refine br_mk (fun hb => ?_) (fun hb => ?_)
  · conv => whnf
    refine (awake39 h).mono ?_
    rintro _ h1 rfl
    conv => whnf
  conv => whnf
  have hb : ¬ n > 16 := by simpa using hb
  refine br_mk (fun he => ?_) (fun he => ?_)
  · conv => whnf
    refine (awake39 h).mono ?_
    rintro _ h1 rfl
    conv => whnf
  conv => whnf
  have he : m ≤ 40 := by
    have : ¬ (m : Int) > 40 := by simpa using he
    omega
  refine (new22 h 900 900 0).mono ?_
  rintro _ h1 q
  obtain ⟨tg, tmi, rfl, t1, _, _, m1⟩ := newT_yes q rfl
  clear q
  conv => whnf
  refine ⟨_, rfl, ?_⟩
  conv => whnf
  refine ⟨_, rfl, ?_⟩
  conv => whnf
  refine (sNew t1 16).mono ?_
  rintro _ h3 q
  obtain ⟨d, rfl, rfl, rfl, s1, _, _, m3⟩ := newS_yes q rfl
  clear q
  have o1 : SOk ⟨16, 0, false, [], 900, 900, 0, []⟩ := new_ok rfl rfl
  have k1 := KR.new 16 900 900 0
  have ro := (ro.get m1).get m3
  conv => whnf
  refine ⟨_, rfl, ?_⟩
  conv => whnf
  refine ⟨_, rfl, ?_⟩
  conv => whnf
  refine ⟨fun env hh => ∃ (i : Nat) (zi : Int) (v : SV), (i : Int) ≤ n ∧ zi = i ∧ SdC hh d v ∧ SOk v ∧ KR v 0 ∧ v.N = i ∧ v.W = 16 ∧ v.ov = false ∧ RoSl hh po m 1 (ints .i64 xs) ∧ env = [(9, i64 zi), (0, i64 n), (1, .sl po m), (7, .ptr (some (d.g, 0)))],
    fun env _ => match get env 9 with
      | .int _ z => (n - z).toNat
      | _ => 0, ⟨_, Forget.cons rfl (Forget.cons rfl (Forget.cons rfl (Forget.cons rfl (Forget.nil _)))), 0, _, _, by omega, rfl, s1, o1, k1, rfl, rfl, rfl, ro, rfl⟩, ?_⟩
  clear ro s1 o1 k1 t1 m1 m3
  rintro _ hh ⟨i, zi, v, hi, rfl, s, o, k, hN, hW, hov, ro, rfl⟩
  conv => whnf
  refine br_mk (fun hx => ?_) (fun hx => ?_)
  · conv => whnf
    have hx : (i : Int) < n := by simpa using hx
    obtain ⟨l2, n2⟩ := laid_oct hh [IntKind.u8.wrap (i : Int)]
    obtain ⟨z1, z2, z3, z4, z5, _, _⟩ := k.send o hov 0 [IntKind.u8.wrap (i : Int)] (by omega)
    refine (cSend (s.old n2) o (by omega) (now := 0) (by decide) (by decide) l2 (laid_ne s (Nat.le_refl _)) (by simp)).mono ?_
    rintro _ h4 ⟨rfl, s4, m4⟩
    conv => whnf
    have hwi : IntKind.i64.wrap ((i : Int) + 1) = ((i + 1 : Nat) : Int) := by rw [wrap_i64 (by omega) (by omega)]; omega
    rw [hwi]
    refine ⟨_, Forget.cons rfl (Forget.cons rfl (Forget.cons rfl (Forget.cons rfl (Forget.nil _)))), ⟨i + 1, _, _, by omega, rfl, s4, o.send 0 (by simp), z2, by omega, by omega, z5, (ro.get n2).get m4, rfl⟩, ?_⟩
    show (n - ((i + 1 : Nat) : Int)).toNat < (n - (i : Int)).toNat
    omega
  have hin : (i : Int) = n := by
    have : ¬ (i : Int) < n := by simpa using hx
    omega
  rw [hin] at hN
  clear hx hi hin
  conv => whnf
  refine ⟨fun env hk => ∃ (j : Nat) (zj a : Int) (v : SV), j ≤ m ∧ zj = j ∧ SdC hk d v ∧ SOk v ∧ KR v a ∧ 0 ≤ a ∧ v.N = n ∧ v.W = 16 ∧ v.ov = false ∧ RoSl hk po m 1 (ints .i64 xs) ∧ env = [(11, i64 zj), (10, i64 a), (0, i64 n), (1, .sl po m), (7, .ptr (some (d.g, 0)))],
    fun env _ => match get env 11 with
      | .int _ z => (m - z).toNat
      | _ => 0, ⟨_, Forget.cons rfl (Forget.cons rfl (Forget.cons rfl (Forget.cons rfl (Forget.cons rfl (Forget.nil _))))), 0, _, 0, v, Nat.zero_le _, rfl, s, o, k, Int.le_refl _, hN, hW, hov, ro, rfl⟩, ?_⟩
  clear s o k hN hW hov ro
  clear v
  rintro _ hh ⟨j, zj, a, v, hj, rfl, s, o, k, ha0, hN, hW, hov, ro, rfl⟩
  have hle := k.le
  conv => whnf
  refine br_mk (fun hx => ?_) (fun hx => ?_)
  · conv => whnf
    have hx : j < m := by simpa using hx
    obtain ⟨i1, c1, f1, f2⟩ := slo_get ro.is hx
    refine ⟨i1, c1, j, f1, rfl, hx, ?_⟩
    conv => whnf
    refine ⟨_, f2, ?_⟩
    conv => whnf
    obtain ⟨x, hxx⟩ : ∃ x, x = xs.getD j 0 := ⟨_, rfl⟩
    rw [← hxx] at f2 ⊢
    refine br_mk (fun hA => ?_) (fun hA => ?_)
    · conv => whnf
      have hA : x ≤ n := by simpa using hA
      refine ⟨i1, c1, j, f1, rfl, hx, ?_⟩
      conv => whnf
      refine ⟨_, f2, ?_⟩
      conv => whnf
      refine br_mk (fun hB => ?_) (fun hB => ?_)
      · conv => whnf
        have hB : x > a := by simpa using hB
        refine ⟨i1, c1, j, f1, rfl, hx, ?_⟩
        conv => whnf
        refine ⟨_, f2, ?_⟩
        conv => whnf
        rw [wrap_i64 (x := x - a) (by omega) (by omega)]
        have hw : tookV a v.N x = x - a := by rw [tookV, if_neg (by omega), if_pos hB]
        refine ⟨i1, c1, j, f1, rfl, hx, ?_⟩
        conv => whnf
        refine ⟨_, f2, ?_⟩
        conv => whnf
        obtain ⟨z1, z2, z3, z4, z5⟩ := k.ack o x
        rw [hw] at z1 z2
        have o2 := o.ack x
        refine (cAck s o x).mono ?_
        rintro _ h4 ⟨rfl, s4, m4⟩
        rw [z1]
        generalize (ackV v x).2 = v2 at s4 z2 z3 z4 z5 o2 ⊢
        conv => whnf
        refine br_mk (fun hC => ?_) (fun hC => ?_)
        · exact absurd hC (by simp)
        conv => whnf
        have hk2 := z2.le
        have hwa : IntKind.i64.wrap (a + (x - a)) = a + (x - a) := wrap_i64 (by omega) (by omega)
        rw [hwa]
        rw [hN] at z3
        rw [hW] at z4
        rw [hov] at z5
        obtain ⟨a2, ha2⟩ : ∃ a2, a2 = a + (x - a) := ⟨_, rfl⟩
        rw [← ha2] at z2 hk2 ⊢
        have ha20 : 0 ≤ a2 := by omega
        have hae : a2 = if x ≤ n ∧ x > a then x else a := by
          rw [ha2]
          split <;> omega
        have ro := ro.get m4
        refine ⟨fun env hk => ∃ (y : Int), 0 ≤ y ∧ y ≤ n ∧ SdC hk d v2 ∧ RoSl hk po m 1 (ints .i64 xs) ∧ env = [(13, i64 y), (10, i64 a2), (11, i64 (j : Int)), (0, i64 n), (1, .sl po m), (7, .ptr (some (d.g, 0)))],
          fun env _ => match get env 13 with
            | .int _ y => (n - y).toNat
            | _ => 0, ⟨_, Forget.cons rfl (Forget.cons rfl (Forget.cons rfl (Forget.cons rfl (Forget.cons rfl (Forget.cons rfl (Forget.nil _)))))), 0, Int.le_refl _, by omega, s4, ro, rfl⟩, ?_⟩
        clear s s4 ro m4 f1 f2
        rintro _ hM ⟨y, hy0, hy1, s, ro, rfl⟩
        conv => whnf
        refine br_mk (fun hy => ?_) (fun hy => ?_)
        · conv => whnf
          have hy : y < n := by simpa using hy
          refine (cBody s o2 y).mono ?_
          rintro _ h6 ⟨q6, rfl, r6, m6⟩
          rw [z2.is y, z3]
          conv => whnf
          refine ⟨_, rfl, ?_⟩
          conv => whnf
          refine ⟨_, rfl, ?_⟩
          conv => whnf
          refine br_mk (fun hC => ?_) (fun hC => ?_)
          · exact absurd hC (by rw [decide_eq_true hy, Bool.and_true]; simp)
          conv => whnf
          have hwy : IntKind.i64.wrap (y + 1) = y + 1 := wrap_i64 (by omega) (by omega)
          rw [hwy]
          refine ⟨_, Forget.cons rfl (Forget.cons rfl (Forget.cons rfl (Forget.cons rfl (Forget.cons rfl (Forget.cons rfl (Forget.nil _)))))), ⟨y + 1, by omega, by omega, s.old m6, ro.get m6, rfl⟩, ?_⟩
          show (n - (y + 1)).toNat < (n - y).toNat
          omega
        clear hy hy0 hy1
        conv => whnf
        obtain ⟨i1, c1, f1, f2⟩ := slo_get ro.is hx
        rw [← hxx] at f2
        refine ⟨i1, c1, j, f1, rfl, hx, ?_⟩
        conv => whnf
        refine ⟨_, f2, ?_⟩
        conv => whnf
        refine (cBody s o2 x).mono ?_
        rintro _ h6 ⟨q6, rfl, r6, m6⟩
        have s := s.old m6
        have ro := ro.get m6
        rw [z2.is x, z3]
        conv => whnf
        refine ⟨_, rfl, ?_⟩
        conv => whnf
        refine ⟨_, rfl, ?_⟩
        conv => whnf
        obtain ⟨i2, c2, f3, f4⟩ := slo_get ro.is hx
        rw [← hxx] at f4
        refine ⟨i2, c2, j, f3, rfl, hx, ?_⟩
        conv => whnf
        refine ⟨_, f4, ?_⟩
        conv => whnf
        have hroom : roomV v2.W v2.ov v2.C.length = 16 - n + a2 := by
          have := (z2.len o2).1
          rw [z4, z5, roomV]
          simp
          omega
        have hwn : IntKind.i64.wrap (16 - n) = 16 - n := wrap_i64 (by omega) (by omega)
        have hwm : IntKind.i64.wrap (16 - n + a2) = 16 - n + a2 := wrap_i64 (by omega) (by omega)
        have hwj : IntKind.i64.wrap ((j : Int) + 1) = ((j + 1 : Nat) : Int) := by rw [wrap_i64 (by omega) (by omega)]; omega
        refine br_mk (fun hE => ?_) (fun hE => ?_)
        · conv => whnf
          have hE : x ≥ a2 := by simpa using hE
          refine ⟨i2, c2, j, f3, rfl, hx, ?_⟩
          conv => whnf
          refine ⟨_, f4, ?_⟩
          conv => whnf
          refine br_mk (fun hG => ?_) (fun hG => ?_)
          · exact absurd hG (by rw [decide_eq_true (show a2 ≤ x from hE)]; simp)
          conv => whnf
          refine (cRoom s o2).mono ?_
          rintro _ h7 ⟨eh, rfl⟩
          subst eh
          rw [hroom]
          conv => whnf
          rw [hwn, hwm]
          refine br_mk (fun hI => ?_) (fun hI => ?_)
          · exact absurd hI (by simp)
          conv => whnf
          rw [hwj]
          refine ⟨_, Forget.cons rfl (Forget.cons rfl (Forget.cons rfl (Forget.cons rfl (Forget.cons rfl (Forget.nil _))))), ⟨j + 1, _, a2, v2, by omega, rfl, s, o2, z2, ha20, z3, z4, z5, ro, rfl⟩, ?_⟩
          show ((m : Int) - ((j + 1 : Nat) : Int)).toNat < ((m : Int) - (j : Int)).toNat
          omega
        · conv => whnf
          have hE : ¬ x ≥ a2 := by simpa using hE
          refine br_mk (fun hG => ?_) (fun hG => ?_)
          · exact absurd hG (by rw [decide_eq_false (show ¬ a2 ≤ x from hE)]; simp)
          conv => whnf
          refine (cRoom s o2).mono ?_
          rintro _ h7 ⟨eh, rfl⟩
          subst eh
          rw [hroom]
          conv => whnf
          rw [hwn, hwm]
          refine br_mk (fun hI => ?_) (fun hI => ?_)
          · exact absurd hI (by simp)
          conv => whnf
          rw [hwj]
          refine ⟨_, Forget.cons rfl (Forget.cons rfl (Forget.cons rfl (Forget.cons rfl (Forget.cons rfl (Forget.nil _))))), ⟨j + 1, _, a2, v2, by omega, rfl, s, o2, z2, ha20, z3, z4, z5, ro, rfl⟩, ?_⟩
          show ((m : Int) - ((j + 1 : Nat) : Int)).toNat < ((m : Int) - (j : Int)).toNat
          omega
      · have hB : ¬ x > a := by simpa using hB
        have hw : tookV a v.N x = 0 := by rw [tookV, if_neg (by omega), if_neg hB]
        conv => whnf
        refine ⟨i1, c1, j, f1, rfl, hx, ?_⟩
        conv => whnf
        refine ⟨_, f2, ?_⟩
        conv => whnf
        obtain ⟨z1, z2, z3, z4, z5⟩ := k.ack o x
        rw [hw] at z1 z2
        have o2 := o.ack x
        refine (cAck s o x).mono ?_
        rintro _ h4 ⟨rfl, s4, m4⟩
        rw [z1]
        generalize (ackV v x).2 = v2 at s4 z2 z3 z4 z5 o2 ⊢
        conv => whnf
        have hk2 := z2.le
        have hwa : IntKind.i64.wrap (a + 0) = a + 0 := wrap_i64 (by omega) (by omega)
        rw [hwa]
        rw [hN] at z3
        rw [hW] at z4
        rw [hov] at z5
        obtain ⟨a2, ha2⟩ : ∃ a2, a2 = a + 0 := ⟨_, rfl⟩
        rw [← ha2] at z2 hk2 ⊢
        have ha20 : 0 ≤ a2 := by omega
        have hae : a2 = if x ≤ n ∧ x > a then x else a := by
          rw [ha2]
          split <;> omega
        have ro := ro.get m4
        refine ⟨fun env hk => ∃ (y : Int), 0 ≤ y ∧ y ≤ n ∧ SdC hk d v2 ∧ RoSl hk po m 1 (ints .i64 xs) ∧ env = [(13, i64 y), (10, i64 a2), (11, i64 (j : Int)), (0, i64 n), (1, .sl po m), (7, .ptr (some (d.g, 0)))],
          fun env _ => match get env 13 with
            | .int _ y => (n - y).toNat
            | _ => 0, ⟨_, Forget.cons rfl (Forget.cons rfl (Forget.cons rfl (Forget.cons rfl (Forget.cons rfl (Forget.cons rfl (Forget.nil _)))))), 0, Int.le_refl _, by omega, s4, ro, rfl⟩, ?_⟩
        clear s s4 ro m4 f1 f2
        rintro _ hM ⟨y, hy0, hy1, s, ro, rfl⟩
        conv => whnf
        refine br_mk (fun hy => ?_) (fun hy => ?_)
        · conv => whnf
          have hy : y < n := by simpa using hy
          refine (cBody s o2 y).mono ?_
          rintro _ h6 ⟨q6, rfl, r6, m6⟩
          rw [z2.is y, z3]
          conv => whnf
          refine ⟨_, rfl, ?_⟩
          conv => whnf
          refine ⟨_, rfl, ?_⟩
          conv => whnf
          refine br_mk (fun hC => ?_) (fun hC => ?_)
          · exact absurd hC (by rw [decide_eq_true hy, Bool.and_true]; simp)
          conv => whnf
          have hwy : IntKind.i64.wrap (y + 1) = y + 1 := wrap_i64 (by omega) (by omega)
          rw [hwy]
          refine ⟨_, Forget.cons rfl (Forget.cons rfl (Forget.cons rfl (Forget.cons rfl (Forget.cons rfl (Forget.cons rfl (Forget.nil _)))))), ⟨y + 1, by omega, by omega, s.old m6, ro.get m6, rfl⟩, ?_⟩
          show (n - (y + 1)).toNat < (n - y).toNat
          omega
        clear hy hy0 hy1
        conv => whnf
        obtain ⟨i1, c1, f1, f2⟩ := slo_get ro.is hx
        rw [← hxx] at f2
        refine ⟨i1, c1, j, f1, rfl, hx, ?_⟩
        conv => whnf
        refine ⟨_, f2, ?_⟩
        conv => whnf
        refine (cBody s o2 x).mono ?_
        rintro _ h6 ⟨q6, rfl, r6, m6⟩
        have s := s.old m6
        have ro := ro.get m6
        rw [z2.is x, z3]
        conv => whnf
        refine ⟨_, rfl, ?_⟩
        conv => whnf
        refine ⟨_, rfl, ?_⟩
        conv => whnf
        obtain ⟨i2, c2, f3, f4⟩ := slo_get ro.is hx
        rw [← hxx] at f4
        refine ⟨i2, c2, j, f3, rfl, hx, ?_⟩
        conv => whnf
        refine ⟨_, f4, ?_⟩
        conv => whnf
        have hroom : roomV v2.W v2.ov v2.C.length = 16 - n + a2 := by
          have := (z2.len o2).1
          rw [z4, z5, roomV]
          simp
          omega
        have hwn : IntKind.i64.wrap (16 - n) = 16 - n := wrap_i64 (by omega) (by omega)
        have hwm : IntKind.i64.wrap (16 - n + a2) = 16 - n + a2 := wrap_i64 (by omega) (by omega)
        have hwj : IntKind.i64.wrap ((j : Int) + 1) = ((j + 1 : Nat) : Int) := by rw [wrap_i64 (by omega) (by omega)]; omega
        refine br_mk (fun hE => ?_) (fun hE => ?_)
        · conv => whnf
          have hE : x ≥ a2 := by simpa using hE
          refine ⟨i2, c2, j, f3, rfl, hx, ?_⟩
          conv => whnf
          refine ⟨_, f4, ?_⟩
          conv => whnf
          refine br_mk (fun hG => ?_) (fun hG => ?_)
          · exact absurd hG (by rw [decide_eq_true (show a2 ≤ x from hE)]; simp)
          conv => whnf
          refine (cRoom s o2).mono ?_
          rintro _ h7 ⟨eh, rfl⟩
          subst eh
          rw [hroom]
          conv => whnf
          rw [hwn, hwm]
          refine br_mk (fun hI => ?_) (fun hI => ?_)
          · exact absurd hI (by simp)
          conv => whnf
          rw [hwj]
          refine ⟨_, Forget.cons rfl (Forget.cons rfl (Forget.cons rfl (Forget.cons rfl (Forget.cons rfl (Forget.nil _))))), ⟨j + 1, _, a2, v2, by omega, rfl, s, o2, z2, ha20, z3, z4, z5, ro, rfl⟩, ?_⟩
          show ((m : Int) - ((j + 1 : Nat) : Int)).toNat < ((m : Int) - (j : Int)).toNat
          omega
        · conv => whnf
          have hE : ¬ x ≥ a2 := by simpa using hE
          refine br_mk (fun hG => ?_) (fun hG => ?_)
          · exact absurd hG (by rw [decide_eq_false (show ¬ a2 ≤ x from hE)]; simp)
          conv => whnf
          refine (cRoom s o2).mono ?_
          rintro _ h7 ⟨eh, rfl⟩
          subst eh
          rw [hroom]
          conv => whnf
          rw [hwn, hwm]
          refine br_mk (fun hI => ?_) (fun hI => ?_)
          · exact absurd hI (by simp)
          conv => whnf
          rw [hwj]
          refine ⟨_, Forget.cons rfl (Forget.cons rfl (Forget.cons rfl (Forget.cons rfl (Forget.cons rfl (Forget.nil _))))), ⟨j + 1, _, a2, v2, by omega, rfl, s, o2, z2, ha20, z3, z4, z5, ro, rfl⟩, ?_⟩
          show ((m : Int) - ((j + 1 : Nat) : Int)).toNat < ((m : Int) - (j : Int)).toNat
          omega
    · have hA : ¬ x ≤ n := by simpa using hA
      have hw : tookV a v.N x = 0 := by rw [tookV, if_pos (by omega)]
      conv => whnf
      refine ⟨i1, c1, j, f1, rfl, hx, ?_⟩
      conv => whnf
      refine ⟨_, f2, ?_⟩
      conv => whnf
      obtain ⟨z1, z2, z3, z4, z5⟩ := k.ack o x
      rw [hw] at z1 z2
      have o2 := o.ack x
      refine (cAck s o x).mono ?_
      rintro _ h4 ⟨rfl, s4, m4⟩
      rw [z1]
      generalize (ackV v x).2 = v2 at s4 z2 z3 z4 z5 o2 ⊢
      conv => whnf
      have hk2 := z2.le
      have hwa : IntKind.i64.wrap (a + 0) = a + 0 := wrap_i64 (by omega) (by omega)
      rw [hwa]
      rw [hN] at z3
      rw [hW] at z4
      rw [hov] at z5
      obtain ⟨a2, ha2⟩ : ∃ a2, a2 = a + 0 := ⟨_, rfl⟩
      rw [← ha2] at z2 hk2 ⊢
      have ha20 : 0 ≤ a2 := by omega
      have hae : a2 = if x ≤ n ∧ x > a then x else a := by
        rw [ha2]
        split <;> omega
      have ro := ro.get m4
      refine ⟨fun env hk => ∃ (y : Int), 0 ≤ y ∧ y ≤ n ∧ SdC hk d v2 ∧ RoSl hk po m 1 (ints .i64 xs) ∧ env = [(13, i64 y), (10, i64 a2), (11, i64 (j : Int)), (0, i64 n), (1, .sl po m), (7, .ptr (some (d.g, 0)))],
        fun env _ => match get env 13 with
          | .int _ y => (n - y).toNat
          | _ => 0, ⟨_, Forget.cons rfl (Forget.cons rfl (Forget.cons rfl (Forget.cons rfl (Forget.cons rfl (Forget.cons rfl (Forget.nil _)))))), 0, Int.le_refl _, by omega, s4, ro, rfl⟩, ?_⟩
      clear s s4 ro m4 f1 f2
      rintro _ hM ⟨y, hy0, hy1, s, ro, rfl⟩
      conv => whnf
      refine br_mk (fun hy => ?_) (fun hy => ?_)
      · conv => whnf
        have hy : y < n := by simpa using hy
        refine (cBody s o2 y).mono ?_
        rintro _ h6 ⟨q6, rfl, r6, m6⟩
        rw [z2.is y, z3]
        conv => whnf
        refine ⟨_, rfl, ?_⟩
        conv => whnf
        refine ⟨_, rfl, ?_⟩
        conv => whnf
        refine br_mk (fun hC => ?_) (fun hC => ?_)
        · exact absurd hC (by rw [decide_eq_true hy, Bool.and_true]; simp)
        conv => whnf
        have hwy : IntKind.i64.wrap (y + 1) = y + 1 := wrap_i64 (by omega) (by omega)
        rw [hwy]
        refine ⟨_, Forget.cons rfl (Forget.cons rfl (Forget.cons rfl (Forget.cons rfl (Forget.cons rfl (Forget.cons rfl (Forget.nil _)))))), ⟨y + 1, by omega, by omega, s.old m6, ro.get m6, rfl⟩, ?_⟩
        show (n - (y + 1)).toNat < (n - y).toNat
        omega
      clear hy hy0 hy1
      conv => whnf
      obtain ⟨i1, c1, f1, f2⟩ := slo_get ro.is hx
      rw [← hxx] at f2
      refine ⟨i1, c1, j, f1, rfl, hx, ?_⟩
      conv => whnf
      refine ⟨_, f2, ?_⟩
      conv => whnf
      refine (cBody s o2 x).mono ?_
      rintro _ h6 ⟨q6, rfl, r6, m6⟩
      have s := s.old m6
      have ro := ro.get m6
      rw [z2.is x, z3]
      conv => whnf
      refine ⟨_, rfl, ?_⟩
      conv => whnf
      refine ⟨_, rfl, ?_⟩
      conv => whnf
      obtain ⟨i2, c2, f3, f4⟩ := slo_get ro.is hx
      rw [← hxx] at f4
      refine ⟨i2, c2, j, f3, rfl, hx, ?_⟩
      conv => whnf
      refine ⟨_, f4, ?_⟩
      conv => whnf
      have hroom : roomV v2.W v2.ov v2.C.length = 16 - n + a2 := by
        have := (z2.len o2).1
        rw [z4, z5, roomV]
        simp
        omega
      have hwn : IntKind.i64.wrap (16 - n) = 16 - n := wrap_i64 (by omega) (by omega)
      have hwm : IntKind.i64.wrap (16 - n + a2) = 16 - n + a2 := wrap_i64 (by omega) (by omega)
      have hwj : IntKind.i64.wrap ((j : Int) + 1) = ((j + 1 : Nat) : Int) := by rw [wrap_i64 (by omega) (by omega)]; omega
      refine br_mk (fun hE => ?_) (fun hE => ?_)
      · conv => whnf
        have hE : x ≥ a2 := by simpa using hE
        refine ⟨i2, c2, j, f3, rfl, hx, ?_⟩
        conv => whnf
        refine ⟨_, f4, ?_⟩
        conv => whnf
        refine br_mk (fun hG => ?_) (fun hG => ?_)
        · exact absurd hG (by rw [decide_eq_true (show a2 ≤ x from hE)]; simp)
        conv => whnf
        refine (cRoom s o2).mono ?_
        rintro _ h7 ⟨eh, rfl⟩
        subst eh
        rw [hroom]
        conv => whnf
        rw [hwn, hwm]
        refine br_mk (fun hI => ?_) (fun hI => ?_)
        · exact absurd hI (by simp)
        conv => whnf
        rw [hwj]
        refine ⟨_, Forget.cons rfl (Forget.cons rfl (Forget.cons rfl (Forget.cons rfl (Forget.cons rfl (Forget.nil _))))), ⟨j + 1, _, a2, v2, by omega, rfl, s, o2, z2, ha20, z3, z4, z5, ro, rfl⟩, ?_⟩
        show ((m : Int) - ((j + 1 : Nat) : Int)).toNat < ((m : Int) - (j : Int)).toNat
        omega
      · conv => whnf
        have hE : ¬ x ≥ a2 := by simpa using hE
        refine br_mk (fun hG => ?_) (fun hG => ?_)
        · exact absurd hG (by rw [decide_eq_false (show ¬ a2 ≤ x from hE)]; simp)
        conv => whnf
        refine (cRoom s o2).mono ?_
        rintro _ h7 ⟨eh, rfl⟩
        subst eh
        rw [hroom]
        conv => whnf
        rw [hwn, hwm]
        refine br_mk (fun hI => ?_) (fun hI => ?_)
        · exact absurd hI (by simp)
        conv => whnf
        rw [hwj]
        refine ⟨_, Forget.cons rfl (Forget.cons rfl (Forget.cons rfl (Forget.cons rfl (Forget.cons rfl (Forget.nil _))))), ⟨j + 1, _, a2, v2, by omega, rfl, s, o2, z2, ha20, z3, z4, z5, ro, rfl⟩, ?_⟩
        show ((m : Int) - ((j + 1 : Nat) : Int)).toNat < ((m : Int) - (j : Int)).toNat
        omega
  · conv => whnf
    obtain ⟨z1, z2, z3, z4, z5⟩ := k.ack o n
    have o2 := o.ack n
    have htk : tookV a v.N n = n - a := by
      rw [tookV, if_neg (by omega)]
      split <;> omega
    rw [htk] at z1 z2
    refine (cAck s o n).mono ?_
    rintro _ h4 ⟨rfl, s4, m4⟩
    rw [z1]
    generalize (ackV v n).2 = v2 at s4 z2 z3 z4 z5 o2 ⊢
    have hlen := (z2.len o2).2
    have hle2 := z2.le
    have hT0 : v2.TS.length = 0 := by omega
    conv => whnf
    rw [wrap_i64 (x := n - a) (by omega) (by omega)]
    refine br_mk (fun hC => ?_) (fun hC => ?_)
    rotate_left
    · exact absurd hC (by simp)
    conv => whnf
    refine ⟨_, s4.cell0, ?_⟩
    conv => whnf
    refine (cLen s4).mono ?_
    rintro _ h5 ⟨eh, rfl⟩
    subst eh
    rw [hT0]
    conv => whnf
    refine (awake39 _).mono ?_
    rintro _ h6 rfl
    conv => whnf
end Go.Proofs.Ytoljllfbabahpaa
