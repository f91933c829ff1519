/- SenderAgain: its walk. -/
import Derived.Test.YtoljllfbabahpaaU19
set_option linter.unusedVariables false
namespace Go.Proofs.Ytoljllfbabahpaa
open Go Go.Ab
theorem wrap_u8_eq (x : Int) : IntKind.u8.wrap x = x % 256 := by simp [IntKind.wrap, IntKind.bits, IntKind.signed]
set_option maxHeartbeats 2000000 in
theorem again9 {h : H} {po : Option (Nat × Nat)} {m : Nat} {xs : List Int} (ro : RoSl h po m 1 (ints .i64 xs)) (n tr : Int) : ACalls Try.prog 9 [i64 n, .sl po m, i64 tr] h (fun r _ => r = .bool true) := by
  have hm := slo_len ro.is
  refine call_ Try.func9 rfl rfl (by kernel_rfl) ?_
  conv => whnf
  refine br_mk (fun ha => ?_) (fun ha => ?_)
  · conv => whnf
    refine (awake39 h).mono ?_
    rintro _ h1 rfl
    conv => whnf
  conv => whnf
  have ha : ¬ n < 1 := by simpa using ha
  refine br_mk (fun ha => ?_) (fun ha => ?_)
  · conv => whnf
    refine (awake39 h).mono ?_
    rintro _ h1 rfl
    conv => whnf
  conv => whnf
  have hb : ¬ n > 16 := by simpa using ha
  refine br_mk (fun ha => ?_) (fun ha => ?_)
  · conv => whnf
    refine (awake39 h).mono ?_
    rintro _ h1 rfl
    conv => whnf
  conv => whnf
  have hc : m ≤ 20 := by
    have : ¬ (m : Int) > 20 := by simpa using ha
    omega
  refine br_mk (fun ha => ?_) (fun ha => ?_)
  · conv => whnf
    refine (awake39 h).mono ?_
    rintro _ h1 rfl
    conv => whnf
  conv => whnf
  have hd : ¬ tr < 1 := by simpa using ha
  refine br_mk (fun ha => ?_) (fun ha => ?_)
  · conv => whnf
    refine (awake39 h).mono ?_
    rintro _ h1 rfl
    conv => whnf
  conv => whnf
  have he : ¬ tr > 10 := by simpa using ha
  have okt : okT 4 4 tr = true := by
    rw [okT_iff]
    omega
  refine (new22 h 4 4 tr).mono ?_
  rintro _ h1 q
  obtain ⟨tg, tmi, rfl, t1, _, _, m1⟩ := newT_yes q okt
  clear q
  conv => whnf
  refine ⟨_, rfl, ?_⟩
  conv => whnf
  refine ⟨_, rfl, ?_⟩
  conv => whnf
  refine (sNew t1 16).mono ?_
  rintro _ h3 q
  obtain ⟨d, rfl, rfl, rfl, s1, _, _, m3⟩ := newS_yes q rfl
  clear q
  have o1 : SOk ⟨16, 0, false, [], 4, 4, tr, []⟩ := new_ok rfl okt
  have k1 := KR.new 16 4 4 tr
  have ro := (ro.get m1).get m3
  conv => whnf
  refine ⟨_, rfl, ?_⟩
  conv => whnf
  refine ⟨_, rfl, ?_⟩
  conv => whnf
  refine ⟨fun env hh => ∃ (i : Nat) (zi : Int) (v : SV), (i : Int) ≤ n ∧ zi = i ∧ SdC hh d v ∧ SOk v ∧ KR v 0 ∧ TA v 1 ∧ BD v ∧ v.N = i ∧ v.W = 16 ∧ v.ov = false ∧ v.B = 4 ∧ v.M = 4 ∧ v.R = tr ∧ RoSl hh po m 1 (ints .i64 xs) ∧ env = [(11, i64 zi), (0, i64 n), (1, .sl po m), (2, i64 tr), (9, .ptr (some (d.g, 0)))],
    fun env _ => match get env 11 with
      | .int _ z => (n - z).toNat
      | _ => 0, ⟨_, Forget.cons rfl (Forget.cons rfl (Forget.cons rfl (Forget.cons rfl (Forget.cons rfl (Forget.nil _))))), 0, _, _, by omega, rfl, s1, o1, k1, (fun x hx => by cases hx), (fun x hx => by cases hx), rfl, rfl, rfl, rfl, rfl, rfl, ro, rfl⟩, ?_⟩
  clear ro s1 o1 k1 t1 m1 m3
  rintro _ hh ⟨i, zi, v, hi, rfl, s, o, k, ta, bd, hN, hW, hov, hB, hM, hR, ro, rfl⟩
  conv => whnf
  refine br_mk (fun hx => ?_) (fun hx => ?_)
  · conv => whnf
    have hx : (i : Int) < n := by simpa using hx
    have u1 : IntKind.u8.wrap (i : Int) = i := by rw [wrap_u8_eq]; omega
    rw [u1]
    obtain ⟨l2, n2⟩ := laid_oct hh [(i : Int)]
    obtain ⟨z1, z2, z3, z4, z5, _, _⟩ := k.send o hov 0 [(i : Int)] (by omega)
    have zz := ta.send bd k o hov hB hM (by omega)
    rw [hN] at zz z1
    obtain ⟨zz1, zz2, zz3, zz4, zz5⟩ := zz
    have o2 := o.send 0 (body := [(i : Int)]) (by simp)
    refine (cSend (s.old n2) o (by omega) (now := 0) (by decide) (by decide) l2 (laid_ne s (Nat.le_refl _)) (by simp)).mono ?_
    rintro _ h4 ⟨rfl, s4, m4⟩
    rw [z1]
    generalize (sendV v 0 [(i : Int)]).2 = v2 at s4 z2 z3 z4 z5 zz1 zz2 zz3 zz4 zz5 o2 ⊢
    conv => whnf
    refine ⟨_, rfl, ?_⟩
    conv => whnf
    refine ⟨_, rfl, ?_⟩
    conv => whnf
    refine br_mk (fun hC => ?_) (fun hC => ?_)
    · exact absurd hC (by simp)
    conv => whnf
    have hwi : IntKind.i64.wrap ((i : Int) + 1) = ((i + 1 : Nat) : Int) := by rw [wrap_i64 (by omega) (by omega)]; omega
    rw [hwi]
    refine ⟨_, Forget.cons rfl (Forget.cons rfl (Forget.cons rfl (Forget.cons rfl (Forget.cons rfl (Forget.nil _))))), ⟨i + 1, _, v2, by omega, rfl, s4, o2, z2, zz1, zz2, by omega, by omega, z5, zz3, zz4, by omega, (ro.get n2).get m4, rfl⟩, ?_⟩
    show (n - ((i + 1 : Nat) : Int)).toNat < (n - (i : Int)).toNat
    omega
  have hin : (i : Int) = n := by
    have : ¬ (i : Int) < n := by simpa using hx
    omega
  rw [hin] at hN
  clear hx hi hin
  conv => whnf
  refine ⟨fun env hk => ∃ (kk a : Int) (v : SV), 1 ≤ kk ∧ kk ≤ tr + 2 ∧ (kk = tr + 2 → a = n) ∧ SdC hk d v ∧ SOk v ∧ KR v a ∧ 0 ≤ a ∧ TA v kk ∧ BD v ∧ v.N = n ∧ v.W = 16 ∧ v.ov = false ∧ v.B = 4 ∧ v.M = 4 ∧ v.R = tr ∧ RoSl hk po m 1 (ints .i64 xs) ∧ env = [(15, i64 kk), (14, i64 a), (0, i64 n), (1, .sl po m), (2, i64 tr), (9, .ptr (some (d.g, 0)))],
    fun env _ => match get env 15 with
      | .int _ z => (tr + 2 - z).toNat
      | _ => 0, ⟨_, Forget.cons rfl (Forget.cons rfl (Forget.cons rfl (Forget.cons rfl (Forget.cons rfl (Forget.cons rfl (Forget.nil _)))))), 1, 0, v, Int.le_refl _, by omega, by omega, s, o, k, Int.le_refl _, ta, bd, hN, hW, hov, hB, hM, hR, ro, rfl⟩, ?_⟩
  clear s o k ta bd hN hW hov hB hM hR ro
  clear v
  rintro _ hh ⟨kk, a, v, hk1, hk2, hka, s, o, k, ha0, ta, bd, hN, hW, hov, hB, hM, hR, ro, rfl⟩
  have hle := k.le
  have hwt : IntKind.i64.wrap (tr + 1) = tr + 1 := wrap_i64 (by omega) (by omega)
  have hwk : IntKind.i64.wrap (kk - 1) = kk - 1 := wrap_i64 (by omega) (by omega)
  conv => whnf
  rw [hwt]
  refine br_mk (fun hx => ?_) (fun hx => ?_)
  rotate_left
  · conv => whnf
    have hx : ¬ kk ≤ tr + 1 := by simpa using hx
    have han := hka (by omega)
    have hroom : roomV v.W v.ov v.C.length = 16 := by
      have := (k.len o).1
      rw [hW, hov, roomV]
      simp
      omega
    refine (cRoom s o).mono ?_
    rintro _ h7 ⟨eh, rfl⟩
    subst eh
    rw [hroom]
    conv => whnf
    refine (awake39 _).mono ?_
    rintro _ h8 rfl
    conv => whnf
  have hx : kk ≤ tr + 1 := by simpa using hx
  conv => whnf
  rw [hwk]
  refine br_mk (fun hA => ?_) (fun hA => ?_)
  · conv => whnf
    rw [hwk]
    have hA : kk - 1 < m := by simpa using hA
    obtain ⟨jj, hjj⟩ : ∃ jj : Nat, kk - 1 = (jj : Int) := ⟨(kk - 1).toNat, by omega⟩
    have hjm : jj < m := by omega
    rw [hjj]
    obtain ⟨i1, c1, f1, f2⟩ := slo_get ro.is hjm
    refine ⟨i1, c1, jj, f1, rfl, hjm, ?_⟩
    conv => whnf
    refine ⟨_, f2, ?_⟩
    conv => whnf
    have hwn : IntKind.i64.wrap (n + 1) = n + 1 := wrap_i64 (by omega) (by omega)
    rw [hwn]
    refine (round19 (m := n + 1) (by omega) (by omega) (xs.getD jj 0) _).mono ?_
    rintro _ hR2 ⟨eh, rfl⟩
    subst eh
    have r0 := Int.emod_nonneg (xs.getD jj 0) (show n + 1 ≠ 0 by omega)
    have r1 := Int.emod_lt_of_pos (xs.getD jj 0) (show 0 < n + 1 by omega)
    generalize xs.getD jj 0 % (n + 1) = rr at r0 r1 ⊢
    conv => whnf
    obtain ⟨a2, ha2⟩ : ∃ a2, a2 = if rr > a then rr else a := ⟨_, rfl⟩
    rw [← ha2]
    have ha20 : 0 ≤ a2 ∧ a2 ≤ n ∧ a ≤ a2 := by
      rw [ha2]
      split <;> omega
    obtain ⟨z1, z2, z3, z4, z5⟩ := k.ack o a2
    have htk : a + tookV a v.N a2 = a2 := by
      rw [tookV, if_neg (by omega)]
      split <;> omega
    rw [htk] at z2
    have o2 := o.ack a2
    have ta2 := ta.ack a2
    have bd2 := bd.ack a2
    have hBMR : (ackV v a2).2.B = 4 ∧ (ackV v a2).2.M = 4 ∧ (ackV v a2).2.R = tr := by
      unfold ackV
      split <;> exact ⟨hB, hM, hR⟩
    refine (cAck s o a2).mono ?_
    rintro _ h4 ⟨rfl, s4, m4⟩
    have ro4 := ro.get m4
    rw [hN] at z3
    rw [hW] at z4
    rw [hov] at z5
    generalize (ackV v a2).2 = v2 at s4 z2 z3 z4 z5 o2 ta2 bd2 hBMR
    obtain ⟨b1, b2, b3⟩ := hBMR
    clear s o k ta bd hN hW hov hB hM hR ro
    conv => whnf
    have hwf : IntKind.i64.wrap (4 * kk) = 4 * kk := wrap_i64 (by omega) (by omega)
    rw [hwf]
    have hle2 := z2.le
    have hlk : ((keys v2.TS).length : Int) = n - a2 := by
      rw [keys_length]
      have := (z2.len o2).2
      omega
    by_cases hcase : kk ≤ tr ∨ a2 = n
    · obtain ⟨v3, e3, k3, ta3, c3, n3, w3, ov3, b3', m3', r3'⟩ := again_ok z2 o2 ta2 z5 b1 b2 (by rw [b3, z3]; omega)
      have o3 := o2.again (4 * kk)
      rw [e3] at o3
      have o3 : SOk v3 := o3
      refine (cAgain s4 o2 (now := 4 * kk) (by omega) (by omega)).mono ?_
      rintro _ h5 ⟨q5, rfl, r5, s5, m5⟩
      rw [e3] at r5 s5 ⊢
      have r5 : RoSl h5 q5 (keys v2.TS).length 1 (ints .i64 (keys v2.TS)) := r5
      have s5 : SdC h5 d v3 := s5
      have ro5 := ro4.get m5
      have hgetk : ∀ {y : Nat}, y < (keys v2.TS).length → (keys v2.TS).getD y 0 = a2 + (y : Int) := fun hy => rng_get o2.tasc z2.t hy
      obtain ⟨K, hK⟩ : ∃ K, K = keys v2.TS := ⟨_, rfl⟩
      rw [← hK] at r5 hgetk hlk
      rw [show (keys v2.TS) = K from hK.symm]
      have bd3 : BD v3 := fun x hx => bd2 x (by rw [← c3]; exact hx)
      clear e3
      conv => whnf
      refine ⟨_, rfl, ?_⟩
      conv => whnf
      refine ⟨_, rfl, ?_⟩
      conv => whnf
      refine br_mk (fun hC => ?_) (fun hC => ?_)
      · conv => whnf
        have hC : a2 < n := by simpa using hC
        refine br_mk (fun hD => ?_) (fun hD => ?_)
        · have hD : kk > tr := by simpa using hD
          omega
        conv => whnf
        rw [wrap_i64 (x := n - a2) (by omega) (by omega)]
        refine br_mk (fun hE => ?_) (fun hE => ?_)
        · exact absurd hE (by rw [hlk]; simp)
        conv => whnf
        refine ⟨fun env hk => ∃ (y : Nat) (zy : Int), y ≤ K.length ∧ zy = y ∧ SdC hk d v3 ∧ RoSl hk q5 K.length 1 (ints .i64 K) ∧ RoSl hk po m 1 (ints .i64 xs) ∧ env = [(18, i64 zy), (16, .sl q5 K.length), (15, i64 kk), (14, i64 a2), (0, i64 n), (1, .sl po m), (2, i64 tr), (9, .ptr (some (d.g, 0)))],
          fun env _ => match get env 18 with
            | .int _ z => (K.length - z).toNat
            | _ => 0, ⟨_, Forget.cons rfl (Forget.cons rfl (Forget.cons rfl (Forget.cons rfl (Forget.cons rfl (Forget.cons rfl (Forget.cons rfl (Forget.cons rfl (Forget.nil _)))))))), 0, _, Nat.zero_le _, rfl, s5, r5, ro5, rfl⟩, ?_⟩
        clear s5 r5 ro5
        rintro _ hM ⟨y, zy, hy, rfl, s5, r5, ro5, rfl⟩
        conv => whnf
        refine br_mk (fun hF => ?_) (fun hF => ?_)
        · conv => whnf
          have hF : y < K.length := by simpa using hF
          obtain ⟨i7, c7, g1, g2⟩ := slo_get r5.is hF
          rw [hgetk hF] at g2
          refine ⟨i7, c7, y, g1, rfl, hF, ?_⟩
          conv => whnf
          refine ⟨_, g2, ?_⟩
          conv => whnf
          have hin : a2 + (y : Int) ∈ keys v3.C := (k3.c _).2 (by omega)
          have hb3 := bd3.body o3 hin
          have hi3 : (sget v3.C (a2 + (y : Int))).isSome = true := sget_some.2 hin
          refine (cBody s5 o3 (a2 + (y : Int))).mono ?_
          rintro _ h6 ⟨q6, rfl, r6, m6⟩
          rw [hb3] at r6
          rw [hb3, hi3]
          have s6 := s5.old m6
          have ro6 := ro5.get m6
          have r56 := r5.get m6
          conv => whnf
          refine ⟨_, rfl, ?_⟩
          conv => whnf
          refine ⟨_, rfl, ?_⟩
          conv => whnf
          refine ⟨[0, 1, 2, 3, 4, 5, 6, 7, 8, 9, 10, 11, 12, 13, 14, 15, 16, 17, 18, 19, 20, 21, 22, 23], [0, 0, 3, 7, 0, 0, 48, 127, 255, 511, 1023, 2047, 4095, 8191, 16383, 8191, 8191, 106495, 237567, 499711, 1023999, 2072575, 4194303, 8388607], by kernel_rfl, ?_⟩
          conv => whnf
          obtain ⟨i8, c8, g3, g4⟩ := slo_get r56.is hF
          rw [hgetk hF] at g4
          refine ⟨i8, c8, y, g3, rfl, hF, ?_⟩
          conv => whnf
          refine ⟨_, g4, ?_⟩
          conv => whnf
          rw [wrap_i64 (x := a2 + (y : Int)) (by omega) (by omega)]
          refine br_mk (fun hG => ?_) (fun hG => ?_)
          · exact absurd hG (by simp)
          conv => whnf
          refine ⟨_, r6.is, (fun x hx2 => by
            have : x = a2 + (y : Int) := by simpa using hx2
            omega), ?_⟩
          conv => whnf
          refine ⟨i8, c8, y, g3, rfl, hF, ?_⟩
          conv => whnf
          refine ⟨_, g4, ?_⟩
          conv => whnf
          have u8 : IntKind.u8.wrap (a2 + (y : Int)) = a2 + (y : Int) := by rw [wrap_u8_eq]; omega
          rw [u8]
          obtain ⟨l7, n7⟩ := laid_oct h6 [a2 + (y : Int)]
          refine ⟨_, l7, (fun x hx2 => by
            have : x = a2 + (y : Int) := by simpa using hx2
            omega), ?_⟩
          conv => whnf
          refine br_mk (fun hG => ?_) (fun hG => ?_)
          · exact absurd hG (by simp)
          conv => whnf
          have hwy : IntKind.i64.wrap ((y : Int) + 1) = ((y + 1 : Nat) : Int) := by rw [wrap_i64 (by omega) (by omega)]; omega
          rw [hwy]
          refine ⟨_, Forget.cons rfl (Forget.cons rfl (Forget.cons rfl (Forget.cons rfl (Forget.cons rfl (Forget.cons rfl (Forget.cons rfl (Forget.cons rfl (Forget.nil _)))))))), ⟨y + 1, _, by omega, rfl, s6.old n7, r56.get n7, ro6.get n7, rfl⟩, ?_⟩
          show ((K.length : Int) - ((y + 1 : Nat) : Int)).toNat < ((K.length : Int) - (y : Int)).toNat
          omega
        conv => whnf
        rw [wrap_i64 (x := kk + 1) (by omega) (by omega)]
        refine ⟨_, Forget.cons rfl (Forget.cons rfl (Forget.cons rfl (Forget.cons rfl (Forget.cons rfl (Forget.cons rfl (Forget.nil _)))))), ⟨kk + 1, a2, v3, by omega, by omega, by omega, s5, o3, k3, by omega, ta3, bd3, by omega, by omega, ov3, b3', m3', by omega, ro5, rfl⟩, ?_⟩
        show (tr + 2 - (kk + 1)).toNat < (tr + 2 - kk).toNat
        omega
      · conv => whnf
        rw [wrap_i64 (x := n - a2) (by omega) (by omega)]
        refine br_mk (fun hE => ?_) (fun hE => ?_)
        · exact absurd hE (by rw [hlk]; simp)
        conv => whnf
        refine ⟨fun env hk => ∃ (y : Nat) (zy : Int), y ≤ K.length ∧ zy = y ∧ SdC hk d v3 ∧ RoSl hk q5 K.length 1 (ints .i64 K) ∧ RoSl hk po m 1 (ints .i64 xs) ∧ env = [(18, i64 zy), (16, .sl q5 K.length), (15, i64 kk), (14, i64 a2), (0, i64 n), (1, .sl po m), (2, i64 tr), (9, .ptr (some (d.g, 0)))],
          fun env _ => match get env 18 with
            | .int _ z => (K.length - z).toNat
            | _ => 0, ⟨_, Forget.cons rfl (Forget.cons rfl (Forget.cons rfl (Forget.cons rfl (Forget.cons rfl (Forget.cons rfl (Forget.cons rfl (Forget.cons rfl (Forget.nil _)))))))), 0, _, Nat.zero_le _, rfl, s5, r5, ro5, rfl⟩, ?_⟩
        clear s5 r5 ro5
        rintro _ hM ⟨y, zy, hy, rfl, s5, r5, ro5, rfl⟩
        conv => whnf
        refine br_mk (fun hF => ?_) (fun hF => ?_)
        · conv => whnf
          have hF : y < K.length := by simpa using hF
          obtain ⟨i7, c7, g1, g2⟩ := slo_get r5.is hF
          rw [hgetk hF] at g2
          refine ⟨i7, c7, y, g1, rfl, hF, ?_⟩
          conv => whnf
          refine ⟨_, g2, ?_⟩
          conv => whnf
          have hin : a2 + (y : Int) ∈ keys v3.C := (k3.c _).2 (by omega)
          have hb3 := bd3.body o3 hin
          have hi3 : (sget v3.C (a2 + (y : Int))).isSome = true := sget_some.2 hin
          refine (cBody s5 o3 (a2 + (y : Int))).mono ?_
          rintro _ h6 ⟨q6, rfl, r6, m6⟩
          rw [hb3] at r6
          rw [hb3, hi3]
          have s6 := s5.old m6
          have ro6 := ro5.get m6
          have r56 := r5.get m6
          conv => whnf
          refine ⟨_, rfl, ?_⟩
          conv => whnf
          refine ⟨_, rfl, ?_⟩
          conv => whnf
          refine ⟨[0, 1, 2, 3, 4, 5, 6, 7, 8, 9, 10, 11, 12, 13, 14, 15, 16, 17, 18, 19, 20, 21, 22, 23], [0, 0, 3, 7, 0, 0, 48, 127, 255, 511, 1023, 2047, 4095, 8191, 16383, 8191, 8191, 106495, 237567, 499711, 1023999, 2072575, 4194303, 8388607], by kernel_rfl, ?_⟩
          conv => whnf
          obtain ⟨i8, c8, g3, g4⟩ := slo_get r56.is hF
          rw [hgetk hF] at g4
          refine ⟨i8, c8, y, g3, rfl, hF, ?_⟩
          conv => whnf
          refine ⟨_, g4, ?_⟩
          conv => whnf
          rw [wrap_i64 (x := a2 + (y : Int)) (by omega) (by omega)]
          refine br_mk (fun hG => ?_) (fun hG => ?_)
          · exact absurd hG (by simp)
          conv => whnf
          refine ⟨_, r6.is, (fun x hx2 => by
            have : x = a2 + (y : Int) := by simpa using hx2
            omega), ?_⟩
          conv => whnf
          refine ⟨i8, c8, y, g3, rfl, hF, ?_⟩
          conv => whnf
          refine ⟨_, g4, ?_⟩
          conv => whnf
          have u8 : IntKind.u8.wrap (a2 + (y : Int)) = a2 + (y : Int) := by rw [wrap_u8_eq]; omega
          rw [u8]
          obtain ⟨l7, n7⟩ := laid_oct h6 [a2 + (y : Int)]
          refine ⟨_, l7, (fun x hx2 => by
            have : x = a2 + (y : Int) := by simpa using hx2
            omega), ?_⟩
          conv => whnf
          refine br_mk (fun hG => ?_) (fun hG => ?_)
          · exact absurd hG (by simp)
          conv => whnf
          have hwy : IntKind.i64.wrap ((y : Int) + 1) = ((y + 1 : Nat) : Int) := by rw [wrap_i64 (by omega) (by omega)]; omega
          rw [hwy]
          refine ⟨_, Forget.cons rfl (Forget.cons rfl (Forget.cons rfl (Forget.cons rfl (Forget.cons rfl (Forget.cons rfl (Forget.cons rfl (Forget.cons rfl (Forget.nil _)))))))), ⟨y + 1, _, by omega, rfl, s6.old n7, r56.get n7, ro6.get n7, rfl⟩, ?_⟩
          show ((K.length : Int) - ((y + 1 : Nat) : Int)).toNat < ((K.length : Int) - (y : Int)).toNat
          omega
        conv => whnf
        rw [wrap_i64 (x := kk + 1) (by omega) (by omega)]
        refine ⟨_, Forget.cons rfl (Forget.cons rfl (Forget.cons rfl (Forget.cons rfl (Forget.cons rfl (Forget.cons rfl (Forget.nil _)))))), ⟨kk + 1, a2, v3, by omega, by omega, by omega, s5, o3, k3, by omega, ta3, bd3, by omega, by omega, ov3, b3', m3', by omega, ro5, rfl⟩, ?_⟩
        show (tr + 2 - (kk + 1)).toNat < (tr + 2 - kk).toNat
        omega
    · have ha1 : a2 < n := by omega
      obtain ⟨v3, e3, ov3⟩ := z2.over ta2 z5 (by rw [b3]; omega) (by rw [z3]; exact ha1)
      have o3 := o2.again (4 * kk)
      rw [e3] at o3
      have o3 : SOk v3 := o3
      refine (cAgain s4 o2 (now := 4 * kk) (by omega) (by omega)).mono ?_
      rintro _ h5 ⟨q5, rfl, r5, s5, m5⟩
      rw [e3] at r5 s5 ⊢
      have s5 : SdC h5 d v3 := s5
      conv => whnf
      refine ⟨_, rfl, ?_⟩
      conv => whnf
      refine ⟨_, rfl, ?_⟩
      conv => whnf
      refine br_mk (fun hC => ?_) (fun hC => ?_)
      rotate_left
      · have hC : ¬ a2 < n := by simpa using hC
        omega
      conv => whnf
      refine br_mk (fun hD => ?_) (fun hD => ?_)
      rotate_left
      · have hD : ¬ kk > tr := by simpa using hD
        omega
      conv => whnf
      have hroom : roomV v3.W v3.ov v3.C.length = 0 := by
        rw [ov3, roomV]
        rfl
      refine (cRoom s5 o3).mono ?_
      rintro _ h7 ⟨eh, rfl⟩
      subst eh
      rw [hroom]
      conv => whnf
      refine (awake39 _).mono ?_
      rintro _ h8 rfl
      conv => whnf
  · conv => whnf
    have hwf : IntKind.i64.wrap (4 * kk) = 4 * kk := wrap_i64 (by omega) (by omega)
    rw [hwf]
    have hle2 := k.le
    have hlk : ((keys v.TS).length : Int) = n - a := by
      rw [keys_length]
      have := (k.len o).2
      omega
    by_cases hcase : kk ≤ tr ∨ a = n
    · obtain ⟨v3, e3, k3, ta3, c3, n3, w3, ov3, b3', m3', r3'⟩ := again_ok k o ta hov hB hM (by rw [hR, hN]; omega)
      have o3 := o.again (4 * kk)
      rw [e3] at o3
      have o3 : SOk v3 := o3
      refine (cAgain s o (now := 4 * kk) (by omega) (by omega)).mono ?_
      rintro _ h5 ⟨q5, rfl, r5, s5, m5⟩
      rw [e3] at r5 s5 ⊢
      have r5 : RoSl h5 q5 (keys v.TS).length 1 (ints .i64 (keys v.TS)) := r5
      have s5 : SdC h5 d v3 := s5
      have ro5 := ro.get m5
      have hgetk : ∀ {y : Nat}, y < (keys v.TS).length → (keys v.TS).getD y 0 = a + (y : Int) := fun hy => rng_get o.tasc k.t hy
      obtain ⟨K, hK⟩ : ∃ K, K = keys v.TS := ⟨_, rfl⟩
      rw [← hK] at r5 hgetk hlk
      rw [show (keys v.TS) = K from hK.symm]
      have bd3 : BD v3 := fun x hx => bd x (by rw [← c3]; exact hx)
      clear e3
      conv => whnf
      refine ⟨_, rfl, ?_⟩
      conv => whnf
      refine ⟨_, rfl, ?_⟩
      conv => whnf
      refine br_mk (fun hC => ?_) (fun hC => ?_)
      · conv => whnf
        have hC : a < n := by simpa using hC
        refine br_mk (fun hD => ?_) (fun hD => ?_)
        · have hD : kk > tr := by simpa using hD
          omega
        conv => whnf
        rw [wrap_i64 (x := n - a) (by omega) (by omega)]
        refine br_mk (fun hE => ?_) (fun hE => ?_)
        · exact absurd hE (by rw [hlk]; simp)
        conv => whnf
        refine ⟨fun env hk => ∃ (y : Nat) (zy : Int), y ≤ K.length ∧ zy = y ∧ SdC hk d v3 ∧ RoSl hk q5 K.length 1 (ints .i64 K) ∧ RoSl hk po m 1 (ints .i64 xs) ∧ env = [(18, i64 zy), (16, .sl q5 K.length), (15, i64 kk), (14, i64 a), (0, i64 n), (1, .sl po m), (2, i64 tr), (9, .ptr (some (d.g, 0)))],
          fun env _ => match get env 18 with
            | .int _ z => (K.length - z).toNat
            | _ => 0, ⟨_, Forget.cons rfl (Forget.cons rfl (Forget.cons rfl (Forget.cons rfl (Forget.cons rfl (Forget.cons rfl (Forget.cons rfl (Forget.cons rfl (Forget.nil _)))))))), 0, _, Nat.zero_le _, rfl, s5, r5, ro5, rfl⟩, ?_⟩
        clear s5 r5 ro5
        rintro _ hM ⟨y, zy, hy, rfl, s5, r5, ro5, rfl⟩
        conv => whnf
        refine br_mk (fun hF => ?_) (fun hF => ?_)
        · conv => whnf
          have hF : y < K.length := by simpa using hF
          obtain ⟨i7, c7, g1, g2⟩ := slo_get r5.is hF
          rw [hgetk hF] at g2
          refine ⟨i7, c7, y, g1, rfl, hF, ?_⟩
          conv => whnf
          refine ⟨_, g2, ?_⟩
          conv => whnf
          have hin : a + (y : Int) ∈ keys v3.C := (k3.c _).2 (by omega)
          have hb3 := bd3.body o3 hin
          have hi3 : (sget v3.C (a + (y : Int))).isSome = true := sget_some.2 hin
          refine (cBody s5 o3 (a + (y : Int))).mono ?_
          rintro _ h6 ⟨q6, rfl, r6, m6⟩
          rw [hb3] at r6
          rw [hb3, hi3]
          have s6 := s5.old m6
          have ro6 := ro5.get m6
          have r56 := r5.get m6
          conv => whnf
          refine ⟨_, rfl, ?_⟩
          conv => whnf
          refine ⟨_, rfl, ?_⟩
          conv => whnf
          refine ⟨[0, 1, 2, 3, 4, 5, 6, 7, 8, 9, 10, 11, 12, 13, 14, 15, 16, 17, 18, 19, 20, 21, 22, 23], [0, 0, 3, 7, 0, 0, 48, 127, 255, 511, 1023, 2047, 4095, 8191, 16383, 8191, 8191, 106495, 237567, 499711, 1023999, 2072575, 4194303, 8388607], by kernel_rfl, ?_⟩
          conv => whnf
          obtain ⟨i8, c8, g3, g4⟩ := slo_get r56.is hF
          rw [hgetk hF] at g4
          refine ⟨i8, c8, y, g3, rfl, hF, ?_⟩
          conv => whnf
          refine ⟨_, g4, ?_⟩
          conv => whnf
          rw [wrap_i64 (x := a + (y : Int)) (by omega) (by omega)]
          refine br_mk (fun hG => ?_) (fun hG => ?_)
          · exact absurd hG (by simp)
          conv => whnf
          refine ⟨_, r6.is, (fun x hx2 => by
            have : x = a + (y : Int) := by simpa using hx2
            omega), ?_⟩
          conv => whnf
          refine ⟨i8, c8, y, g3, rfl, hF, ?_⟩
          conv => whnf
          refine ⟨_, g4, ?_⟩
          conv => whnf
          have u8 : IntKind.u8.wrap (a + (y : Int)) = a + (y : Int) := by rw [wrap_u8_eq]; omega
          rw [u8]
          obtain ⟨l7, n7⟩ := laid_oct h6 [a + (y : Int)]
          refine ⟨_, l7, (fun x hx2 => by
            have : x = a + (y : Int) := by simpa using hx2
            omega), ?_⟩
          conv => whnf
          refine br_mk (fun hG => ?_) (fun hG => ?_)
          · exact absurd hG (by simp)
          conv => whnf
          have hwy : IntKind.i64.wrap ((y : Int) + 1) = ((y + 1 : Nat) : Int) := by rw [wrap_i64 (by omega) (by omega)]; omega
          rw [hwy]
          refine ⟨_, Forget.cons rfl (Forget.cons rfl (Forget.cons rfl (Forget.cons rfl (Forget.cons rfl (Forget.cons rfl (Forget.cons rfl (Forget.cons rfl (Forget.nil _)))))))), ⟨y + 1, _, by omega, rfl, s6.old n7, r56.get n7, ro6.get n7, rfl⟩, ?_⟩
          show ((K.length : Int) - ((y + 1 : Nat) : Int)).toNat < ((K.length : Int) - (y : Int)).toNat
          omega
        conv => whnf
        rw [wrap_i64 (x := kk + 1) (by omega) (by omega)]
        refine ⟨_, Forget.cons rfl (Forget.cons rfl (Forget.cons rfl (Forget.cons rfl (Forget.cons rfl (Forget.cons rfl (Forget.nil _)))))), ⟨kk + 1, a, v3, by omega, by omega, by omega, s5, o3, k3, by omega, ta3, bd3, by omega, by omega, ov3, b3', m3', by omega, ro5, rfl⟩, ?_⟩
        show (tr + 2 - (kk + 1)).toNat < (tr + 2 - kk).toNat
        omega
      · conv => whnf
        rw [wrap_i64 (x := n - a) (by omega) (by omega)]
        refine br_mk (fun hE => ?_) (fun hE => ?_)
        · exact absurd hE (by rw [hlk]; simp)
        conv => whnf
        refine ⟨fun env hk => ∃ (y : Nat) (zy : Int), y ≤ K.length ∧ zy = y ∧ SdC hk d v3 ∧ RoSl hk q5 K.length 1 (ints .i64 K) ∧ RoSl hk po m 1 (ints .i64 xs) ∧ env = [(18, i64 zy), (16, .sl q5 K.length), (15, i64 kk), (14, i64 a), (0, i64 n), (1, .sl po m), (2, i64 tr), (9, .ptr (some (d.g, 0)))],
          fun env _ => match get env 18 with
            | .int _ z => (K.length - z).toNat
            | _ => 0, ⟨_, Forget.cons rfl (Forget.cons rfl (Forget.cons rfl (Forget.cons rfl (Forget.cons rfl (Forget.cons rfl (Forget.cons rfl (Forget.cons rfl (Forget.nil _)))))))), 0, _, Nat.zero_le _, rfl, s5, r5, ro5, rfl⟩, ?_⟩
        clear s5 r5 ro5
        rintro _ hM ⟨y, zy, hy, rfl, s5, r5, ro5, rfl⟩
        conv => whnf
        refine br_mk (fun hF => ?_) (fun hF => ?_)
        · conv => whnf
          have hF : y < K.length := by simpa using hF
          obtain ⟨i7, c7, g1, g2⟩ := slo_get r5.is hF
          rw [hgetk hF] at g2
          refine ⟨i7, c7, y, g1, rfl, hF, ?_⟩
          conv => whnf
          refine ⟨_, g2, ?_⟩
          conv => whnf
          have hin : a + (y : Int) ∈ keys v3.C := (k3.c _).2 (by omega)
          have hb3 := bd3.body o3 hin
          have hi3 : (sget v3.C (a + (y : Int))).isSome = true := sget_some.2 hin
          refine (cBody s5 o3 (a + (y : Int))).mono ?_
          rintro _ h6 ⟨q6, rfl, r6, m6⟩
          rw [hb3] at r6
          rw [hb3, hi3]
          have s6 := s5.old m6
          have ro6 := ro5.get m6
          have r56 := r5.get m6
          conv => whnf
          refine ⟨_, rfl, ?_⟩
          conv => whnf
          refine ⟨_, rfl, ?_⟩
          conv => whnf
          refine ⟨[0, 1, 2, 3, 4, 5, 6, 7, 8, 9, 10, 11, 12, 13, 14, 15, 16, 17, 18, 19, 20, 21, 22, 23], [0, 0, 3, 7, 0, 0, 48, 127, 255, 511, 1023, 2047, 4095, 8191, 16383, 8191, 8191, 106495, 237567, 499711, 1023999, 2072575, 4194303, 8388607], by kernel_rfl, ?_⟩
          conv => whnf
          obtain ⟨i8, c8, g3, g4⟩ := slo_get r56.is hF
          rw [hgetk hF] at g4
          refine ⟨i8, c8, y, g3, rfl, hF, ?_⟩
          conv => whnf
          refine ⟨_, g4, ?_⟩
          conv => whnf
          rw [wrap_i64 (x := a + (y : Int)) (by omega) (by omega)]
          refine br_mk (fun hG => ?_) (fun hG => ?_)
          · exact absurd hG (by simp)
          conv => whnf
          refine ⟨_, r6.is, (fun x hx2 => by
            have : x = a + (y : Int) := by simpa using hx2
            omega), ?_⟩
          conv => whnf
          refine ⟨i8, c8, y, g3, rfl, hF, ?_⟩
          conv => whnf
          refine ⟨_, g4, ?_⟩
          conv => whnf
          have u8 : IntKind.u8.wrap (a + (y : Int)) = a + (y : Int) := by rw [wrap_u8_eq]; omega
          rw [u8]
          obtain ⟨l7, n7⟩ := laid_oct h6 [a + (y : Int)]
          refine ⟨_, l7, (fun x hx2 => by
            have : x = a + (y : Int) := by simpa using hx2
            omega), ?_⟩
          conv => whnf
          refine br_mk (fun hG => ?_) (fun hG => ?_)
          · exact absurd hG (by simp)
          conv => whnf
          have hwy : IntKind.i64.wrap ((y : Int) + 1) = ((y + 1 : Nat) : Int) := by rw [wrap_i64 (by omega) (by omega)]; omega
          rw [hwy]
          refine ⟨_, Forget.cons rfl (Forget.cons rfl (Forget.cons rfl (Forget.cons rfl (Forget.cons rfl (Forget.cons rfl (Forget.cons rfl (Forget.cons rfl (Forget.nil _)))))))), ⟨y + 1, _, by omega, rfl, s6.old n7, r56.get n7, ro6.get n7, rfl⟩, ?_⟩
          show ((K.length : Int) - ((y + 1 : Nat) : Int)).toNat < ((K.length : Int) - (y : Int)).toNat
          omega
        conv => whnf
        rw [wrap_i64 (x := kk + 1) (by omega) (by omega)]
        refine ⟨_, Forget.cons rfl (Forget.cons rfl (Forget.cons rfl (Forget.cons rfl (Forget.cons rfl (Forget.cons rfl (Forget.nil _)))))), ⟨kk + 1, a, v3, by omega, by omega, by omega, s5, o3, k3, by omega, ta3, bd3, by omega, by omega, ov3, b3', m3', by omega, ro5, rfl⟩, ?_⟩
        show (tr + 2 - (kk + 1)).toNat < (tr + 2 - kk).toNat
        omega
    · have ha1 : a < n := by omega
      obtain ⟨v3, e3, ov3⟩ := k.over ta hov (by rw [hR]; omega) (by rw [hN]; exact ha1)
      have o3 := o.again (4 * kk)
      rw [e3] at o3
      have o3 : SOk v3 := o3
      refine (cAgain s o (now := 4 * kk) (by omega) (by omega)).mono ?_
      rintro _ h5 ⟨q5, rfl, r5, s5, m5⟩
      rw [e3] at r5 s5 ⊢
      have s5 : SdC h5 d v3 := s5
      conv => whnf
      refine ⟨_, rfl, ?_⟩
      conv => whnf
      refine ⟨_, rfl, ?_⟩
      conv => whnf
      refine br_mk (fun hC => ?_) (fun hC => ?_)
      rotate_left
      · have hC : ¬ a < n := by simpa using hC
        omega
      conv => whnf
      refine br_mk (fun hD => ?_) (fun hD => ?_)
      rotate_left
      · have hD : ¬ kk > tr := by simpa using hD
        omega
      conv => whnf
      have hroom : roomV v3.W v3.ov v3.C.length = 0 := by
        rw [ov3, roomV]
        rfl
      refine (cRoom s5 o3).mono ?_
      rintro _ h7 ⟨eh, rfl⟩
      subst eh
      rw [hroom]
      conv => whnf
      refine (awake39 _).mono ?_
      rintro _ h8 rfl
      conv => whnf
end Go.Proofs.Ytoljllfbabahpaa
