/- SenderWindow: its walk. -/
import Derived.Test.YtoljllfbabahpaaU16
set_option linter.unusedVariables false
namespace Go.Proofs.Ytoljllfbabahpaa
open Go Go.Ab
theorem wrap_u8_eq (x : Int) : IntKind.u8.wrap x = x % 256 := by simp [IntKind.wrap, IntKind.bits, IntKind.signed]
set_option maxHeartbeats 2000000 in
theorem window10 {h : H} {po : Option (Nat × Nat)} {m : Nat} {xs : List Int} (ro : RoSl h po m 1 (ints .i64 xs)) (hx64 : ∀ x ∈ xs, inI x) (W : Int) : ACalls Try.prog 10 [i64 W, .sl po m] h (fun r _ => r = .bool true) := by
  have hm := slo_len ro.is
  refine call_ Try.func10 rfl rfl (by kernel_rfl) ?_
  conv => whnf
  refine br_mk (fun ha => ?_) (fun ha => ?_)
  · conv => whnf
    refine (awake39 h).mono ?_
    rintro _ h1 rfl
    conv => whnf
  conv => whnf
  have ha : ¬ W < 1 := by simpa using ha
  refine br_mk (fun hb => ?_) (fun hb => ?_)
  · conv => whnf
    refine (awake39 h).mono ?_
    rintro _ h1 rfl
    conv => whnf
  conv => whnf
  have hb : ¬ W > 16 := by simpa using hb
  refine br_mk (fun he => ?_) (fun he => ?_)
  · conv => whnf
    refine (awake39 h).mono ?_
    rintro _ h1 rfl
    conv => whnf
  conv => whnf
  have he : m ≤ 100 := by
    have : ¬ (m : Int) > 100 := by simpa using he
    omega
  have hWb : 1 ≤ W ∧ W ≤ 16 := by omega
  have ok : okW W = true := by rw [okW, decide_eq_true hWb.1, decide_eq_true hWb.2]; rfl
  refine (new22 h 900 900 0).mono ?_
  rintro _ h1 q
  obtain ⟨tg, tmi, rfl, t1, _, _, m1⟩ := newT_yes q rfl
  clear q
  conv => whnf
  refine ⟨_, rfl, ?_⟩
  conv => whnf
  refine ⟨_, rfl, ?_⟩
  conv => whnf
  refine (sNew t1 W).mono ?_
  rintro _ h3 q
  obtain ⟨d, rfl, rfl, rfl, s1, _, _, m3⟩ := newS_yes q ok
  clear q
  have o1 : SOk ⟨W, 0, false, [], 900, 900, 0, []⟩ := new_ok ok rfl
  have k1 := KR.new W 900 900 0
  have ro := (ro.get m1).get m3
  conv => whnf
  refine ⟨_, rfl, ?_⟩
  conv => whnf
  refine ⟨_, rfl, ?_⟩
  conv => whnf
  refine ⟨fun env hk => ∃ (j : Nat) (zj a nn : Int) (v : SV), j ≤ m ∧ zj = j ∧ SdC hk d v ∧ SOk v ∧ KR v a ∧ 0 ≤ a ∧ v.N = nn ∧ nn ≤ j ∧ v.W = W ∧ v.ov = false ∧ RoSl hk po m 1 (ints .i64 xs) ∧ env = [(11, i64 zj), (9, i64 nn), (10, i64 a), (0, i64 W), (1, .sl po m), (7, .ptr (some (d.g, 0)))],
    fun env _ => match get env 11 with
      | .int _ z => (m - z).toNat
      | _ => 0, ⟨_, Forget.cons rfl (Forget.cons rfl (Forget.cons rfl (Forget.cons rfl (Forget.cons rfl (Forget.cons rfl (Forget.nil _)))))), 0, _, 0, 0, _, Nat.zero_le _, rfl, s1, o1, k1, Int.le_refl _, rfl, Int.le_refl _, rfl, rfl, ro, rfl⟩, ?_⟩
  clear ro s1 o1 k1 t1 m1 m3
  rintro _ hh ⟨j, zj, a, nn, v, hj, rfl, s, o, k, ha0, hN, hnj, hW, hov, ro, rfl⟩
  have hle := k.le
  have hlen := (k.len o).1
  have hwin := o.len
  conv => whnf
  refine br_mk (fun hx => ?_) (fun hx => ?_)
  rotate_left
  · conv => whnf
    refine (awake39 _).mono ?_
    rintro _ h3 rfl
    conv => whnf
  conv => whnf
  have hx : j < m := by simpa using hx
  obtain ⟨i1, c1, f1, f2⟩ := slo_get ro.is hx
  refine ⟨i1, c1, j, f1, rfl, hx, ?_⟩
  conv => whnf
  refine ⟨_, f2, ?_⟩
  conv => whnf
  refine ⟨by decide, ?_⟩
  conv => whnf
  refine br_mk (fun hA => ?_) (fun hA => ?_)
  · conv => whnf
    refine ⟨i1, c1, j, f1, rfl, hx, ?_⟩
    conv => whnf
    refine ⟨_, f2, ?_⟩
    conv => whnf
    refine ⟨by decide, ?_⟩
    conv => whnf
    have hw2 : IntKind.i64.wrap (W + 2) = W + 2 := wrap_i64 (by omega) (by omega)
    rw [hw2]
    refine (round19 (m := W + 2) (by omega) (by omega) (IntKind.i64.wrap ((xs.getD j 0).tdiv 3)) _).mono ?_
    rintro _ hR ⟨eh, rfl⟩
    subst eh
    have r0 := Int.emod_nonneg (IntKind.i64.wrap ((xs.getD j 0).tdiv 3)) (show W + 2 ≠ 0 by omega)
    have r1 := Int.emod_lt_of_pos (IntKind.i64.wrap ((xs.getD j 0).tdiv 3)) (show 0 < W + 2 by omega)
    generalize IntKind.i64.wrap ((xs.getD j 0).tdiv 3) % (W + 2) = rr at r0 r1 ⊢
    conv => whnf
    rw [wrap_i64 (x := a + rr) (by omega) (by omega)]
    obtain ⟨z1, z2, z3, z4, z5⟩ := k.ack o (a + rr)
    have o2 := o.ack (a + rr)
    refine (cAck s o (a + rr)).mono ?_
    rintro _ h4 ⟨rfl, s4, m4⟩
    rw [z1]
    have ro4 := ro.get m4
    generalize (ackV v (a + rr)).2 = v2 at s4 z2 z3 z4 z5 o2 ⊢
    conv => whnf
    rw [wrap_i64 (x := a + rr - a) (by omega) (by omega)]
    refine br_mk (fun hB => ?_) (fun hB => ?_)
    · have hB : a + rr > nn := by simpa using hB
      have htk : tookV a v.N (a + rr) = 0 := by rw [tookV, if_pos (by omega)]
      rw [htk] at z2 ⊢
      conv => whnf
      rw [wrap_i64 (x := a + 0) (by omega) (by omega)]
      have hNN : v2.N = nn := by omega
      have hWW : v2.W = W := by omega
      have hvv : v2.ov = false := by first | assumption | (rw [z5]; exact hov)
      have hL := (z2.len o2)
      have hroom : roomV v2.W v2.ov v2.C.length = W - (nn - ((a + 0))) := by
        rw [hWW, hvv, roomV]
        simp
        omega
      refine (cRoom s4 o2).mono ?_
      rintro _ h7 ⟨eh, rfl⟩
      subst eh
      rw [hroom]
      conv => whnf
      rw [wrap_i64 (x := nn - ((a + 0))) (by omega) (by omega), wrap_i64 (x := W - (nn - ((a + 0)))) (by omega) (by omega)]
      refine br_mk (fun hI => ?_) (fun hI => ?_)
      · exact absurd hI (by simp)
      conv => whnf
      refine (cSeq s4).mono ?_
      rintro _ h7 ⟨eh, rfl⟩
      subst eh
      rw [hNN]
      conv => whnf
      refine br_mk (fun hI => ?_) (fun hI => ?_)
      · exact absurd hI (by simp)
      conv => whnf
      refine ⟨_, s4.cell0, ?_⟩
      conv => whnf
      refine (cLen s4).mono ?_
      rintro _ h7 ⟨eh, rfl⟩
      subst eh
      conv => whnf
      rw [wrap_i64 (x := nn - ((a + 0))) (by omega) (by omega)]
      refine br_mk (fun hI => ?_) (fun hI => ?_)
      · exact absurd hI (by
          have : (v2.TS.length : Int) = nn - ((a + 0)) := by omega
          rw [this]
          simp)
      conv => whnf
      have hwj : IntKind.i64.wrap ((j : Int) + 1) = ((j + 1 : Nat) : Int) := by rw [wrap_i64 (by omega) (by omega)]; omega
      rw [hwj]
      refine ⟨_, Forget.cons rfl (Forget.cons rfl (Forget.cons rfl (Forget.cons rfl (Forget.cons rfl (Forget.cons rfl (Forget.nil _)))))), ⟨j + 1, _, (a + 0), nn, v2, by omega, rfl, s4, o2, z2, by omega, hNN, by omega, hWW, hvv, ro4, rfl⟩, ?_⟩
      show ((m : Int) - ((j + 1 : Nat) : Int)).toNat < ((m : Int) - (j : Int)).toNat
      omega
    · have hB : ¬ a + rr > nn := by simpa using hB
      have htk : tookV a v.N (a + rr) = a + rr - a := by
        rw [tookV, if_neg (by omega)]
        split <;> omega
      rw [htk] at z2 ⊢
      conv => whnf
      refine br_mk (fun hC => ?_) (fun hC => ?_)
      · exact absurd hC (by simp)
      conv => whnf
      rw [wrap_i64 (x := a + (a + rr - a)) (by omega) (by omega)]
      have hNN : v2.N = nn := by omega
      have hWW : v2.W = W := by omega
      have hvv : v2.ov = false := by first | assumption | (rw [z5]; exact hov)
      have hL := (z2.len o2)
      have hroom : roomV v2.W v2.ov v2.C.length = W - (nn - ((a + (a + rr - a)))) := by
        rw [hWW, hvv, roomV]
        simp
        omega
      refine (cRoom s4 o2).mono ?_
      rintro _ h7 ⟨eh, rfl⟩
      subst eh
      rw [hroom]
      conv => whnf
      rw [wrap_i64 (x := nn - ((a + (a + rr - a)))) (by omega) (by omega), wrap_i64 (x := W - (nn - ((a + (a + rr - a))))) (by omega) (by omega)]
      refine br_mk (fun hI => ?_) (fun hI => ?_)
      · exact absurd hI (by simp)
      conv => whnf
      refine (cSeq s4).mono ?_
      rintro _ h7 ⟨eh, rfl⟩
      subst eh
      rw [hNN]
      conv => whnf
      refine br_mk (fun hI => ?_) (fun hI => ?_)
      · exact absurd hI (by simp)
      conv => whnf
      refine ⟨_, s4.cell0, ?_⟩
      conv => whnf
      refine (cLen s4).mono ?_
      rintro _ h7 ⟨eh, rfl⟩
      subst eh
      conv => whnf
      rw [wrap_i64 (x := nn - ((a + (a + rr - a)))) (by omega) (by omega)]
      refine br_mk (fun hI => ?_) (fun hI => ?_)
      · exact absurd hI (by
          have : (v2.TS.length : Int) = nn - ((a + (a + rr - a))) := by omega
          rw [this]
          simp)
      conv => whnf
      have hwj : IntKind.i64.wrap ((j : Int) + 1) = ((j + 1 : Nat) : Int) := by rw [wrap_i64 (by omega) (by omega)]; omega
      rw [hwj]
      refine ⟨_, Forget.cons rfl (Forget.cons rfl (Forget.cons rfl (Forget.cons rfl (Forget.cons rfl (Forget.cons rfl (Forget.nil _)))))), ⟨j + 1, _, (a + (a + rr - a)), nn, v2, by omega, rfl, s4, o2, z2, by omega, hNN, by omega, hWW, hvv, ro4, rfl⟩, ?_⟩
      show ((m : Int) - ((j + 1 : Nat) : Int)).toNat < ((m : Int) - (j : Int)).toNat
      omega
  · conv => whnf
    have u1 : IntKind.u8.wrap (j : Int) = j := by rw [wrap_u8_eq]; omega
    have hnn : 0 ≤ nn := by omega
    have u2 : IntKind.u8.wrap nn = nn := by rw [wrap_u8_eq]; omega
    rw [u1, u2]
    obtain ⟨l2, n2⟩ := laid_oct hh [(j : Int), nn]
    have hob : (hh.push (.row true 1 (ints .u8 [(j : Int), nn]))).obj hh.next = some (.row true 1 (ints .u8 [(j : Int), nn])) := H.obj_push_new _ _
    refine (cSend (s.old n2) o (by omega) (now := 0) (by decide) (by decide) l2 (laid_ne s (Nat.le_refl _)) (by simp)).mono ?_
    rintro _ h4 ⟨rfl, s4, m4⟩
    have o2 := o.send 0 (body := [(j : Int), nn]) (by simp)
    have hnd : ¬ d.all hh.next := fun q => by
      have := s.lt q
      omega
    have hob4 := m4.get hob (.inl hnd)
    have m5 : Ab.Mod (one hh.next) h4 (h4.set hh.next (.row true 1 [.int .u8 255, .int .u8 nn])) := Mod.set rfl hob4 rfl
    have s5 := s4.get m5 (fun i hi e => hnd (by have : i = hh.next := e; rw [← this]; exact hi))
    have ro5 := ((ro.get n2).get m4).get m5
    by_cases hf : v.N - a ≥ v.W
    · have hv := sendV_full k o hov 0 [(j : Int), nn] hf
      rw [hv] at s5 ⊢
      conv => whnf
      refine ⟨_, rfl, ?_⟩
      conv => whnf
      refine ⟨_, rfl, ?_⟩
      conv => whnf
      refine ⟨_, _, 0, rfl, rfl, by decide, ?_⟩
      conv => whnf
      refine ⟨_, _, hob4, Nat.le_of_ble_eq_true rfl, ?_⟩
      conv => whnf
      rw [wrap_i64 (x := nn - a) (by omega) (by omega), decide_eq_true (show nn - a ≥ W by omega)]
      conv => whnf
      have hNN : v.N = nn := by omega
      have hWW : v.W = W := by omega
      have hvv : v.ov = false := by first | assumption | (rw [z5]; exact hov)
      have hL := (k.len o)
      have hroom : roomV v.W v.ov v.C.length = W - (nn - (a)) := by
        rw [hWW, hvv, roomV]
        simp
        omega
      refine (cRoom s5 o).mono ?_
      rintro _ h7 ⟨eh, rfl⟩
      subst eh
      rw [hroom]
      conv => whnf
      rw [wrap_i64 (x := nn - (a)) (by omega) (by omega), wrap_i64 (x := W - (nn - (a))) (by omega) (by omega)]
      refine br_mk (fun hI => ?_) (fun hI => ?_)
      · exact absurd hI (by simp)
      conv => whnf
      refine (cSeq s5).mono ?_
      rintro _ h7 ⟨eh, rfl⟩
      subst eh
      rw [hNN]
      conv => whnf
      refine br_mk (fun hI => ?_) (fun hI => ?_)
      · exact absurd hI (by simp)
      conv => whnf
      refine ⟨_, s5.cell0, ?_⟩
      conv => whnf
      refine (cLen s5).mono ?_
      rintro _ h7 ⟨eh, rfl⟩
      subst eh
      conv => whnf
      rw [wrap_i64 (x := nn - (a)) (by omega) (by omega)]
      refine br_mk (fun hI => ?_) (fun hI => ?_)
      · exact absurd hI (by
          have : (v.TS.length : Int) = nn - (a) := by omega
          rw [this]
          simp)
      conv => whnf
      have hwj : IntKind.i64.wrap ((j : Int) + 1) = ((j + 1 : Nat) : Int) := by rw [wrap_i64 (by omega) (by omega)]; omega
      rw [hwj]
      refine ⟨_, Forget.cons rfl (Forget.cons rfl (Forget.cons rfl (Forget.cons rfl (Forget.cons rfl (Forget.cons rfl (Forget.nil _)))))), ⟨j + 1, _, a, nn, v, by omega, rfl, s5, o, k, by omega, hNN, by omega, hWW, hvv, ro5, rfl⟩, ?_⟩
      show ((m : Int) - ((j + 1 : Nat) : Int)).toNat < ((m : Int) - (j : Int)).toNat
      omega
    · obtain ⟨z1, z2, z3, z4, z5, z6, z7⟩ := k.send o hov 0 [(j : Int), nn] (by omega)
      rw [hN] at z6 z7
      rw [z1, hN]
      generalize (sendV v 0 [(j : Int), nn]).2 = v2 at s5 z2 z3 z4 z5 z6 z7 o2 ⊢
      conv => whnf
      refine ⟨_, rfl, ?_⟩
      conv => whnf
      refine ⟨_, rfl, ?_⟩
      conv => whnf
      refine ⟨_, _, 0, rfl, rfl, by decide, ?_⟩
      conv => whnf
      refine ⟨_, _, hob4, Nat.le_of_ble_eq_true rfl, ?_⟩
      conv => whnf
      rw [wrap_i64 (x := nn - a) (by omega) (by omega), decide_eq_false (show ¬ nn - a ≥ W by omega)]
      conv => whnf
      refine br_mk (fun hC => ?_) (fun hC => ?_)
      · exact absurd hC (by simp)
      conv => whnf
      refine (cBody s5 o2 nn).mono ?_
      rintro _ h6 ⟨q6, rfl, r6, m6⟩
      rw [z6] at r6
      rw [z6, z7]
      have s6 := s5.old m6
      have ro6 := ro5.get m6
      conv => whnf
      refine ⟨_, rfl, ?_⟩
      conv => whnf
      refine ⟨_, rfl, ?_⟩
      conv => whnf
      have hu8j : IntKind.u8.wrap (j : Int) = j := u1
      have hu8n : IntKind.u8.wrap nn = nn := u2
      refine ⟨_, r6.is, (fun x hx2 => by
        have : x = (j : Int) ∨ x = nn := by simpa using hx2
        omega), ?_⟩
      conv => whnf
      rw [hu8j, hu8n]
      obtain ⟨l7, n7⟩ := laid_oct h6 [(j : Int), nn]
      refine ⟨_, l7, (fun x hx2 => by
        have : x = (j : Int) ∨ x = nn := by simpa using hx2
        omega), ?_⟩
      conv => whnf
      refine br_mk (fun hD => ?_) (fun hD => ?_)
      · exact absurd hD (by simp)
      conv => whnf
      have s7 := s6.old n7
      have ro7 := ro6.get n7
      rw [wrap_i64 (x := nn + 1) (by omega) (by omega)]
      have hNN : v2.N = (nn + 1) := by omega
      have hWW : v2.W = W := by omega
      have hvv : v2.ov = false := by first | assumption | (rw [z5]; exact hov)
      have hL := (z2.len o2)
      have hroom : roomV v2.W v2.ov v2.C.length = W - ((nn + 1) - (a)) := by
        rw [hWW, hvv, roomV]
        simp
        omega
      refine (cRoom s7 o2).mono ?_
      rintro _ h7 ⟨eh, rfl⟩
      subst eh
      rw [hroom]
      conv => whnf
      rw [wrap_i64 (x := (nn + 1) - (a)) (by omega) (by omega), wrap_i64 (x := W - ((nn + 1) - (a))) (by omega) (by omega)]
      refine br_mk (fun hI => ?_) (fun hI => ?_)
      · exact absurd hI (by simp)
      conv => whnf
      refine (cSeq s7).mono ?_
      rintro _ h7 ⟨eh, rfl⟩
      subst eh
      rw [hNN]
      conv => whnf
      refine br_mk (fun hI => ?_) (fun hI => ?_)
      · exact absurd hI (by simp)
      conv => whnf
      refine ⟨_, s7.cell0, ?_⟩
      conv => whnf
      refine (cLen s7).mono ?_
      rintro _ h7 ⟨eh, rfl⟩
      subst eh
      conv => whnf
      rw [wrap_i64 (x := (nn + 1) - (a)) (by omega) (by omega)]
      refine br_mk (fun hI => ?_) (fun hI => ?_)
      · exact absurd hI (by
          have : (v2.TS.length : Int) = (nn + 1) - (a) := by omega
          rw [this]
          simp)
      conv => whnf
      have hwj : IntKind.i64.wrap ((j : Int) + 1) = ((j + 1 : Nat) : Int) := by rw [wrap_i64 (by omega) (by omega)]; omega
      rw [hwj]
      refine ⟨_, Forget.cons rfl (Forget.cons rfl (Forget.cons rfl (Forget.cons rfl (Forget.cons rfl (Forget.cons rfl (Forget.nil _)))))), ⟨j + 1, _, a, (nn + 1), v2, by omega, rfl, s7, o2, z2, by omega, hNN, by omega, hWW, hvv, ro7, rfl⟩, ?_⟩
      show ((m : Int) - ((j + 1 : Nat) : Int)).toNat < ((m : Int) - (j : Int)).toNat
      omega
end Go.Proofs.Ytoljllfbabahpaa
