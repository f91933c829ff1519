/- The law OctetsBack: the walk. -/
import Derived.Test.YtnpfdppmpmnhbaaS15
set_option linter.unusedVariables false
namespace Go.Proofs.Ytnpfdppmpmnhbaa
open Go Go.Ab
theorem back5 {h : H} {q1 q2 : Option (Nat × Nat)} {n m : Nat} {vs xs : List Int} (x : Int) (ov : RoSl h q1 n 1 (ints .i64 vs)) (ox : Oct h q2 m xs) (bx : Bts xs) :
    ACalls Try.prog 5 [i64 x, .sl q1 n, .sl q2 m] h (fun r _ => r = .bool true) := by
  have hl : n = vs.length := by
    have := ov.1
    rw [ints_length] at this
    omega
  subst hl
  have hl := ox.len
  subst hl
  refine call_ Try.func5 rfl rfl (by kernel_rfl) ?_
  conv => whnf
  refine br_mk (fun hb => ?_) (fun hb => ?_)
  · conv => whnf
    refine (awake18 h).mono ?_
    rintro _ h' ⟨rfl, _⟩
    conv => whnf
  conv => whnf
  refine br_mk (fun hc => ?_) (fun hc => ?_)
  · conv => whnf
    refine (awake18 h).mono ?_
    rintro _ h' ⟨rfl, _⟩
    conv => whnf
  conv => whnf
  simp at hb hc
  refine (round33 (m := 7) (by decide) (by decide) x h).mono ?_
  rintro _ h' ⟨eh, rfl⟩
  subst h'
  conv => whnf
  obtain ⟨k, hk1, hk7, hk⟩ : ∃ k : Nat, 1 ≤ k ∧ k ≤ 7 ∧ IntKind.i64.wrap (1 + x % 7) = k := by
    have h1 := Int.emod_nonneg x (show (7 : Int) ≠ 0 by decide)
    have h2 := Int.emod_lt_of_pos x (show (0 : Int) < 7 by decide)
    exact ⟨(1 + x % 7).toNat, by omega, by omega, by rw [wrap_i64 (by omega) (by omega)]; omega⟩
  rw [hk]
  have w0 := wtr_new h
  have ov0 := ov.get (Mod.push none_ h (.row true 2 [.sl none 0, .bool false]))
  have ox0 := ox.get (Mod.push none_ h (.row true 2 [.sl none 0, .bool false]))
  have h8 := wrap8 (i := (k : Int)) (by omega) (by omega)
  obtain ⟨hp0, hp1⟩ := pow_le hk7
  refine ⟨fun env hh => ∃ (j : Nat) (z : Int) (p1 p8 : Option (Nat × Nat)) (ns : List Int), j ≤ vs.length ∧ z = j ∧ ns.length = j ∧ Fit k ns ∧ WtrP hh h.next p1 (flatB k ns) false ∧ SlIs hh p8 j true 1 (ints .i64 ns) ∧ (∀ i, inSl p8 i → ¬ foot h.next p1 i) ∧ RoSl hh q1 vs.length 1 (ints .i64 vs) ∧ Oct hh q2 xs.length xs ∧ env = [(10, i64 z), (9, .ptr (some (h.next, 0))), (8, .sl p8 j), (7, i64 k), (2, .sl q2 xs.length), (1, .sl q1 vs.length)],
    fun env _ => match get env 10 with
      | .int _ z => (vs.length - z).toNat
      | _ => 0, ⟨_, Forget.cons rfl (Forget.cons rfl (Forget.cons rfl (Forget.cons rfl (Forget.cons rfl (Forget.cons rfl (Forget.nil _)))))), 0, _, none, none, [], Nat.zero_le _, rfl, rfl, fun _ k => (by cases k), w0, SlIs.nil _ _ _, fun i k => (by
        obtain ⟨o, k⟩ := k
        cases k), ov0, ox0, rfl⟩, ?_⟩
  clear w0 ov0 ox0 ov ox
  generalize h.next = g at *
  rintro _ h1 ⟨j, z, p1, p8, ns, hj, rfl, hns, hfit, w1, o8, s8, ov, ox, rfl⟩
  conv => whnf
  have lf := flatB_length k ns
  have lf2 : ns.length * k ≤ 40 * 7 := Nat.mul_le_mul (by omega) hk7
  refine br_mk (fun hd => ?_) (fun hd => ?_)
  · conv => whnf
    simp at hd
    refine ⟨[0, 1, 2, 3, 4, 5, 6, 7, 8, 9, 10, 11], [0, 0, 0, 6, 14, 0, 32, 96, 254, 510, 1023, 2047], by kernel_rfl, ?_⟩
    conv => whnf
    obtain ⟨i, c, rfl, kc⟩ := (Nums.of_ro (S := none_) ov).cell hd
    refine ⟨i, c, j, rfl, rfl, hd, ?_⟩
    conv => whnf
    refine ⟨_, kc, ?_⟩
    conv => whnf
    refine ⟨by rw [h8]; omega, ?_⟩
    conv => whnf
    rw [wrap_shl hk7]
    refine (round33 hp0 hp1 (vs.getD j 0) h1).mono ?_
    rintro _ h' ⟨eh, rfl⟩
    subst h'
    conv => whnf
    rw [oneNum]
    have hv0 := Int.emod_nonneg (vs.getD j 0) (Int.ne_of_gt hp0)
    have hv1 := Int.emod_lt_of_pos (vs.getD j 0) hp0
    generalize vs.getD j 0 % 2 ^ (8 * k) = v at *
    have mp := Mod.push none_ h1 (.row true 1 (ints .i64 [v]))
    refine ⟨_, _, o8.get mp (fun _ _ _ => .inl (fun k => k)), (SlIs.row (n := 1) (H.obj_push_new _ _) rfl).weak, ?_, by omega, fun p9 h2 hs9 hm9 hf9 => ?_⟩
    · show (j + 1) * 8 ≤ 70368744177664
      omega
    conv => whnf
    have w2 := (w1.get mp (fun _ k => k.elim)).get hm9 s8
    have o9 : SlIs h2 p9 (j + 1) true 1 (ints .i64 (ns ++ [v])) := by
      rw [ints_append]
      exact hs9
    have s9 : ∀ i, inSl p9 i → ¬ foot g p1 i := by
      rintro i' ⟨o, e⟩ kf
      rcases hf9 i' o e with k | k
      · exact s8 i' ⟨o, by rw [← k, e]⟩ kf
      · have := w1.foot_lt kf
        have : h1.next + 1 ≤ i' := k
        omega
    have hlt : ∀ i, inSl p9 i → i < h2.next := by
      rintro i' ⟨o, e⟩
      obtain ⟨i2, c2, e2, b, sz, cs, e3, _⟩ := SlIs.cell o9 (j := 0) (v := i64 ((ns ++ [v]).getD 0 0)) (ints_get (by simp))
      rw [e] at e2
      injection e2 with e2
      injection e2 with e2
      subst e2
      exact h2.lt _ _ e3
    obtain ⟨i9, c9, rfl, k9⟩ := SlIs.cell o9 (j := j) (v := i64 v) (by
      rw [ints_get (by simp; omega)]
      congr 2
      simp [← hns])
    have k9 : Cell h2 i9 (c9 + j * 1) (i64 v) := by rwa [Nat.mul_one]
    refine ⟨i9, c9, j, rfl, rfl, by omega, ?_⟩
    conv => whnf
    refine ⟨_, k9, ?_⟩
    conv => whnf
    rw [oneNum]
    obtain ⟨w3, nu⟩ := w2.row v
    refine (nums19 w3 nu (by omega) (by simp) k).mono ?_
    rintro _ h4 ⟨rfl, p4, w4, f4, m4⟩
    conv => whnf
    have fv1 : Fit k [v] := fun y hy => by
      rw [List.mem_singleton] at hy
      subst hy
      exact ⟨hv0, hv1⟩
    rw [numsV_all hk1 hk7 [v] _ fv1] at w4
    have w4 : WtrP h4 g p4 (flatB k ns ++ flatB k [v]) false := w4
    rw [← flatB_append] at w4
    have o10 := (o9.get (Mod.push none_ h2 (.row true 1 (ints .i64 [v]))) (fun _ _ _ => .inl (fun k => k))).get m4 (fun i o e => .inl (s9 i ⟨o, e⟩))
    have hs2 := succ_i64 (j := j) (n := vs.length) hd (by omega)
    refine ⟨_, Forget.cons rfl (Forget.cons rfl (Forget.cons rfl (Forget.cons rfl (Forget.cons rfl (Forget.cons rfl (Forget.nil _)))))), ⟨j + 1, _, p4, some (i9, c9), ns ++ [v], by omega, hs2, by simp [hns], ?_, w4, o10, ?_, (((ov.get mp).get hm9).get (Mod.push none_ h2 (.row true 1 (ints .i64 [v])))).get m4, (((ox.get mp).get hm9).get (Mod.push none_ h2 (.row true 1 (ints .i64 [v])))).get m4, rfl⟩, ?_⟩
    · intro y hy
      rcases List.mem_append.1 hy with k | k
      · exact hfit y k
      · exact fv1 y k
    · intro i' k' kf
      exact s9 i' k' (foot_fresh f4 i' (Nat.lt_succ_of_lt (hlt i' k')) kf)
    · show (vs.length - IntKind.i64.wrap ((j : Int) + 1)).toNat < (vs.length - (j : Int)).toNat
      rw [hs2]
      omega
  conv => whnf
  simp at hd
  obtain rfl : j = vs.length := by omega
  have w2 := wtr_new h1
  have mp := Mod.push none_ h1 (.row true 2 [.sl none 0, .bool false])
  have nu : Nums (foot h1.next none) (h1.push (.row true 2 [.sl none 0, .bool false])) p8 vs.length ns := by
    refine ⟨(o8.get mp (fun _ _ _ => .inl (fun k => k))).weak, ?_⟩
    rcases o8.2 with k | ⟨i, o, o', r, e1, e2, _⟩
    · exact .inl k.1
    · refine .inr (fun i' o2 e => .inl ?_)
      rw [e1] at e
      injection e with e
      injection e with e
      subst e
      have := h1.lt _ _ e2
      rintro (k | ⟨_, k⟩)
      · omega
      · cases k
  have w1' := w1
  have w1 := w1.get mp (fun _ k => k.elim)
  have ox1 := ox.get mp
  refine (ACalls.ro (Q' := fun r h' => r = .ptr (some (h1.next, 0)) ∧ ∃ p2, WtrP h' h1.next p2 (flatB k ns) false ∧ WtrP h' g p1 (flatB k ns) false ∧ Apart h1.next p2 g p1 ∧ RoSl h' p8 vs.length 1 (ints .i64 ns) ∧ Oct h' q2 xs.length xs) (nums19 w2 nu (by simp) (by omega) k) ?_).mono ?_
  · rintro r h' ⟨e, p2, w3, f3, m3⟩
    rw [numsV_all hk1 hk7 ns [] hfit] at w3
    have w3 : WtrP h' h1.next p2 (flatB k ns) false := w3
    have hf2 : ∀ i, i < h1.next → ¬ foot h1.next p2 i := by
      rintro i hi (k | ⟨o, k⟩)
      · omega
      · rcases f3 i o k with k' | k'
        · rw [k] at k'
          cases k'
        · have : h1.next + 1 ≤ i := k'
          omega
    have o8' := (o8.get mp (fun _ _ _ => .inl (fun k => k))).get m3 (fun i o e => .inl (by
      have := SlIs.own_lt o8 (i := i) ⟨o, e⟩
      rintro (k | ⟨_, k⟩)
      · omega
      · cases k))
    have ap : Apart h1.next none g p1 := by
      rintro i (k | ⟨_, k⟩) k'
      · have := w1'.foot_lt k'
        omega
      · cases k
    have w4 := w1.get m3 ap
    have ap2 := ap.step w1 f3
    obtain ⟨i, hi, ro⟩ := SlIs.freeze o8'
    refine ⟨i, e, p2, w3.ro ?_, w4.ro ?_, ap2, ro, RoSl.ro (ox1.get m3) i⟩
    · rcases hi with hi | hi
      · exact hf2 i (SlIs.own_lt o8 hi)
      · intro k
        have := w3.foot_lt k
        omega
    · rcases hi with hi | hi
      · exact s8 i hi
      · intro k
        have := w4.foot_lt k
        omega
  rintro _ h3 ⟨rfl, p2, w3, w4, ap, o8, ox3⟩
  conv => whnf
  refine (raw22 w3 ox3.is (by omega) (by omega)).mono ?_
  rintro _ h4 ⟨rfl, p5, w5, f5, m5⟩
  conv => whnf
  refine (bytes23_ok w5 (by rw [List.length_append]; omega)).mono ?_
  rintro _ h6 ⟨q6, rfl, o6, m6⟩
  conv => whnf
  refine ⟨_, rfl, ?_⟩
  conv => whnf
  refine ⟨_, rfl, ?_⟩
  conv => whnf
  have w7 := (w4.get m5 ap).get m6 (fun _ k => k.elim)
  have ox6 := (ox3.get m5).get m6
  have o86 := (o8.get m5).get m6
  refine (raw22 w7 ox6.is (by omega) (by omega)).mono ?_
  rintro _ h8 ⟨rfl, p9, w9, f9, m9⟩
  conv => whnf
  refine (bytes23_ok w9 (by rw [List.length_append]; omega)).mono ?_
  rintro _ h10 ⟨q10, rfl, o10, m10⟩
  conv => whnf
  refine ⟨_, rfl, ?_⟩
  conv => whnf
  refine ⟨_, rfl, ?_⟩
  conv => whnf
  have o6' := (o6.get m9).get m10
  refine (read24 o6' (by rw [List.length_append]; omega)).mono ?_
  rintro _ h11 ⟨g3, rfl, hg3, r11, m11⟩
  conv => whnf
  have bF : Bts (flatB k ns ++ xs) := (flatB_bts k ns).append bx
  refine ⟨_, (o6'.get m11).is, bF, ?_⟩
  conv => whnf
  refine ⟨_, (o10.get m11).is, bF, ?_⟩
  conv => whnf
  refine br_mk (fun he => ?_) (fun he => ?_)
  · simp at he
  conv => whnf
  refine br_mk (fun hf => ?_) (fun hf => ?_)
  · rw [List.length_append, lf, wrap_i64 (x := (k : Int) * vs.length), wrap_i64] at hf
    · simp [hns, Nat.mul_comm] at hf
    all_goals (rw [hns] at lf2; have := Nat.mul_comm vs.length k; have e : ((vs.length * k : Nat) : Int) = (k : Int) * vs.length := by rw [this, Int.natCast_mul])
    all_goals omega
  conv => whnf
  have ox11 := ((ox6.get m9).get m10).get m11
  have o811 := ((o86.get m9).get m10).get m11
  refine ⟨fun env hh => ∃ (a : Nat) (z : Int), a ≤ vs.length ∧ z = a ∧ Rdr hh g3 (flatB k (ns.drop a) ++ xs) false ∧ RoSl hh p8 vs.length 1 (ints .i64 ns) ∧ Oct hh q2 xs.length xs ∧ env = [(16, i64 z), (15, .ptr (some (g3, 0))), (8, .sl p8 vs.length), (7, i64 k), (2, .sl q2 xs.length)],
    fun env _ => match get env 16 with
      | .int _ z => (vs.length - z).toNat
      | _ => 0, ⟨_, Forget.cons rfl (Forget.cons rfl (Forget.cons rfl (Forget.cons rfl (Forget.cons rfl (Forget.nil _))))), 0, _, Nat.zero_le _, rfl, r11, o811, ox11, rfl⟩, ?_⟩
  clear r11 o811 ox11
  rintro _ h12 ⟨a, z, ha, rfl, r12, o8, ox, rfl⟩
  conv => whnf
  refine br_mk (fun hg => ?_) (fun hg => ?_)
  · conv => whnf
    simp at hg
    refine ⟨[0, 1, 3, 4, 5, 6, 2, 7], [0, 0, 3, 0, 0, 24, 56, 127], by kernel_rfl, ?_⟩
    conv => whnf
    obtain ⟨i, c, rfl, kc⟩ := (Nums.of_ro (S := none_) o8).cell hg
    refine ⟨i, c, a, rfl, rfl, hg, ?_⟩
    conv => whnf
    refine ⟨_, kc, ?_⟩
    conv => whnf
    have hga : a < ns.length := by omega
    have hmem : ns.getD a 0 ∈ ns := by
      rw [List.getD_eq_getElem?_getD, List.getElem?_eq_getElem hga]
      exact List.getElem_mem hga
    have hfv := hfit _ hmem
    have e13 : flatB k (ns.drop a) ++ xs = be (ns.getD a 0) k ++ (flatB k (ns.drop (a + 1)) ++ xs) := by
      rw [drop_cons hga, ← List.append_assoc]
      rfl
    rw [e13] at r12
    obtain ⟨t1, t2, t3⟩ := read_num hk1 hk7 hfv.1 hfv.2 (flatB k (ns.drop (a + 1)) ++ xs)
    refine (num25 r12 (by
      rw [← e13, List.length_append, flatB_length, List.length_drop]
      have : (ns.length - a) * k ≤ 40 * 7 := Nat.mul_le_mul (by omega) hk7
      omega) k).mono ?_
    rintro v13 h13 ⟨e, r13, m13⟩
    rw [t3] at e
    rw [t2, t1] at r13
    obtain rfl : v13 = i64 (ns.getD a 0) := e
    conv => whnf
    have o813 : RoSl h13 (some (i, c)) vs.length 1 (ints .i64 ns) := RoSl.get o8 m13
    obtain ⟨i', c', e', kc'⟩ := (Nums.of_ro (S := none_) o813).cell hg
    injection e' with e'
    injection e' with e1 e2
    subst e1 e2
    refine ⟨?_, ?_⟩
    · conv => whnf
      exact ⟨_, kc', rfl⟩
    conv => whnf
    refine br_mk (fun hh => ?_) (fun hh => ?_)
    · simp at hh
    conv => whnf
    have hs2 := succ_i64 (j := a) (n := vs.length) hg (by omega)
    refine ⟨_, Forget.cons rfl (Forget.cons rfl (Forget.cons rfl (Forget.cons rfl (Forget.cons rfl (Forget.nil _))))), ⟨a + 1, _, by omega, hs2, r13, o813, ox.get m13, rfl⟩, ?_⟩
    show (vs.length - IntKind.i64.wrap ((a : Int) + 1)).toNat < (vs.length - (a : Int)).toNat
    rw [hs2]
    omega
  conv => whnf
  simp at hg
  obtain rfl : a = vs.length := by omega
  rw [← hns, List.drop_length] at r12
  have r12 : Rdr h12 g3 xs false := r12
  refine ⟨[0, 2, 3, 1, 4, 5, 6, 7, 8, 11, 12, 9, 10, 13, 14, 15, 16, 17, 18, 19, 20, 21, 22, 23], [0, 1, 0, 4, 15, 31, 63, 63, 191, 511, 1023, 63, 2111, 8191, 16383, 32767, 65535, 131071, 262143, 524287, 1048575, 2097151, 4194303, 8388607], by kernel_rfl, ?_⟩
  conv => whnf
  refine (left29 r12).mono ?_
  rintro _ h13 ⟨eh, rfl⟩
  subst h13
  conv => whnf
  refine br_mk (fun hh => ?_) (fun hh => ?_)
  rotate_left
  · simp [leftV] at hh
  conv => whnf
  refine ⟨_, ox.is, bx, ?_⟩
  conv => whnf
  have ro : rawOk xs false (xs.length : Int) = true := by simp [rawOk]
  refine (raw27 r12 (by omega) _).mono ?_
  rintro _ h14 ⟨q14, l14, rfl, o14, r14, m14⟩
  rw [rawV, ro] at o14
  rw [rawX, ro] at r14
  have o14 : Oct h14 q14 l14 xs := by
    have e : xs.take (xs.length : Int).toNat = xs := by rw [Int.toNat_natCast, List.take_length]
    rw [← e]
    exact o14
  have r14 : Rdr h14 g3 [] false := by
    have e : xs.drop (xs.length : Int).toNat = [] := by rw [Int.toNat_natCast, List.drop_length]
    rw [← e]
    exact r14
  conv => whnf
  refine ⟨?_, ?_⟩
  · conv => whnf
    exact ⟨_, (ox.get m14).is, bx, rfl⟩
  conv => whnf
  refine ⟨_, o14.is, bx, ?_⟩
  conv => whnf
  refine br_mk (fun hh => ?_) (fun hh => ?_)
  rotate_left
  · simp at hh
  conv => whnf
  refine (done31 r14).mono ?_
  rintro _ h15 ⟨eh, rfl⟩
  subst h15
  conv => whnf
  refine (awake18 _).mono ?_
  rintro _ h' ⟨rfl, _⟩
  conv => whnf
end Go.Proofs.Ytnpfdppmpmnhbaa
