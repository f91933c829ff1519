/- The law OctetsWrite: the walk. -/
import Derived.Test.YtnpfdppmpmnhbaaS11
set_option linter.unusedVariables false
namespace Go.Proofs.Ytnpfdppmpmnhbaa
open Go Go.Ab
theorem WtrP.len {h : H} {g : Nat} {p : Option (Nat × Nat)} {xs : List Int} {sp : Bool} (w : WtrP h g p xs sp) : SlIs h p xs.length false 1 (ints .u8 xs) := w.2.1.weak
theorem refGo_step {k : Int} {vs ys zs : List Int} {sp sp' : Bool} {i : Nat} (hi : i < vs.length) (h : refGo k (vs.drop i) zs sp' = refGo k vs ys sp) : refGo k (vs.drop (i + 1)) (if misfit k (vs.getD i 0) then zs else zs ++ be (vs.getD i 0) k.toNat) (misfit k (vs.getD i 0) || sp') = refGo k vs ys sp := by
  rw [drop_cons hi, refGo] at h
  exact h
theorem ref_len {k v : Int} {zs : List Int} (hb : Bts zs) : (if misfit k v then zs else zs ++ be v k.toNat).length ≤ zs.length + 7 ∧ Bts (if misfit k v then zs else zs ++ be v k.toNat) := by
  cases hm : misfit k v with
  | true => exact ⟨by simp, hb⟩
  | false =>
    have := small_toNat (misfit_small hm)
    simp only [if_neg (show ¬ (false = true) by decide)]
    exact ⟨by rw [List.length_append, be_length]; omega, hb.append (be_bts _ _)⟩

theorem small_not (k : Int) : (!decide (1 ≤ k ∧ k ≤ 7)) = small k := by
  rw [Bool.eq_iff_iff, small]
  simp
  try omega
theorem write3 {h : H} {p : Option (Nat × Nat)} {n : Nat} {es : List Act} (o : Acts h p n es) (hn : n ≤ maxLen) : ACalls Try.prog 3 [.sl p n] h (fun r _ => r = .bool true) := by
  have hl := o.len
  subst hl
  refine call_ Try.func3 rfl rfl (by kernel_rfl) ?_
  conv => whnf
  refine (few17 o hn).mono ?_
  rintro _ h' ⟨eh, b, rfl, hb⟩
  subst h'
  conv => whnf
  refine br_mk (fun hc => ?_) (fun hc => ?_)
  · conv => whnf
    refine (awake18 h).mono ?_
    rintro _ h' ⟨rfl, _⟩
    conv => whnf
  conv => whnf
  obtain ⟨h30, hfit⟩ := hb (by simpa using hc)
  have w1 := (wtr_new h).get (Mod.push none_ _ (.row true 2 [.sl none 0, .bool false])) (fun _ k => k.elim)
  have w2 : WtrP _ (h.next + 1) none [] false := wtr_new (h.push (.row true 2 [.sl none 0, .bool false]))
  have o2 := (o.get (Mod.push none_ _ (.row true 2 [.sl none 0, .bool false]))).get (Mod.push none_ _ (.row true 2 [.sl none 0, .bool false]))
  have ap : Apart h.next none (h.next + 1) none := by
    rintro i (rfl | ⟨_, k⟩) (k' | ⟨_, k'⟩)
    · exact absurd k' (Nat.ne_of_lt (Nat.lt_succ_self _))
    · cases k'
    · cases k
    · cases k
  refine ⟨fun env hh => ∃ (j : Nat) (z : Int) (p1 p2 : Option (Nat × Nat)) (xs ys : List Int) (sp : Bool), j ≤ es.length ∧ z = j ∧ WtrP hh h.next p1 xs sp ∧ WtrP hh (h.next + 1) p2 ys sp ∧ Apart h.next p1 (h.next + 1) p2 ∧ (sp = false → xs = ys) ∧ xs.length ≤ 200 * j ∧ ys.length ≤ 200 * j ∧ Bts xs ∧ Bts ys ∧ Acts hh p es.length es ∧ env = [(5, i64 z), (4, .ptr (some (h.next + 1, 0))), (3, .ptr (some (h.next, 0))), (0, .sl p es.length)],
    fun env _ => match get env 5 with
      | .int _ z => (es.length - z).toNat
      | _ => 0, ⟨_, Forget.cons rfl (Forget.cons rfl (Forget.cons rfl (Forget.cons rfl (Forget.nil _)))), 0, _, none, none, [], [], false, Nat.zero_le _, rfl, w1, w2, ap, fun _ => rfl, Nat.le_refl _, Nat.le_refl _, fun _ k => (by cases k), fun _ k => (by cases k), o2, rfl⟩, ?_⟩
  clear w1 w2 o2 ap o
  generalize h.next + 1 = g' at *
  generalize h.next = g at *
  rintro _ h1 ⟨j, z, p1, p2, xs, ys, sp, hj, rfl, w1, w2, ap, hxy, lx, ly, bx, bys, o, rfl⟩
  conv => whnf
  refine br_mk (fun hd => ?_) (fun hd => ?_)
  rotate_left
  · conv => whnf
    refine (bytes23 w1 (by omega)).mono ?_
    rintro _ h2 ⟨q, m, rfl, oq, m2⟩
    conv => whnf
    refine ⟨_, rfl, ?_⟩
    conv => whnf
    refine ⟨_, rfl, ?_⟩
    conv => whnf
    have w3 := w2.get m2 (fun _ k => k.elim)
    have hm := oq.len
    subst hm
    refine ⟨_, Cell.mk w3.1 rfl, ?_⟩
    conv => whnf
    cases sp with
    | true =>
      conv => whnf
      refine (awake18 h2).mono ?_
      rintro _ h' ⟨rfl, _⟩
      conv => whnf
    | false =>
      conv => whnf
      refine ⟨[0, 1, 2, 3, 4, 5, 6, 7, 8, 9, 10, 11, 12, 13, 14, 15], [0, 1, 3, 7, 15, 7, 39, 103, 231, 487, 1023, 2047, 4095, 8191, 16383, 32767], by kernel_rfl, ?_⟩
      conv => whnf
      refine ⟨_, oq.is, bx, ?_⟩
      conv => whnf
      refine ⟨_, Cell.mk w3.1 rfl, ?_⟩
      conv => whnf
      refine ⟨_, w3.len, bys, ?_⟩
      conv => whnf
      refine br_mk (fun he => ?_) (fun he => ?_)
      rotate_left
      · rw [hxy rfl] at he
        simp at he
      conv => whnf
      refine (awake18 h2).mono ?_
      rintro _ h' ⟨rfl, _⟩
      conv => whnf
  conv => whnf
  simp at hd
  obtain ⟨i, c, e, rfl, hej, ⟨hnum, hoct, hbt⟩, c0, c1, c2, c3⟩ := o.cell hd
  obtain ⟨f1, f2⟩ := hfit e (List.mem_of_getElem? hej)
  refine ⟨i, c, j, rfl, rfl, hd, ?_⟩
  conv => whnf
  refine ⟨_, c0, ?_⟩
  conv => whnf
  have hs := succ_i64 (j := j) (n := es.length) hd (by omega)
  refine br_mk (fun he => ?_) (fun he => ?_)
  rotate_left
  · conv => whnf
    refine ⟨i, c, j, rfl, rfl, hd, ?_⟩
    conv => whnf
    refine ⟨_, c3, ?_⟩
    conv => whnf
    refine (raw22 w1 hoct.is (by omega) (by omega)).mono ?_
    rintro _ h2 ⟨rfl, p3, w3, fr3, m3⟩
    conv => whnf
    have w4 := w2.get m3 ap
    have ap2 := ap.step w2 fr3
    have o2 := o.get m3
    obtain ⟨i', c', e', e1, hej', ⟨_, hoct2, _⟩, _, _, _, d3⟩ := o2.cell hd
    rw [hej] at hej'
    injection hej' with hej'
    subst hej'
    injection e1 with e1
    injection e1 with e1 e2
    subst e1 e2
    refine ⟨[0, 1, 2, 3, 4, 5, 6, 7, 8, 9, 10, 11, 12, 13], [0, 0, 2, 6, 14, 0, 0, 96, 224, 480, 1022, 2047, 4095, 8191], by kernel_rfl, ?_⟩
    conv => whnf
    refine ⟨_, Cell.mk w4.1 rfl, ?_⟩
    conv => whnf
    refine ⟨i, c, j, rfl, rfl, hd, ?_⟩
    conv => whnf
    refine ⟨_, d3, ?_⟩
    conv => whnf
    refine ⟨_, _, w4.2.1, hoct2.is, by rw [T5b]; omega, by omega, fun p5 h3 hsl hm3 hf3 => ?_⟩
    conv => whnf
    obtain ⟨e3, p6, w6, fr6, m6⟩ := w4.app (ys := e.octs) ⟨Nat.le_refl _, fun _ _ _ => rfl⟩ hsl hm3 hf3
    refine ⟨_, _, e3, Nat.le_of_ble_eq_true rfl, ?_⟩
    conv => whnf
    have w7 := w3.get m6 ap2.symm
    refine ⟨_, Forget.cons rfl (Forget.cons rfl (Forget.cons rfl (Forget.cons rfl (Forget.nil _)))), ⟨j + 1, _, p3, p6, _, _, sp, by omega, hs, w7, w6, (ap2.symm.step w3 fr6).symm, fun k => by rw [hxy k], ?_, ?_, bx.append hbt, bys.append hbt, o2.get m6, rfl⟩, ?_⟩
    · rw [List.length_append]
      omega
    · rw [List.length_append]
      omega
    · show (es.length - IntKind.i64.wrap ((j : Int) + 1)).toNat < (es.length - (j : Int)).toNat
      rw [hs]
      omega
  conv => whnf
  refine ⟨[0, 1, 2, 3, 4, 5, 6, 7, 8, 9, 10, 11, 12], [0, 0, 0, 6, 14, 30, 0, 0, 192, 448, 960, 2047, 4095], by kernel_rfl, ?_⟩
  conv => whnf
  refine ⟨i, c, j, rfl, rfl, hd, ?_⟩
  conv => whnf
  refine ⟨_, c1, ?_⟩
  conv => whnf
  refine ⟨i, c, j, rfl, rfl, hd, ?_⟩
  conv => whnf
  refine ⟨_, c2, ?_⟩
  conv => whnf
  refine (nums19 w1 (Nums.of_ro hnum) (by omega) (by omega) _).mono ?_
  rintro _ h2 ⟨rfl, p3, w3, fr3, m3⟩
  conv => whnf
  have w4 := w2.get m3 ap
  have ap2 := ap.step w2 fr3
  have o2 := o.get m3
  obtain ⟨i', c', e', e1, hej', hok2, _, d1, d2, _⟩ := o2.cell hd
  rw [hej] at hej'
  injection hej' with hej'
  subst hej'
  injection e1 with e1
  injection e1 with e1 e2
  subst e1 e2
  refine ⟨_, Cell.mk w4.1 rfl, ?_⟩
  conv => whnf
  obtain ⟨q5, w5, fr5, m5⟩ := w4.spoil (sp || small e.size)
  have o5 := o2.get m5
  have w6 := w3.get m5 ap2.symm
  have ap5 := ap2.symm.step w3 fr5
  obtain ⟨nr1, nr2⟩ := nums_ref e.size e.nums xs ys sp hxy
  obtain ⟨nl1, nl2⟩ := numsV_len e.size e.nums xs sp
  refine br_mk (fun hg => ?_) (fun hg => ?_)
  · conv => whnf
    refine ⟨_, _, w4.1, Nat.le_of_ble_eq_true rfl, ?_⟩
    have eR : splice [V.sl p2 ys.length, V.bool sp] (0 + 1) (vcells (V.bool true)) = [.sl p2 ys.length, .bool (sp || small e.size)] := by simp [hg, splice, vcells]
    rw [eR]
    generalize h2.set g' (.row true 2 [.sl p2 ys.length, .bool (sp || small e.size)]) = h5 at *
    conv => whnf
    generalize hsp0 : (sp || small e.size) = sp0 at *
    refine ⟨fun env hh => ∃ (a : Nat) (z : Int) (q : Option (Nat × Nat)) (zs : List Int) (sp4 : Bool), a ≤ e.nums.length ∧ z = a ∧ WtrP hh g' q zs sp4 ∧ refGo e.size (e.nums.drop a) zs sp4 = refGo e.size e.nums ys sp0 ∧ zs.length ≤ ys.length + 7 * a ∧ Bts zs ∧ WtrP hh g p3 (numsV e.size e.nums xs sp).1 (numsV e.size e.nums xs sp).2 ∧ Apart g' q g p3 ∧ Acts hh (some (i, c)) es.length es ∧ env = [(6, i64 z), (5, i64 j), (4, .ptr (some (g', 0))), (3, .ptr (some (g, 0))), (0, .sl (some (i, c)) es.length)],
      fun env _ => match get env 6 with
        | .int _ z => (e.nums.length - z).toNat
        | _ => 0, ⟨_, Forget.cons rfl (Forget.cons rfl (Forget.cons rfl (Forget.cons rfl (Forget.cons rfl (Forget.nil _))))), 0, _, q5, ys, sp0, Nat.zero_le _, rfl, w5, rfl, Nat.le_refl _, bys, w6, ap5, o5, rfl⟩, ?_⟩
    rintro _ h6 ⟨a, z, q, zs, sp4, ha, rfl, w7, hgo, lz, bz, w8, ap8, o8, rfl⟩
    conv => whnf
    obtain ⟨i', c', e', e1, hej', hok8, _, k1, k2, _⟩ := o8.cell hd
    rw [hej] at hej'
    injection hej' with hej'
    subst hej'
    injection e1 with e1
    injection e1 with e1 e2
    subst e1 e2
    refine ⟨i, c, j, rfl, rfl, hd, ?_⟩
    conv => whnf
    refine ⟨_, k2, ?_⟩
    conv => whnf
    refine br_mk (fun hk => ?_) (fun hk => ?_)
    · conv => whnf
      simp at hk
      refine ⟨[0, 1, 2, 3, 4, 5, 6, 7, 8, 9, 10, 11, 12, 13, 14], [0, 0, 0, 6, 14, 30, 0, 0, 192, 448, 960, 0, 4032, 8128, 16383], by kernel_rfl, ?_⟩
      conv => whnf
      refine ⟨i, c, j, rfl, rfl, hd, ?_⟩
      conv => whnf
      refine ⟨_, k1, ?_⟩
      conv => whnf
      refine ⟨i, c, j, rfl, rfl, hd, ?_⟩
      conv => whnf
      refine ⟨_, k2, ?_⟩
      conv => whnf
      obtain ⟨i2, c2', hnp, kc⟩ := (Nums.of_ro (S := none_) hok8.1).cell hk
      rw [hnp]
      refine ⟨i2, c2', a, rfl, rfl, hk, ?_⟩
      conv => whnf
      refine ⟨_, kc, ?_⟩
      conv => whnf
      refine (num21 w7 (by omega) _ _).mono ?_
      rintro _ h7 ⟨rfl, q9, w9, fr9, m9⟩
      conv => whnf
      obtain ⟨rl1, rl2⟩ := ref_len (k := e.size) (v := e.nums.getD a 0) bz
      have hs2 := succ_i64 (j := a) (n := e.nums.length) hk (by omega)
      refine ⟨_, Forget.cons rfl (Forget.cons rfl (Forget.cons rfl (Forget.cons rfl (Forget.cons rfl (Forget.nil _))))), ⟨a + 1, _, q9, _, _, by omega, hs2, w9, refGo_step hk hgo, by omega, rl2, w8.get m9 ap8, ap8.step w8 fr9, o8.get m9, rfl⟩, ?_⟩
      show (e.nums.length - IntKind.i64.wrap ((a : Int) + 1)).toNat < (e.nums.length - (a : Int)).toNat
      rw [hs2]
      omega
    · conv => whnf
      simp at hk
      obtain rfl : a = e.nums.length := by omega
      rw [List.drop_length, refGo] at hgo
      rw [← hgo] at nr1 nr2
      rw [nr1] at w8
      refine ⟨_, Forget.cons rfl (Forget.cons rfl (Forget.cons rfl (Forget.cons rfl (Forget.nil _)))), ⟨j + 1, _, p3, q, _, zs, sp4, by omega, hs, w8, w7, ap8.symm, nr2, by omega, by omega, nl2 bx, bz, o8, rfl⟩, ?_⟩
      show (es.length - IntKind.i64.wrap ((j : Int) + 1)).toNat < (es.length - (j : Int)).toNat
      rw [hs]
      omega
  · conv => whnf
    refine ⟨i, c, j, rfl, rfl, hd, ?_⟩
    conv => whnf
    refine ⟨_, d1, ?_⟩
    conv => whnf
    refine (size20 _ _).mono ?_
    rintro _ h' ⟨eh, rfl⟩
    subst h'
    conv => whnf
    refine ⟨_, _, w4.1, Nat.le_of_ble_eq_true rfl, ?_⟩
    have eR : splice [V.sl p2 ys.length, V.bool sp] (0 + 1) (vcells (V.bool (!decide (1 ≤ e.size ∧ e.size ≤ 7)))) = [.sl p2 ys.length, .bool (sp || small e.size)] := by
      rw [small_not]
      simp [hg, splice, vcells]
    rw [eR]
    generalize h2.set g' (.row true 2 [.sl p2 ys.length, .bool (sp || small e.size)]) = h5 at *
    conv => whnf
    generalize hsp0 : (sp || small e.size) = sp0 at *
    refine ⟨fun env hh => ∃ (a : Nat) (z : Int) (q : Option (Nat × Nat)) (zs : List Int) (sp4 : Bool), a ≤ e.nums.length ∧ z = a ∧ WtrP hh g' q zs sp4 ∧ refGo e.size (e.nums.drop a) zs sp4 = refGo e.size e.nums ys sp0 ∧ zs.length ≤ ys.length + 7 * a ∧ Bts zs ∧ WtrP hh g p3 (numsV e.size e.nums xs sp).1 (numsV e.size e.nums xs sp).2 ∧ Apart g' q g p3 ∧ Acts hh (some (i, c)) es.length es ∧ env = [(6, i64 z), (5, i64 j), (4, .ptr (some (g', 0))), (3, .ptr (some (g, 0))), (0, .sl (some (i, c)) es.length)],
      fun env _ => match get env 6 with
        | .int _ z => (e.nums.length - z).toNat
        | _ => 0, ⟨_, Forget.cons rfl (Forget.cons rfl (Forget.cons rfl (Forget.cons rfl (Forget.cons rfl (Forget.nil _))))), 0, _, q5, ys, sp0, Nat.zero_le _, rfl, w5, rfl, Nat.le_refl _, bys, w6, ap5, o5, rfl⟩, ?_⟩
    rintro _ h6 ⟨a, z, q, zs, sp4, ha, rfl, w7, hgo, lz, bz, w8, ap8, o8, rfl⟩
    conv => whnf
    obtain ⟨i', c', e', e1, hej', hok8, _, k1, k2, _⟩ := o8.cell hd
    rw [hej] at hej'
    injection hej' with hej'
    subst hej'
    injection e1 with e1
    injection e1 with e1 e2
    subst e1 e2
    refine ⟨i, c, j, rfl, rfl, hd, ?_⟩
    conv => whnf
    refine ⟨_, k2, ?_⟩
    conv => whnf
    refine br_mk (fun hk => ?_) (fun hk => ?_)
    · conv => whnf
      simp at hk
      refine ⟨[0, 1, 2, 3, 4, 5, 6, 7, 8, 9, 10, 11, 12, 13, 14], [0, 0, 0, 6, 14, 30, 0, 0, 192, 448, 960, 0, 4032, 8128, 16383], by kernel_rfl, ?_⟩
      conv => whnf
      refine ⟨i, c, j, rfl, rfl, hd, ?_⟩
      conv => whnf
      refine ⟨_, k1, ?_⟩
      conv => whnf
      refine ⟨i, c, j, rfl, rfl, hd, ?_⟩
      conv => whnf
      refine ⟨_, k2, ?_⟩
      conv => whnf
      obtain ⟨i2, c2', hnp, kc⟩ := (Nums.of_ro (S := none_) hok8.1).cell hk
      rw [hnp]
      refine ⟨i2, c2', a, rfl, rfl, hk, ?_⟩
      conv => whnf
      refine ⟨_, kc, ?_⟩
      conv => whnf
      refine (num21 w7 (by omega) _ _).mono ?_
      rintro _ h7 ⟨rfl, q9, w9, fr9, m9⟩
      conv => whnf
      obtain ⟨rl1, rl2⟩ := ref_len (k := e.size) (v := e.nums.getD a 0) bz
      have hs2 := succ_i64 (j := a) (n := e.nums.length) hk (by omega)
      refine ⟨_, Forget.cons rfl (Forget.cons rfl (Forget.cons rfl (Forget.cons rfl (Forget.cons rfl (Forget.nil _))))), ⟨a + 1, _, q9, _, _, by omega, hs2, w9, refGo_step hk hgo, by omega, rl2, w8.get m9 ap8, ap8.step w8 fr9, o8.get m9, rfl⟩, ?_⟩
      show (e.nums.length - IntKind.i64.wrap ((a : Int) + 1)).toNat < (e.nums.length - (a : Int)).toNat
      rw [hs2]
      omega
    · conv => whnf
      simp at hk
      obtain rfl : a = e.nums.length := by omega
      rw [List.drop_length, refGo] at hgo
      rw [← hgo] at nr1 nr2
      rw [nr1] at w8
      refine ⟨_, Forget.cons rfl (Forget.cons rfl (Forget.cons rfl (Forget.cons rfl (Forget.nil _)))), ⟨j + 1, _, p3, q, _, zs, sp4, by omega, hs, w8, w7, ap8.symm, nr2, by omega, by omega, nl2 bx, bz, o8, rfl⟩, ?_⟩
      show (es.length - IntKind.i64.wrap ((j : Int) + 1)).toNat < (es.length - (j : Int)).toNat
      rw [hs]
      omega
end Go.Proofs.Ytnpfdppmpmnhbaa
