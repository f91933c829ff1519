/- Graphs: what may be one, of the reference. -/
import Derived.Test.YtjjcalkeodfokaaR2
set_option linter.unusedVariables false
namespace Go.Proofs.Ytjjcalkeodfokaa
open Go Go.Ab
theorem ordI_neg (p b : Int × Int) : (ordI p b < 0) ↔ ¬ (p.1 > b.1 ∨ (p.1 = b.1 ∧ p.2 ≥ b.2)) := by
  unfold ordI orI cmpI
  by_cases h1 : p.1 < b.1
  · (simp [h1]) <;> omega
  · by_cases h2 : b.1 < p.1
    · (simp [h1, h2]) <;> omega
    · by_cases h3 : p.2 < b.2
      · (simp [h1, h2, h3]) <;> omega
      · by_cases h4 : b.2 < p.2
        · (simp [h1, h2, h3, h4]) <;> omega
        · (simp [h1, h2, h3, h4]) <;> omega
set_option maxHeartbeats 1000000 in
theorem may21 {h : H} (g : Gra) (ok : g.ok h) : ACalls Try.prog 21 [.agg g.cells] h (fun r h' => r = .bool (mayG g) ∧ Ab.Mod none_ h h') := by
  refine call_ Try.func21 rfl rfl (by kernel_rfl) ?_
  conv => whnf
  have mm := Mod.push none_ h (.row true 3 g.cells)
  have gb : (h.push (.row true 3 g.cells)).obj h.next = some (.row true 3 g.cells) := H.obj_push_new _ _
  refine ⟨_, Cell.mk gb rfl, ?_⟩
  conv => whnf
  refine (within41 _ (g.ns.length : Int) 1 256).mono ?_
  rintro _ h' ⟨eh, rfl⟩
  subst h'
  conv => whnf
  refine br_mk (fun ha => ?_) (fun ha => ?_)
  · conv => whnf
    have ha : inB g.ns.length 1 256 = false := by simpa using ha
    exact ⟨by rw [mayG, sizesOk, ha, Bool.false_and, Bool.false_and], mm⟩
  conv => whnf
  have ha : inB g.ns.length 1 256 = true := by simpa using ha
  refine ⟨_, Cell.mk gb rfl, ?_⟩
  conv => whnf
  refine br_mk (fun hb => ?_) (fun hb => ?_)
  · conv => whnf
    simp at hb
    exact ⟨by rw [mayG, sizesOk, decide_eq_false (show ¬ g.es.length ≤ 512 by omega), Bool.false_and, Bool.and_false, Bool.false_and], mm⟩
  conv => whnf
  simp at hb
  refine ⟨_, Cell.mk gb rfl, ?_⟩
  conv => whnf
  refine br_mk (fun hc => ?_) (fun hc => ?_)
  · conv => whnf
    simp at hc
    exact ⟨by rw [mayG, sizesOk, decide_eq_false (show ¬ g.bs.length ≤ 1024 by omega), Bool.and_false, Bool.and_false, Bool.false_and], mm⟩
  conv => whnf
  simp at hc
  have hsz : sizesOk g = true := by rw [sizesOk, ha, decide_eq_true (show g.es.length ≤ 512 by omega), decide_eq_true (show g.bs.length ≤ 1024 by omega)]; rfl
  have no1 : g.ns.all nodeOk = false → mayG g = false := fun e => by rw [mayG, e, Bool.false_and, Bool.and_false]
  have no2 : g.es.all (edgeOk (g.ns.length - 1)) = false → mayG g = false := fun e => by rw [mayG, e, Bool.false_and, Bool.and_false, Bool.and_false]
  have no3 : (List.range g.bs.length).all (banOk g) = false → mayG g = false := fun e => by rw [mayG, e, Bool.and_false, Bool.and_false, Bool.and_false]
  refine ⟨fun env hh => ∃ (j : Nat) (z : Int), j ≤ g.ns.length ∧ z = j ∧ Ab.Mod none_ h hh ∧ hh.obj h.next = some (.row true 3 g.cells) ∧ (∀ k (hk : k < g.ns.length), k < j → nodeOk g.ns[k] = true) ∧ env = [(3, i64 z), (1, .ptr (some (h.next, 0)))],
    fun env _ => match get env 3 with
      | .int _ z => (g.ns.length - z).toNat
      | _ => 0, ⟨_, Forget.cons rfl (Forget.cons rfl (Forget.nil _)), 0, _, Nat.zero_le _, rfl, mm, gb, fun k _ hk => absurd hk (Nat.not_lt_zero k), rfl⟩, ?_⟩
  clear mm gb
  rintro _ h1 ⟨j, z, hj, rfl, mm, gb, hall, rfl⟩
  conv => whnf
  refine ⟨_, Cell.mk gb rfl, ?_⟩
  conv => whnf
  refine br_mk (fun hd => ?_) (fun hd => ?_)
  · conv => whnf
    simp at hd
    obtain ⟨i, c, e1, k1, k2⟩ := sls_get pC_len (SlIs.old ok.n mm (fun _ _ k => k)) rfl hd
    refine ⟨_, Cell.mk gb rfl, ?_⟩
    conv => whnf
    refine ⟨i, c, j, e1, rfl, hd, ?_⟩
    conv => whnf
    refine ⟨_, k2 0 (i64 g.ns[j].1) rfl, ?_⟩
    conv => whnf
    refine (within41 _ g.ns[j].1 0 4095).mono ?_
    rintro _ h' ⟨eh, rfl⟩
    subst h'
    conv => whnf
    refine br_mk (fun he => ?_) (fun he => ?_)
    · conv => whnf
      have he : inB g.ns[j].1 0 4095 = false := by simpa using he
      exact ⟨by rw [no1 (all_no hd (by rw [nodeOk, he, Bool.false_and]))], mm⟩
    conv => whnf
    have he : inB g.ns[j].1 0 4095 = true := by simpa using he
    refine ⟨_, Cell.mk gb rfl, ?_⟩
    conv => whnf
    refine ⟨i, c, j, e1, rfl, hd, ?_⟩
    conv => whnf
    refine ⟨_, k2 1 (i64 g.ns[j].2) rfl, ?_⟩
    conv => whnf
    refine (within41 _ g.ns[j].2 0 4095).mono ?_
    rintro _ h' ⟨eh, rfl⟩
    subst h'
    conv => whnf
    refine br_mk (fun hf => ?_) (fun hf => ?_)
    · conv => whnf
      have hf : inB g.ns[j].2 0 4095 = false := by simpa using hf
      exact ⟨by rw [no1 (all_no hd (by rw [nodeOk, hf, Bool.and_false]))], mm⟩
    conv => whnf
    have hf : inB g.ns[j].2 0 4095 = true := by simpa using hf
    have hs2 := succ_i64 (j := j) (n := g.ns.length) hd (by have := ok.ln; omega)
    refine ⟨_, Forget.cons rfl (Forget.cons rfl (Forget.nil _)), ⟨j + 1, _, by omega, hs2, mm, gb, fun k hk hkj => ?_, rfl⟩, ?_⟩
    · rcases Nat.lt_or_ge k j with q | q
      · exact hall k hk q
      · obtain rfl : k = j := by omega
        rw [nodeOk, he, hf]
        rfl
    · show (g.ns.length - IntKind.i64.wrap ((j : Int) + 1)).toNat < (g.ns.length - (j : Int)).toNat
      rw [hs2]
      omega
  conv => whnf
  simp at hd
  have yes1 : g.ns.all nodeOk = true := all_yes (fun k hk => hall k hk (by omega))
  clear hall hd hj
  have hN : IntKind.i64.wrap ((g.ns.length : Int) - 1) = (g.ns.length : Int) - 1 := wrap_i64 (by omega) (by have := ok.ln; omega)
  refine ⟨fun env hh => ∃ (j : Nat) (z : Int), j ≤ g.es.length ∧ z = j ∧ Ab.Mod none_ h hh ∧ hh.obj h.next = some (.row true 3 g.cells) ∧ (∀ k (hk : k < g.es.length), k < j → edgeOk (g.ns.length - 1) g.es[k] = true) ∧ env = [(4, i64 z), (1, .ptr (some (h.next, 0)))],
    fun env _ => match get env 4 with
      | .int _ z => (g.es.length - z).toNat
      | _ => 0, ⟨_, Forget.cons rfl (Forget.cons rfl (Forget.nil _)), 0, _, Nat.zero_le _, rfl, mm, gb, fun k _ hk => absurd hk (Nat.not_lt_zero k), rfl⟩, ?_⟩
  clear mm gb
  rintro _ h2 ⟨j, z, hj, rfl, mm, gb, hall, rfl⟩
  conv => whnf
  refine ⟨_, Cell.mk gb rfl, ?_⟩
  conv => whnf
  refine br_mk (fun hd => ?_) (fun hd => ?_)
  · conv => whnf
    simp at hd
    obtain ⟨i, c, e1, k1, k2⟩ := sls_get eC_len (SlIs.old ok.e mm (fun _ _ k => k)) rfl hd
    refine ⟨_, Cell.mk gb rfl, ?_⟩
    conv => whnf
    refine ⟨i, c, j, e1, rfl, hd, ?_⟩
    conv => whnf
    refine ⟨_, k1, ?_⟩
    conv => whnf
    obtain ⟨g0, gx, mx⟩ := lay_row (h := h2) (sz := 3) [i64 0, i64 0, i64 0] (eC g.es[j])
    refine ⟨_, _, g0, Nat.le_of_ble_eq_true rfl, ?_⟩
    conv => whnf
    have gb := mx.get gb (.inl (fun k => k))
    have mm := mod_none mm mx
    refine ⟨_, Cell.mk gx rfl, ?_⟩
    conv => whnf
    refine ⟨_, Cell.mk gb rfl, ?_⟩
    conv => whnf
    rw [hN]
    refine (within41 _ g.es[j].1 0 ((g.ns.length : Int) - 1)).mono ?_
    rintro _ h' ⟨eh, rfl⟩
    subst h'
    conv => whnf
    refine br_mk (fun he => ?_) (fun he => ?_)
    · conv => whnf
      have he : inB g.es[j].1 0 ((g.ns.length : Int) - 1) = false := by simpa using he
      exact ⟨by rw [no2 (all_no hd (by rw [edgeOk, he, Bool.false_and]))], mm⟩
    conv => whnf
    have he : inB g.es[j].1 0 ((g.ns.length : Int) - 1) = true := by simpa using he
    refine ⟨_, Cell.mk gx rfl, ?_⟩
    conv => whnf
    refine ⟨_, Cell.mk gb rfl, ?_⟩
    conv => whnf
    rw [hN]
    refine (within41 _ g.es[j].2.1 0 ((g.ns.length : Int) - 1)).mono ?_
    rintro _ h' ⟨eh, rfl⟩
    subst h'
    conv => whnf
    refine br_mk (fun hf => ?_) (fun hf => ?_)
    · conv => whnf
      have hf : inB g.es[j].2.1 0 ((g.ns.length : Int) - 1) = false := by simpa using hf
      exact ⟨by rw [no2 (all_no hd (by rw [edgeOk, hf, Bool.false_and, Bool.and_false]))], mm⟩
    conv => whnf
    have hf : inB g.es[j].2.1 0 ((g.ns.length : Int) - 1) = true := by simpa using hf
    refine ⟨_, Cell.mk gx rfl, ?_⟩
    conv => whnf
    refine (within41 _ g.es[j].2.2 1 65535).mono ?_
    rintro _ h' ⟨eh, rfl⟩
    subst h'
    conv => whnf
    refine br_mk (fun hg => ?_) (fun hg => ?_)
    · conv => whnf
      have hg : inB g.es[j].2.2 1 65535 = false := by simpa using hg
      exact ⟨by rw [no2 (all_no hd (by rw [edgeOk, hg, Bool.and_false, Bool.and_false]))], mm⟩
    conv => whnf
    have hg : inB g.es[j].2.2 1 65535 = true := by simpa using hg
    have hs2 := succ_i64 (j := j) (n := g.es.length) hd (by have := ok.le; omega)
    refine ⟨_, Forget.cons rfl (Forget.cons rfl (Forget.nil _)), ⟨j + 1, _, by omega, hs2, mm, gb, fun k hk hkj => ?_, rfl⟩, ?_⟩
    · rcases Nat.lt_or_ge k j with q | q
      · exact hall k hk q
      · obtain rfl : k = j := by omega
        rw [edgeOk, he, hf, hg]
        rfl
    · show (g.es.length - IntKind.i64.wrap ((j : Int) + 1)).toNat < (g.es.length - (j : Int)).toNat
      rw [hs2]
      omega
  conv => whnf
  simp at hd
  have yes2 : g.es.all (edgeOk (g.ns.length - 1)) = true := all_yes (fun k hk => hall k hk (by omega))
  clear hall hd hj
  refine ⟨fun env hh => ∃ (j : Nat) (z : Int), j ≤ g.bs.length ∧ z = j ∧ Ab.Mod none_ h hh ∧ hh.obj h.next = some (.row true 3 g.cells) ∧ (∀ k, k < j → banOk g k = true) ∧ env = [(6, i64 z), (1, .ptr (some (h.next, 0)))],
    fun env _ => match get env 6 with
      | .int _ z => (g.bs.length - z).toNat
      | _ => 0, ⟨_, Forget.cons rfl (Forget.cons rfl (Forget.nil _)), 0, _, Nat.zero_le _, rfl, mm, gb, fun k hk => absurd hk (Nat.not_lt_zero k), rfl⟩, ?_⟩
  clear mm gb
  rintro _ h3 ⟨j, z, hj, rfl, mm, gb, hall, rfl⟩
  conv => whnf
  refine ⟨_, Cell.mk gb rfl, ?_⟩
  conv => whnf
  refine br_mk (fun hd => ?_) (fun hd => ?_)
  rotate_left
  · conv => whnf
    simp at hd
    have yes3 : (List.range g.bs.length).all (banOk g) = true := range_yes (fun k hk => hall k (by omega))
    exact ⟨by rw [mayG, hsz, yes1, yes2, yes3]; rfl, mm⟩
  conv => whnf
  simp at hd
  have hle := ok.le
  have hbj : banAt g j = g.bs[j] := by
    rw [banAt, List.getD_eq_getElem?_getD, List.getElem?_eq_getElem hd]
    rfl
  obtain ⟨i, c, e1, k1, k2⟩ := sls_get pC_len (SlIs.old ok.b mm (fun _ _ k => k)) rfl hd
  refine ⟨_, Cell.mk gb rfl, ?_⟩
  conv => whnf
  refine ⟨i, c, j, e1, rfl, hd, ?_⟩
  conv => whnf
  refine ⟨_, k1, ?_⟩
  conv => whnf
  obtain ⟨g0, gx, mx⟩ := lay_row (h := h3) (sz := 2) [i64 0, i64 0] (pC g.bs[j])
  refine ⟨_, _, g0, Nat.le_of_ble_eq_true rfl, ?_⟩
  conv => whnf
  have gb := mx.get gb (.inl (fun k => k))
  have mm := mod_none mm mx
  have hE : IntKind.i64.wrap ((g.es.length : Int) - 1) = (g.es.length : Int) - 1 := wrap_i64 (by omega) (by omega)
  refine ⟨[0, 1, 2, 3, 4, 5, 6, 7, 8, 9, 10, 11, 12, 13, 14, 15, 16, 17, 18, 19, 20, 21, 22, 23, 24, 25, 26, 27, 28, 29, 30, 31, 32, 33, 34], [0, 1, 0, 4, 12, 28, 63, 127, 255, 511, 1023, 511, 2559, 6655, 14847, 32767, 65535, 131071, 262143, 524287, 1048575, 524287, 2621439, 8388607, 16777215, 33554431, 524287, 67633151, 524287, 268959743, 1007157247, 2080899071, 4228382719, 8589934591, 17179869183], by kernel_rfl, ?_⟩
  conv => whnf
  refine ⟨_, Cell.mk gx rfl, ?_⟩
  conv => whnf
  refine ⟨_, Cell.mk gb rfl, ?_⟩
  conv => whnf
  rw [hE]
  refine (within41 _ g.bs[j].1 0 ((g.es.length : Int) - 1)).mono ?_
  rintro _ h' ⟨eh, rfl⟩
  subst h'
  conv => whnf
  refine br_mk (fun he => ?_) (fun he => ?_)
  · conv => whnf
    have he : inB g.bs[j].1 0 ((g.es.length : Int) - 1) = false := by simpa using he
    exact ⟨by rw [no3 (range_no hd (by rw [banOk, hbj, he, Bool.false_and]))], mm⟩
  conv => whnf
  have he : inB g.bs[j].1 0 ((g.es.length : Int) - 1) = true := by simpa using he
  refine ⟨_, Cell.mk gx rfl, ?_⟩
  conv => whnf
  refine ⟨_, Cell.mk gb rfl, ?_⟩
  conv => whnf
  rw [hE]
  refine (within41 _ g.bs[j].2 0 ((g.es.length : Int) - 1)).mono ?_
  rintro _ h' ⟨eh, rfl⟩
  subst h'
  conv => whnf
  refine br_mk (fun hf => ?_) (fun hf => ?_)
  · conv => whnf
    have hf : inB g.bs[j].2 0 ((g.es.length : Int) - 1) = false := by simpa using hf
    exact ⟨by rw [no3 (range_no hd (by rw [banOk, hbj, hf, Bool.false_and, Bool.and_false]))], mm⟩
  conv => whnf
  have hf : inB g.bs[j].2 0 ((g.es.length : Int) - 1) = true := by simpa using hf
  obtain ⟨a, ha1, ha2⟩ : ∃ a : Nat, g.bs[j].1 = a ∧ a < g.es.length := by
    simp only [inB, Bool.and_eq_true, decide_eq_true_eq] at he
    exact ⟨g.bs[j].1.toNat, by omega, by omega⟩
  obtain ⟨b, hb1, hb2⟩ : ∃ b : Nat, g.bs[j].2 = b ∧ b < g.es.length := by
    simp only [inB, Bool.and_eq_true, decide_eq_true_eq] at hf
    exact ⟨g.bs[j].2.toNat, by omega, by omega⟩
  have hea : edgeAt g g.bs[j].1 = g.es[a] := by
    rw [edgeAt, ha1, Int.toNat_natCast, List.getD_eq_getElem?_getD, List.getElem?_eq_getElem ha2]
    rfl
  have heb : edgeAt g g.bs[j].2 = g.es[b] := by
    rw [edgeAt, hb1, Int.toNat_natCast, List.getD_eq_getElem?_getD, List.getElem?_eq_getElem hb2]
    rfl
  refine ⟨_, Cell.mk gb rfl, ?_⟩
  conv => whnf
  refine ⟨_, Cell.mk gx rfl, ?_⟩
  conv => whnf
  obtain ⟨ia, ca, ea1, _, ka2⟩ := sls_get eC_len (SlIs.old ok.e mm (fun _ _ k => k)) rfl ha2
  obtain ⟨ib, cb, eb1, _, kb2⟩ := sls_get eC_len (SlIs.old ok.e mm (fun _ _ k => k)) rfl hb2
  refine ⟨ia, ca, a, ea1, ha1, ha2, ?_⟩
  conv => whnf
  refine ⟨_, ka2 1 (i64 g.es[a].2.1) rfl, ?_⟩
  conv => whnf
  refine ⟨_, Cell.mk gb rfl, ?_⟩
  conv => whnf
  refine ⟨_, Cell.mk gx rfl, ?_⟩
  conv => whnf
  refine ⟨ib, cb, b, eb1, hb1, hb2, ?_⟩
  conv => whnf
  refine ⟨_, kb2 0 (i64 g.es[b].1) rfl, ?_⟩
  conv => whnf
  refine br_mk (fun hg => ?_) (fun hg => ?_)
  · conv => whnf
    have hg : (g.es[a].2.1 == g.es[b].1) = false := by simpa using hg
    exact ⟨by rw [no3 (range_no hd (by rw [banOk, hbj, hea, heb, hg, Bool.false_and, Bool.and_false, Bool.and_false]))], mm⟩
  conv => whnf
  have hg : (g.es[a].2.1 == g.es[b].1) = true := by simpa using hg
  have hs2 := succ_i64 (j := j) (n := g.bs.length) hd (by have := ok.lb; omega)
  refine ⟨[0, 1, 2, 3, 4, 5, 6, 7, 8, 9, 10, 11, 12, 13, 14, 15, 16, 17, 18, 19, 20, 21, 22, 23, 24, 25, 26, 27, 28, 29, 30, 31, 32, 33, 34, 35, 36, 37], [0, 1, 3, 7, 15, 7, 39, 127, 255, 511, 7, 1031, 4095, 8191, 16383, 32767, 16383, 81919, 262143, 524287, 1048575, 16383, 2113535, 8388607, 16777215, 33554431, 67108863, 33554431, 167772159, 536870911, 1073741823, 2147483647, 33554431, 4328521727, 17179869183, 34359738367, 68719476735, 137438953471], by kernel_rfl, ?_⟩
  conv => whnf
  refine br_mk (fun hp => ?_) (fun hp => ?_)
  rotate_left
  · conv => whnf
    simp at hp
    obtain rfl : j = 0 := by omega
    refine ⟨_, Forget.cons rfl (Forget.cons rfl (Forget.nil _)), ⟨0 + 1, _, by omega, hs2, mm, gb, fun k hkj => ?_, rfl⟩, ?_⟩
    · obtain rfl : k = 0 := by omega
      rw [banOk, hbj, he, hf, hea, heb, hg]
      rfl
    · show (g.bs.length - IntKind.i64.wrap (((0 : Nat) : Int) + 1)).toNat < (g.bs.length - ((0 : Nat) : Int)).toNat
      rw [hs2]
      omega
  conv => whnf
  simp at hp
  obtain ⟨j, rfl⟩ : ∃ j', j = j' + 1 := ⟨j - 1, by omega⟩
  have hj1 : j < g.bs.length := by omega
  have hbp : banAt g (j + 1 - 1) = g.bs[j] := by
    show banAt g j = _
    rw [banAt, List.getD_eq_getElem?_getD, List.getElem?_eq_getElem hj1]
    rfl
  have hwj : IntKind.i64.wrap (((j + 1 : Nat) : Int) - 1) = (j : Int) := by
    rw [wrap_i64 (by omega) (by omega)]
    omega
  obtain ⟨i', c', e1', k1', k2'⟩ := sls_get pC_len (SlIs.old ok.b mm (fun _ _ k => k)) rfl hj1
  have fail : ¬ ordI g.bs[j] g.bs[j + 1] < 0 → mayG g = false := fun hq => by
    have hno : banOk g (j + 1) = false := by
      rw [banOk, hbj, hbp, decide_eq_false hq]
      have : (j + 1 == 0) = false := by simp
      rw [this, Bool.or_false, Bool.and_false, Bool.and_false, Bool.and_false]
    exact no3 (range_no hd hno)
  have pass : ordI g.bs[j] g.bs[j + 1] < 0 → ∀ k, k < j + 1 + 1 → banOk g k = true := fun hq k hkj => by
    rcases Nat.lt_or_ge k (j + 1) with q | q
    · exact hall k q
    · obtain rfl : k = j + 1 := by omega
      rw [banOk, hbj, hbp, he, hf, hea, heb, hg, decide_eq_true hq, Bool.or_true]
      rfl
  have hmu : (g.bs.length - IntKind.i64.wrap (((j + 1 : Nat) : Int) + 1)).toNat < (g.bs.length - ((j + 1 : Nat) : Int)).toNat := by
    rw [hs2]
    omega
  refine ⟨_, Cell.mk gb rfl, ?_⟩
  conv => whnf
  refine ⟨i', c', j, e1', hwj, hj1, ?_⟩
  conv => whnf
  refine ⟨_, k2' 0 (i64 g.bs[j].1) rfl, ?_⟩
  conv => whnf
  refine ⟨_, Cell.mk gx rfl, ?_⟩
  conv => whnf
  refine br_mk (fun hq => ?_) (fun hq => ?_)
  · conv => whnf
    simp at hq
    exact ⟨by rw [fail (by rw [ordI_neg]; simp; omega)], mm⟩
  conv => whnf
  simp at hq
  refine ⟨_, Cell.mk gb rfl, ?_⟩
  conv => whnf
  refine ⟨i', c', j, e1', hwj, hj1, ?_⟩
  conv => whnf
  refine ⟨_, k2' 0 (i64 g.bs[j].1) rfl, ?_⟩
  conv => whnf
  refine ⟨_, Cell.mk gx rfl, ?_⟩
  conv => whnf
  refine br_mk (fun hr => ?_) (fun hr => ?_)
  rotate_left
  · conv => whnf
    simp at hr
    exact ⟨_, Forget.cons rfl (Forget.cons rfl (Forget.nil _)), ⟨j + 1 + 1, _, by omega, hs2, mm, gb, pass (by rw [ordI_neg]; simp; omega), rfl⟩, hmu⟩
  conv => whnf
  simp at hr
  refine ⟨_, Cell.mk gb rfl, ?_⟩
  conv => whnf
  refine ⟨i', c', j, e1', hwj, hj1, ?_⟩
  conv => whnf
  refine ⟨_, k2' 1 (i64 g.bs[j].2) rfl, ?_⟩
  conv => whnf
  refine ⟨_, Cell.mk gx rfl, ?_⟩
  conv => whnf
  refine br_mk (fun ht => ?_) (fun ht => ?_)
  · conv => whnf
    simp at ht
    exact ⟨by rw [fail (by rw [ordI_neg]; simp; omega)], mm⟩
  conv => whnf
  simp at ht
  exact ⟨_, Forget.cons rfl (Forget.cons rfl (Forget.nil _)), ⟨j + 1 + 1, _, by omega, hs2, mm, gb, pass (by rw [ordI_neg]; simp; omega), rfl⟩, hmu⟩
end Go.Proofs.Ytjjcalkeodfokaa
