/- H4: texts of another seat, turned to this one. -/
import Derived.Test.YteapijoibimfnaaGreatHW
set_option linter.unusedVariables false
set_option linter.unusedSimpArgs false
namespace Go.Proofs.YteapijoibimfnaaGreat
open Go Go.Ab Go.Shelf
def inB (n lo hi : Int) : Bool := decide (lo ≤ n) && decide (n ≤ hi)
theorem within44 (h : H) (n lo hi : Int) : ACalls Tryz.prog 55 [i64 n, i64 lo, i64 hi] h (fun r h' => h' = h ∧ r = .bool (inB n lo hi)) := by
  refine call_ Tryz.func55 rfl rfl (by kernel_rfl) ?_
  conv => whnf
  refine br_mk (fun hb => ?_) (fun hb => ?_)
  · conv => whnf
    refine ⟨rfl, ?_⟩
    have hb : decide (lo ≤ n) = true := hb
    rw [inB, hb]
    rfl
  · conv => whnf
    refine ⟨rfl, ?_⟩
    have hb : decide (lo ≤ n) = false := hb
    rw [inB, hb]
    rfl
theorem isNaN49 (h : H) (n : Int) : ACalls Tryz.prog 81 [i64 n] h (fun r h' => h' = h ∧ r = .bool false) := by
  refine call_ Tryz.func81 rfl rfl (by kernel_rfl) ?_
  conv => whnf
  refine ⟨rfl, ?_⟩
  have : (n != n) = false := by simp
  rw [this]
def cmpI (x y : Int) : Int := if x < y then -1 else if y < x then 1 else 0
theorem compare48 (h : H) (x y : Int) : ACalls Tryz.prog 72 [i64 x, i64 y] h (fun r h' => h' = h ∧ r = i64 (cmpI x y)) := by
  refine call_ Tryz.func72 rfl rfl (by kernel_rfl) ?_
  conv => whnf
  refine (isNaN49 h x).mono ?_
  rintro _ h' ⟨eh, rfl⟩
  subst h'
  conv => whnf
  refine (isNaN49 h y).mono ?_
  rintro _ h' ⟨eh, rfl⟩
  subst h'
  conv => whnf
  refine br_mk (fun hb => ?_) (fun hb => ?_)
  · conv => whnf
    simp at hb
    exact ⟨rfl, by rw [cmpI, if_pos hb]⟩
  conv => whnf
  simp at hb
  refine br_mk (fun hc => ?_) (fun hc => ?_)
  · conv => whnf
    simp at hc
    exact ⟨rfl, by rw [cmpI, if_neg (by omega), if_pos hc]⟩
  · conv => whnf
    simp at hc
    exact ⟨rfl, by rw [cmpI, if_neg (by omega), if_neg (by omega)]⟩
def orI (a b : Int) : Int := if a ≠ 0 then a else b
theorem or47 {h : H} {i : Nat} {a b : Int} (g : h.obj i = some (.row true 1 (ints .i64 [a, b]))) : ACalls Tryz.prog 71 [.sl (some (i, 0)) 2] h (fun r h' => h' = h ∧ r = i64 (orI a b)) := by
  refine call_ Tryz.func71 rfl rfl (by kernel_rfl) ?_
  conv => whnf
  refine ⟨fun env hh => hh = h ∧ ∃ (j : Nat) (z : Int), j ≤ 2 ∧ z = j ∧ (∀ k, k < j → ([a, b] : List Int).getD k 0 = 0) ∧ env = [(8, i64 z), (7, i64 2), (6, .sl (some (i, 0)) 2), (3, i64 0)],
    fun env _ => match get env 8 with
      | .int _ z => (2 - z).toNat
      | _ => 0, ⟨_, Forget.cons rfl (Forget.cons rfl (Forget.cons rfl (Forget.cons rfl (Forget.nil _)))), rfl, 0, _, Nat.zero_le _, rfl, fun k hk => absurd hk (Nat.not_lt_zero k), rfl⟩, ?_⟩
  rintro _ _ ⟨rfl, j, z, hj, rfl, hz, rfl⟩
  conv => whnf
  refine br_mk (fun hb => ?_) (fun hb => ?_)
  rotate_left
  · conv => whnf
    simp at hb
    have h0 := hz 0 (by omega)
    have h1 := hz 1 (by omega)
    have h0 : a = 0 := h0
    have h1 : b = 0 := h1
    subst h0 h1
    exact ⟨rfl, rfl⟩
  conv => whnf
  simp at hb
  refine ⟨i, 0, j, rfl, rfl, by omega, ?_⟩
  conv => whnf
  refine ⟨_, Cell.mk (v := i64 (([a, b] : List Int).getD j 0)) g ?_, ?_⟩
  · match j, hb with
    | 0, _ => rfl
    | 1, _ => rfl
  conv => whnf
  refine br_mk (fun hc => ?_) (fun hc => ?_)
  · conv => whnf
    simp at hc
    refine ⟨rfl, ?_⟩
    match j, hb, hc, hz with
    | 0, _, hc, _ =>
      have hc : a ≠ 0 := hc
      rw [orI, if_pos hc]
      rfl
    | 1, _, hc, hz =>
      have h0 : a = 0 := hz 0 (by omega)
      rw [orI, if_neg (by simp [h0])]
      rfl
  conv => whnf
  simp at hc
  have hs2 := succ_i64 (j := j) (n := 2) (by omega) (by omega)
  refine ⟨_, Forget.cons rfl (Forget.cons rfl (Forget.cons rfl (Forget.cons rfl (Forget.nil _)))), ⟨rfl, j + 1, _, by omega, hs2, fun k hk => ?_, rfl⟩, ?_⟩
  · rcases Nat.lt_or_ge k j with hkj | hkj
    · exact hz k hkj
    · obtain rfl : k = j := by omega
      simpa using hc
  · show ((2 : Int) - IntKind.i64.wrap ((j : Int) + 1)).toNat < ((2 : Int) - (j : Int)).toNat
    rw [hs2]
    omega
def ordI (a b : Int × Int) : Int := orI (cmpI a.1 b.1) (cmpI a.2 b.2)
theorem order45 (h : H) (a b : Int × Int) : ACalls Tryz.prog 56 [.agg [i64 a.1, i64 a.2], .agg [i64 b.1, i64 b.2]] h (fun r h' => r = i64 (ordI a b) ∧ Ab.Mod none_ h h') := by
  refine call_ Tryz.func56 rfl rfl (by kernel_rfl) ?_
  conv => whnf
  have m1 := Mod.push none_ h (.row true 2 [i64 a.1, i64 a.2])
  have m2 := Mod.push none_ (h.push (.row true 2 [i64 a.1, i64 a.2])) (.row true 2 [i64 b.1, i64 b.2])
  have g1 : ((h.push (.row true 2 [i64 a.1, i64 a.2])).push (.row true 2 [i64 b.1, i64 b.2])).obj h.next = some (.row true 2 [i64 a.1, i64 a.2]) := m2.get (H.obj_push_new _ _) (.inl (fun k => k))
  have g2 : ((h.push (.row true 2 [i64 a.1, i64 a.2])).push (.row true 2 [i64 b.1, i64 b.2])).obj (h.next + 1) = some (.row true 2 [i64 b.1, i64 b.2]) := H.obj_push_new (h.push (.row true 2 [i64 a.1, i64 a.2])) _
  have mm := mod_none m1 m2
  refine ⟨[0, 1, 2, 3, 5, 6, 7, 8, 4, 9, 10, 11, 12], [0, 1, 0, 4, 15, 0, 32, 0, 128, 511, 1023, 2047, 4095], by kernel_rfl, ?_⟩
  conv => whnf
  refine ⟨_, Cell.mk g1 rfl, ?_⟩
  conv => whnf
  refine ⟨_, Cell.mk g2 rfl, ?_⟩
  conv => whnf
  refine ⟨_, Cell.mk g1 rfl, ?_⟩
  conv => whnf
  refine ⟨_, Cell.mk g2 rfl, ?_⟩
  conv => whnf
  refine (compare48 _ a.1 b.1).mono ?_
  rintro _ h' ⟨eh, rfl⟩
  subst h'
  conv => whnf
  refine ⟨?_, ?_⟩
  · conv => whnf
    exact ⟨_, Cell.mk g2 rfl, rfl⟩
  refine ⟨?_, ?_⟩
  · conv => whnf
    exact ⟨_, Cell.mk g1 rfl, rfl⟩
  conv => whnf
  refine (compare48 _ a.2 b.2).mono ?_
  rintro _ h' ⟨eh, rfl⟩
  subst h'
  conv => whnf
  rw [twoNum]
  have m3 := Mod.push none_ ((h.push (.row true 2 [i64 a.1, i64 a.2])).push (.row true 2 [i64 b.1, i64 b.2])) (.row true 1 (ints .i64 [cmpI a.1 b.1, cmpI a.2 b.2]))
  refine (or47 (H.obj_push_new ((h.push (.row true 2 [i64 a.1, i64 a.2])).push (.row true 2 [i64 b.1, i64 b.2])) (.row true 1 (ints .i64 [cmpI a.1 b.1, cmpI a.2 b.2])))).mono ?_
  rintro _ h' ⟨eh, rfl⟩
  subst h'
  conv => whnf
  exact ⟨rfl, mod_none mm m3⟩
def pC (p : Int × Int) : List V := [i64 p.1, i64 p.2]
def eC (e : Int × Int × Int) : List V := [i64 e.1, i64 e.2.1, i64 e.2.2]
structure Gra where
  np : Option (Nat × Nat)
  ns : List (Int × Int)
  ep : Option (Nat × Nat)
  es : List (Int × Int × Int)
  bp : Option (Nat × Nat)
  bs : List (Int × Int)
def Gra.cells (g : Gra) : List V := [.sl g.np g.ns.length, .sl g.ep g.es.length, .sl g.bp g.bs.length]
structure Gra.ok (h : H) (g : Gra) : Prop where
  n : SlIs h g.np g.ns.length false 2 (g.ns.flatMap pC)
  e : SlIs h g.ep g.es.length false 3 (g.es.flatMap eC)
  b : SlIs h g.bp g.bs.length false 2 (g.bs.flatMap pC)
  ln : g.ns.length ≤ 100000
  le : g.es.length ≤ 100000
  lb : g.bs.length ≤ 100000
theorem Gra.ok.old {S : Nat → Prop} {h h' : H} {g : Gra} (o : g.ok h) (m : Ab.Mod S h h') (hS : ∀ i, i < h.next → ¬ S i) : g.ok h' :=
  ⟨SlIs.old o.n m hS, SlIs.old o.e m hS, SlIs.old o.b m hS, o.ln, o.le, o.lb⟩
def nodeOk (n : Int × Int) : Bool := inB n.1 0 4095 && inB n.2 0 4095
def edgeOk (N : Int) (e : Int × Int × Int) : Bool := inB e.1 0 N && (inB e.2.1 0 N && inB e.2.2 1 65535)
def edgeAt (g : Gra) (k : Int) : Int × Int × Int := g.es.getD k.toNat (0, 0, 0)
def banAt (g : Gra) (j : Nat) : Int × Int := g.bs.getD j (0, 0)
def banOk (g : Gra) (j : Nat) : Bool := inB (banAt g j).1 0 (g.es.length - 1) && (inB (banAt g j).2 0 (g.es.length - 1) && ((edgeAt g (banAt g j).1).2.1 == (edgeAt g (banAt g j).2).1 && (j == 0 || decide (ordI (banAt g (j - 1)) (banAt g j) < 0))))
def sizesOk (g : Gra) : Bool := inB g.ns.length 1 256 && (decide (g.es.length ≤ 512) && decide (g.bs.length ≤ 1024))
def mayG (g : Gra) : Bool := sizesOk g && (g.ns.all nodeOk && (g.es.all (edgeOk (g.ns.length - 1)) && (List.range g.bs.length).all (banOk g)))
theorem pC_len (p : Int × Int) : (pC p).length = 2 := rfl
theorem eC_len (p : Int × Int × Int) : (eC p).length = 3 := rfl
set_option maxHeartbeats 1000000 in
theorem may33 {h : H} (g : Gra) (ok : g.ok h) : ACalls Tryz.prog 30 [.agg g.cells] h (fun r h' => r = .bool (mayG g) ∧ Ab.Mod none_ h h') := by
  refine call_ Tryz.func30 rfl rfl (by kernel_rfl) ?_
  conv => whnf
  have mm := Mod.push none_ h (.row true 3 g.cells)
  have gb : (h.push (.row true 3 g.cells)).obj h.next = some (.row true 3 g.cells) := H.obj_push_new _ _
  refine ⟨_, Cell.mk gb rfl, ?_⟩
  conv => whnf
  refine (within44 _ (g.ns.length : Int) 1 256).mono ?_
  rintro _ h' ⟨eh, rfl⟩
  subst h'
  conv => whnf
  refine br_mk (fun ha => ?_) (fun ha => ?_)
  · conv => whnf
    have ha : inB g.ns.length 1 256 = false := by simpa using ha
    exact ⟨by rw [mayG, sizesOk, ha, Bool.false_and, Bool.false_and], mm⟩
  conv => whnf
  have ha : inB g.ns.length 1 256 = true := by simpa using ha
  refine ⟨_, Cell.mk gb rfl, ?_⟩
  conv => whnf
  refine br_mk (fun hb => ?_) (fun hb => ?_)
  · conv => whnf
    simp at hb
    exact ⟨by rw [mayG, sizesOk, decide_eq_false (show ¬ g.es.length ≤ 512 by omega), Bool.false_and, Bool.and_false, Bool.false_and], mm⟩
  conv => whnf
  simp at hb
  refine ⟨_, Cell.mk gb rfl, ?_⟩
  conv => whnf
  refine br_mk (fun hc => ?_) (fun hc => ?_)
  · conv => whnf
    simp at hc
    exact ⟨by rw [mayG, sizesOk, decide_eq_false (show ¬ g.bs.length ≤ 1024 by omega), Bool.and_false, Bool.and_false, Bool.false_and], mm⟩
  conv => whnf
  simp at hc
  have hsz : sizesOk g = true := by rw [sizesOk, ha, decide_eq_true (show g.es.length ≤ 512 by omega), decide_eq_true (show g.bs.length ≤ 1024 by omega)]; rfl
  have no1 : g.ns.all nodeOk = false → mayG g = false := fun e => by rw [mayG, e, Bool.false_and, Bool.and_false]
  have no2 : g.es.all (edgeOk (g.ns.length - 1)) = false → mayG g = false := fun e => by rw [mayG, e, Bool.false_and, Bool.and_false, Bool.and_false]
  have no3 : (List.range g.bs.length).all (banOk g) = false → mayG g = false := fun e => by rw [mayG, e, Bool.and_false, Bool.and_false, Bool.and_false]
  refine ⟨_, Cell.mk gb rfl, ?_⟩
  conv => whnf
  refine ⟨fun env hh => ∃ (j : Nat) (z : Int), j ≤ g.ns.length ∧ z = j ∧ Ab.Mod none_ h hh ∧ hh.obj h.next = some (.row true 3 g.cells) ∧ (∀ k (hk : k < g.ns.length), k < j → nodeOk g.ns[k] = true) ∧ env = [(31, i64 z), (30, i64 g.ns.length), (29, .sl g.np g.ns.length), (1, .ptr (some (h.next, 0)))],
    fun env _ => match get env 31 with
      | .int _ z => (g.ns.length - z).toNat
      | _ => 0, ⟨_, Forget.cons rfl (Forget.cons rfl (Forget.cons rfl (Forget.cons rfl (Forget.nil _)))), 0, _, Nat.zero_le _, rfl, mm, gb, fun k _ hk => absurd hk (Nat.not_lt_zero k), rfl⟩, ?_⟩
  clear mm gb
  rintro _ h1 ⟨j, z, hj, rfl, mm, gb, hall, rfl⟩
  conv => whnf
  refine br_mk (fun hd => ?_) (fun hd => ?_)
  · conv => whnf
    simp at hd
    obtain ⟨i, c, e1, k1, k2⟩ := sls_get pC_len (SlIs.old ok.n mm (fun _ _ k => k)) rfl hd
    rw [e1]
    refine ⟨i, c, j, rfl, rfl, hd, ?_⟩
    conv => whnf
    refine ⟨_, k1, ?_⟩
    conv => whnf
    obtain ⟨g0, gx, mx⟩ := lay_row (h := h1) (sz := 2) [i64 0, i64 0] (pC g.ns[j])
    refine ⟨_, _, g0, Nat.le_of_ble_eq_true rfl, ?_⟩
    conv => whnf
    have gb := mx.get gb (.inl (fun k => k))
    have mm := mod_none mm mx
    refine ⟨_, Cell.mk gx rfl, ?_⟩
    conv => whnf
    refine (within44 _ g.ns[j].1 0 4095).mono ?_
    rintro _ h' ⟨eh, rfl⟩
    subst h'
    conv => whnf
    refine br_mk (fun he => ?_) (fun he => ?_)
    · conv => whnf
      have he : inB g.ns[j].1 0 4095 = false := by simpa using he
      exact ⟨by rw [no1 (all_no hd (by rw [nodeOk, he, Bool.false_and]))], mm⟩
    conv => whnf
    have he : inB g.ns[j].1 0 4095 = true := by simpa using he
    refine ⟨_, Cell.mk gx rfl, ?_⟩
    conv => whnf
    refine (within44 _ g.ns[j].2 0 4095).mono ?_
    rintro _ h' ⟨eh, rfl⟩
    subst h'
    conv => whnf
    refine br_mk (fun hf => ?_) (fun hf => ?_)
    · conv => whnf
      have hf : inB g.ns[j].2 0 4095 = false := by simpa using hf
      exact ⟨by rw [no1 (all_no hd (by rw [nodeOk, hf, Bool.and_false]))], mm⟩
    conv => whnf
    have hf : inB g.ns[j].2 0 4095 = true := by simpa using hf
    have hs2 := succ_i64 (j := j) (n := g.ns.length) hd (by have := ok.ln; omega)
    refine ⟨_, Forget.cons rfl (Forget.cons rfl (Forget.cons rfl (Forget.cons rfl (Forget.nil _)))), ⟨j + 1, _, by omega, hs2, mm, gb, fun k hk hkj => ?_, rfl⟩, ?_⟩
    · rcases Nat.lt_or_ge k j with q | q
      · exact hall k hk q
      · obtain rfl : k = j := by omega
        rw [nodeOk, he, hf]
        rfl
    · show (g.ns.length - IntKind.i64.wrap ((j : Int) + 1)).toNat < (g.ns.length - (j : Int)).toNat
      rw [hs2]
      omega
  conv => whnf
  simp at hd
  have yes1 : g.ns.all nodeOk = true := all_yes (fun k hk => hall k hk (by omega))
  clear hall hd hj
  refine ⟨_, Cell.mk gb rfl, ?_⟩
  conv => whnf
  refine ⟨_, Cell.mk gb rfl, ?_⟩
  conv => whnf
  have hN : IntKind.i64.wrap ((g.ns.length : Int) - 1) = (g.ns.length : Int) - 1 := wrap_i64 (by omega) (by have := ok.ln; omega)
  rw [hN]
  refine ⟨fun env hh => ∃ (j : Nat) (z : Int), j ≤ g.es.length ∧ z = j ∧ Ab.Mod none_ h hh ∧ hh.obj h.next = some (.row true 3 g.cells) ∧ (∀ k (hk : k < g.es.length), k < j → edgeOk (g.ns.length - 1) g.es[k] = true) ∧ env = [(53, i64 z), (52, i64 g.es.length), (51, .sl g.ep g.es.length), (5, i64 ((g.ns.length : Int) - 1)), (1, .ptr (some (h.next, 0)))],
    fun env _ => match get env 53 with
      | .int _ z => (g.es.length - z).toNat
      | _ => 0, ⟨_, Forget.cons rfl (Forget.cons rfl (Forget.cons rfl (Forget.cons rfl (Forget.cons rfl (Forget.nil _))))), 0, _, Nat.zero_le _, rfl, mm, gb, fun k _ hk => absurd hk (Nat.not_lt_zero k), rfl⟩, ?_⟩
  clear mm gb
  rintro _ h2 ⟨j, z, hj, rfl, mm, gb, hall, rfl⟩
  conv => whnf
  refine br_mk (fun hd => ?_) (fun hd => ?_)
  · conv => whnf
    simp at hd
    obtain ⟨i, c, e1, k1, k2⟩ := sls_get eC_len (SlIs.old ok.e mm (fun _ _ k => k)) rfl hd
    rw [e1]
    refine ⟨i, c, j, rfl, rfl, hd, ?_⟩
    conv => whnf
    refine ⟨_, k1, ?_⟩
    conv => whnf
    obtain ⟨g0, gx, mx⟩ := lay_row (h := h2) (sz := 3) [i64 0, i64 0, i64 0] (eC g.es[j])
    refine ⟨_, _, g0, Nat.le_of_ble_eq_true rfl, ?_⟩
    conv => whnf
    have gb := mx.get gb (.inl (fun k => k))
    have mm := mod_none mm mx
    refine ⟨_, Cell.mk gx rfl, ?_⟩
    conv => whnf
    refine (within44 _ g.es[j].1 0 ((g.ns.length : Int) - 1)).mono ?_
    rintro _ h' ⟨eh, rfl⟩
    subst h'
    conv => whnf
    refine br_mk (fun he => ?_) (fun he => ?_)
    · conv => whnf
      have he : inB g.es[j].1 0 ((g.ns.length : Int) - 1) = false := by simpa using he
      exact ⟨by rw [no2 (all_no hd (by rw [edgeOk, he, Bool.false_and]))], mm⟩
    conv => whnf
    have he : inB g.es[j].1 0 ((g.ns.length : Int) - 1) = true := by simpa using he
    refine ⟨_, Cell.mk gx rfl, ?_⟩
    conv => whnf
    refine (within44 _ g.es[j].2.1 0 ((g.ns.length : Int) - 1)).mono ?_
    rintro _ h' ⟨eh, rfl⟩
    subst h'
    conv => whnf
    refine br_mk (fun hf => ?_) (fun hf => ?_)
    · conv => whnf
      have hf : inB g.es[j].2.1 0 ((g.ns.length : Int) - 1) = false := by simpa using hf
      exact ⟨by rw [no2 (all_no hd (by rw [edgeOk, hf, Bool.false_and, Bool.and_false]))], mm⟩
    conv => whnf
    have hf : inB g.es[j].2.1 0 ((g.ns.length : Int) - 1) = true := by simpa using hf
    refine ⟨_, Cell.mk gx rfl, ?_⟩
    conv => whnf
    refine (within44 _ g.es[j].2.2 1 65535).mono ?_
    rintro _ h' ⟨eh, rfl⟩
    subst h'
    conv => whnf
    refine br_mk (fun hg => ?_) (fun hg => ?_)
    · conv => whnf
      have hg : inB g.es[j].2.2 1 65535 = false := by simpa using hg
      exact ⟨by rw [no2 (all_no hd (by rw [edgeOk, hg, Bool.and_false, Bool.and_false]))], mm⟩
    conv => whnf
    have hg : inB g.es[j].2.2 1 65535 = true := by simpa using hg
    have hs2 := succ_i64 (j := j) (n := g.es.length) hd (by have := ok.le; omega)
    refine ⟨_, Forget.cons rfl (Forget.cons rfl (Forget.cons rfl (Forget.cons rfl (Forget.cons rfl (Forget.nil _))))), ⟨j + 1, _, by omega, hs2, mm, gb, fun k hk hkj => ?_, rfl⟩, ?_⟩
    · rcases Nat.lt_or_ge k j with q | q
      · exact hall k hk q
      · obtain rfl : k = j := by omega
        rw [edgeOk, he, hf, hg]
        rfl
    · show (g.es.length - IntKind.i64.wrap ((j : Int) + 1)).toNat < (g.es.length - (j : Int)).toNat
      rw [hs2]
      omega
  conv => whnf
  simp at hd
  have yes2 : g.es.all (edgeOk (g.ns.length - 1)) = true := all_yes (fun k hk => hall k hk (by omega))
  clear hall hd hj
  refine ⟨_, Cell.mk gb rfl, ?_⟩
  conv => whnf
  refine ⟨fun env hh => ∃ (j : Nat) (z : Int), j ≤ g.bs.length ∧ z = j ∧ Ab.Mod none_ h hh ∧ hh.obj h.next = some (.row true 3 g.cells) ∧ (∀ k, k < j → banOk g k = true) ∧ env = [(79, i64 z), (78, i64 g.bs.length), (77, .sl g.bp g.bs.length), (1, .ptr (some (h.next, 0)))],
    fun env _ => match get env 79 with
      | .int _ z => (g.bs.length - z).toNat
      | _ => 0, ⟨_, Forget.cons rfl (Forget.cons rfl (Forget.cons rfl (Forget.cons rfl (Forget.nil _)))), 0, _, Nat.zero_le _, rfl, mm, gb, fun k hk => absurd hk (Nat.not_lt_zero k), rfl⟩, ?_⟩
  clear mm gb
  rintro _ h3 ⟨j, z, hj, rfl, mm, gb, hall, rfl⟩
  conv => whnf
  refine br_mk (fun hd => ?_) (fun hd => ?_)
  rotate_left
  · conv => whnf
    simp at hd
    have yes3 : (List.range g.bs.length).all (banOk g) = true := range_yes (fun k hk => hall k (by omega))
    exact ⟨by rw [mayG, hsz, yes1, yes2, yes3]; rfl, mm⟩
  conv => whnf
  simp at hd
  have hle := ok.le
  have hbj : banAt g j = g.bs[j] := by
    rw [banAt, List.getD_eq_getElem?_getD, List.getElem?_eq_getElem hd]
    rfl
  obtain ⟨i, c, e1, k1, k2⟩ := sls_get pC_len (SlIs.old ok.b mm (fun _ _ k => k)) rfl hd
  rw [e1]
  refine ⟨i, c, j, rfl, rfl, hd, ?_⟩
  conv => whnf
  refine ⟨_, k1, ?_⟩
  conv => whnf
  obtain ⟨g0, gx, mx⟩ := lay_row (h := h3) (sz := 2) [i64 0, i64 0] (pC g.bs[j])
  refine ⟨_, _, g0, Nat.le_of_ble_eq_true rfl, ?_⟩
  conv => whnf
  have gb := mx.get gb (.inl (fun k => k))
  have mm := mod_none mm mx
  refine ⟨_, Cell.mk gb rfl, ?_⟩
  conv => whnf
  have hE : IntKind.i64.wrap ((g.es.length : Int) - 1) = (g.es.length : Int) - 1 := wrap_i64 (by omega) (by omega)
  rw [hE]
  refine ⟨[0, 1, 2, 3, 4, 5, 6, 7, 8, 9, 10, 11, 12, 13, 14, 15, 16, 17, 18, 19, 20, 21, 22, 23, 24, 25, 26, 27, 28, 29, 30, 31, 32, 33, 34, 35, 36, 37, 38, 39, 40, 41, 42, 43], [0, 1, 0, 7, 15, 31, 63, 127, 63, 511, 1023, 2047, 4095, 8191, 16383, 8191, 40959, 131071, 262143, 524287, 8191, 1056767, 8191, 4202495, 15736831, 32514047, 66068479, 134217727, 268435455, 536870911, 1073741823, 2147483647, 4294967295, 8589934591, 17179869183, 8589934591, 42949672959, 137438953471, 274877906943, 8589934591, 1099511627775, 2199023255551, 4398046511103, 8796093022207], by kernel_rfl, ?_⟩
  conv => whnf
  refine ⟨_, Cell.mk gx rfl, ?_⟩
  conv => whnf
  refine (within44 _ g.bs[j].1 0 ((g.es.length : Int) - 1)).mono ?_
  rintro _ h' ⟨eh, rfl⟩
  subst h'
  conv => whnf
  refine br_mk (fun he => ?_) (fun he => ?_)
  · conv => whnf
    have he : inB g.bs[j].1 0 ((g.es.length : Int) - 1) = false := by simpa using he
    exact ⟨by rw [no3 (range_no hd (by rw [banOk, hbj, he, Bool.false_and]))], mm⟩
  conv => whnf
  have he : inB g.bs[j].1 0 ((g.es.length : Int) - 1) = true := by simpa using he
  refine ⟨_, Cell.mk gx rfl, ?_⟩
  conv => whnf
  refine (within44 _ g.bs[j].2 0 ((g.es.length : Int) - 1)).mono ?_
  rintro _ h' ⟨eh, rfl⟩
  subst h'
  conv => whnf
  refine br_mk (fun hf => ?_) (fun hf => ?_)
  · conv => whnf
    have hf : inB g.bs[j].2 0 ((g.es.length : Int) - 1) = false := by simpa using hf
    exact ⟨by rw [no3 (range_no hd (by rw [banOk, hbj, hf, Bool.false_and, Bool.and_false]))], mm⟩
  conv => whnf
  have hf : inB g.bs[j].2 0 ((g.es.length : Int) - 1) = true := by simpa using hf
  obtain ⟨a, ha1, ha2⟩ : ∃ a : Nat, g.bs[j].1 = a ∧ a < g.es.length := by
    simp only [inB, Bool.and_eq_true, decide_eq_true_eq] at he
    exact ⟨g.bs[j].1.toNat, by omega, by omega⟩
  obtain ⟨b, hb1, hb2⟩ : ∃ b : Nat, g.bs[j].2 = b ∧ b < g.es.length := by
    simp only [inB, Bool.and_eq_true, decide_eq_true_eq] at hf
    exact ⟨g.bs[j].2.toNat, by omega, by omega⟩
  have hea : edgeAt g g.bs[j].1 = g.es[a] := by
    rw [edgeAt, ha1, Int.toNat_natCast, List.getD_eq_getElem?_getD, List.getElem?_eq_getElem ha2]
    rfl
  have heb : edgeAt g g.bs[j].2 = g.es[b] := by
    rw [edgeAt, hb1, Int.toNat_natCast, List.getD_eq_getElem?_getD, List.getElem?_eq_getElem hb2]
    rfl
  refine ⟨_, Cell.mk gb rfl, ?_⟩
  conv => whnf
  refine ⟨_, Cell.mk gx rfl, ?_⟩
  conv => whnf
  obtain ⟨ia, ca, ea1, _, ka2⟩ := sls_get eC_len (SlIs.old ok.e mm (fun _ _ k => k)) rfl ha2
  obtain ⟨ib, cb, eb1, _, kb2⟩ := sls_get eC_len (SlIs.old ok.e mm (fun _ _ k => k)) rfl hb2
  refine ⟨ia, ca, a, ea1, ha1, ha2, ?_⟩
  conv => whnf
  refine ⟨_, ka2 1 (i64 g.es[a].2.1) rfl, ?_⟩
  conv => whnf
  refine ⟨_, Cell.mk gb rfl, ?_⟩
  conv => whnf
  refine ⟨_, Cell.mk gx rfl, ?_⟩
  conv => whnf
  refine ⟨ib, cb, b, eb1, hb1, hb2, ?_⟩
  conv => whnf
  refine ⟨_, kb2 0 (i64 g.es[b].1) rfl, ?_⟩
  conv => whnf
  refine br_mk (fun hg => ?_) (fun hg => ?_)
  · conv => whnf
    have hg : (g.es[a].2.1 == g.es[b].1) = false := by simpa using hg
    exact ⟨by rw [no3 (range_no hd (by rw [banOk, hbj, hea, heb, hg, Bool.false_and, Bool.and_false, Bool.and_false]))], mm⟩
  conv => whnf
  have hg : (g.es[a].2.1 == g.es[b].1) = true := by simpa using hg
  have hs2 := succ_i64 (j := j) (n := g.bs.length) hd (by have := ok.lb; omega)
  refine br_mk (fun hp => ?_) (fun hp => ?_)
  rotate_left
  · conv => whnf
    simp at hp
    obtain rfl : j = 0 := by omega
    refine ⟨_, Forget.cons rfl (Forget.cons rfl (Forget.cons rfl (Forget.cons rfl (Forget.nil _)))), ⟨0 + 1, _, by omega, hs2, mm, gb, fun k hkj => ?_, rfl⟩, ?_⟩
    · obtain rfl : k = 0 := by omega
      rw [banOk, hbj, he, hf, hea, heb, hg]
      rfl
    · show (g.bs.length - IntKind.i64.wrap (((0 : Nat) : Int) + 1)).toNat < (g.bs.length - ((0 : Nat) : Int)).toNat
      rw [hs2]
      omega
  conv => whnf
  simp at hp
  obtain ⟨j, rfl⟩ : ∃ j', j = j' + 1 := ⟨j - 1, by omega⟩
  have hj1 : j < g.bs.length := by omega
  have hbp : banAt g (j + 1 - 1) = g.bs[j] := by
    show banAt g j = _
    rw [banAt, List.getD_eq_getElem?_getD, List.getElem?_eq_getElem hj1]
    rfl
  refine ⟨_, Cell.mk gb rfl, ?_⟩
  conv => whnf
  obtain ⟨i', c', e1', k1', _⟩ := sls_get pC_len (SlIs.old ok.b mm (fun _ _ k => k)) rfl hj1
  refine ⟨i', c', j, e1', by rw [wrap_i64 (by omega) (by omega)]; omega, hj1, ?_⟩
  conv => whnf
  refine ⟨_, k1', ?_⟩
  conv => whnf
  refine ⟨pC g.bs[j + 1], Cells.mk gx (Nat.le_of_ble_eq_true rfl) rfl, ?_⟩
  conv => whnf
  refine (order45 _ g.bs[j] g.bs[j + 1]).mono ?_
  rintro _ h4 ⟨rfl, m4⟩
  have gb := m4.get gb (.inl (fun k => k))
  have mm := mod_none mm m4
  conv => whnf
  refine br_mk (fun hq => ?_) (fun hq => ?_)
  · conv => whnf
    simp at hq
    have hno : banOk g (j + 1) = false := by
      rw [banOk, hbj, hbp, decide_eq_false (show ¬ ordI g.bs[j] g.bs[j + 1] < 0 by omega)]
      have : (j + 1 == 0) = false := by simp
      rw [this, Bool.or_false, Bool.and_false, Bool.and_false, Bool.and_false]
    exact ⟨by rw [no3 (range_no hd hno)], mm⟩
  conv => whnf
  simp at hq
  refine ⟨_, Forget.cons rfl (Forget.cons rfl (Forget.cons rfl (Forget.cons rfl (Forget.nil _)))), ⟨j + 1 + 1, _, by omega, hs2, mm, gb, fun k hkj => ?_, rfl⟩, ?_⟩
  · rcases Nat.lt_or_ge k (j + 1) with q | q
    · exact hall k q
    · obtain rfl : k = j + 1 := by omega
      rw [banOk, hbj, hbp, he, hf, hea, heb, hg, decide_eq_true (show ordI g.bs[j] g.bs[j + 1] < 0 by omega), Bool.or_true]
      rfl
  · show (g.bs.length - IntKind.i64.wrap (((j + 1 : Nat) : Int) + 1)).toNat < (g.bs.length - ((j + 1 : Nat) : Int)).toNat
    rw [hs2]
    omega
theorem clone34 {h : H} {p : Option (Nat × Nat)} {n : Nat} {cs : List V} (o : SlIs h p n false 2 cs) (hn : n ≤ 1000000) : ACalls Tryz.prog 31 [.sl p n] h (fun v h' => ∃ q, v = .sl q n ∧ NewSl h h' q n 2 cs ∧ Ab.Mod none_ h h') := by
  refine call_ Tryz.func31 rfl rfl (by kernel_rfl) ?_
  conv => whnf
  refine br_mk (fun hb => ?_) (fun hb => ?_)
  · conv => whnf
    cases p with
    | some x => simp at hb
    | none =>
      have hl := o.1
      rcases o.2 with ⟨h0, _⟩ | ⟨i, j, b, r, e, _⟩
      · subst h0
        rw [Nat.zero_mul] at hl
        rw [List.eq_nil_of_length_eq_zero hl]
        exact ⟨none, rfl, NewSl.nil _ _ _, ⟨Nat.le_refl _, fun _ _ _ => rfl⟩⟩
      · cases e
  conv => whnf
  refine ⟨[], _, ⟨rfl, .inr ⟨_, 0, true, [], rfl, by simp [H.push]; rfl, fun e => e, by simp, by simp⟩⟩, o.get (Mod.push none_ h _) (fun _ _ _ => .inl (fun k => k)), by rw [show (T.at_ 86).bytes = 16 from rfl]; omega, by omega, fun p' h' hs hm hf => ?_⟩
  conv => whnf
  rw [Nat.zero_add] at hs ⊢
  refine ⟨p', rfl, ⟨hs, fun i o e => ?_⟩, (Mod.push none_ h _).trans' hm (fun _ _ k => k) (fun i hi k => ?_)⟩
  · rcases hf i o e with k | k
    · rw [e] at k
      injection k with k
      injection k with k
      omega
    · exact Nat.le_trans (Nat.le_succ _) k
  · obtain ⟨o, k⟩ := k
    injection k with k
    injection k with k
    omega
theorem clone35 {h : H} {p : Option (Nat × Nat)} {n : Nat} {cs : List V} (o : SlIs h p n false 3 cs) (hn : n ≤ 1000000) : ACalls Tryz.prog 32 [.sl p n] h (fun v h' => ∃ q, v = .sl q n ∧ NewSl h h' q n 3 cs ∧ Ab.Mod none_ h h') := by
  refine call_ Tryz.func32 rfl rfl (by kernel_rfl) ?_
  conv => whnf
  refine br_mk (fun hb => ?_) (fun hb => ?_)
  · conv => whnf
    cases p with
    | some x => simp at hb
    | none =>
      have hl := o.1
      rcases o.2 with ⟨h0, _⟩ | ⟨i, j, b, r, e, _⟩
      · subst h0
        rw [Nat.zero_mul] at hl
        rw [List.eq_nil_of_length_eq_zero hl]
        exact ⟨none, rfl, NewSl.nil _ _ _, ⟨Nat.le_refl _, fun _ _ _ => rfl⟩⟩
      · cases e
  conv => whnf
  refine ⟨[], _, ⟨rfl, .inr ⟨_, 0, true, [], rfl, by simp [H.push]; rfl, fun e => e, by simp, by simp⟩⟩, o.get (Mod.push none_ h _) (fun _ _ _ => .inl (fun k => k)), by rw [show (T.at_ 54).bytes = 24 from rfl]; omega, by omega, fun p' h' hs hm hf => ?_⟩
  conv => whnf
  rw [Nat.zero_add] at hs ⊢
  refine ⟨p', rfl, ⟨hs, fun i o e => ?_⟩, (Mod.push none_ h _).trans' hm (fun _ _ k => k) (fun i hi k => ?_)⟩
  · rcases hf i o e with k | k
    · rw [e] at k
      injection k with k
      injection k with k
      omega
    · exact Nat.le_trans (Nat.le_succ _) k
  · obtain ⟨o, k⟩ := k
    injection k with k
    injection k with k
    omega
theorem clone36 {h : H} {p : Option (Nat × Nat)} {n : Nat} {cs : List V} (o : SlIs h p n false 2 cs) (hn : n ≤ 1000000) : ACalls Tryz.prog 33 [.sl p n] h (fun v h' => ∃ q, v = .sl q n ∧ NewSl h h' q n 2 cs ∧ Ab.Mod none_ h h') := by
  refine call_ Tryz.func33 rfl rfl (by kernel_rfl) ?_
  conv => whnf
  refine br_mk (fun hb => ?_) (fun hb => ?_)
  · conv => whnf
    cases p with
    | some x => simp at hb
    | none =>
      have hl := o.1
      rcases o.2 with ⟨h0, _⟩ | ⟨i, j, b, r, e, _⟩
      · subst h0
        rw [Nat.zero_mul] at hl
        rw [List.eq_nil_of_length_eq_zero hl]
        exact ⟨none, rfl, NewSl.nil _ _ _, ⟨Nat.le_refl _, fun _ _ _ => rfl⟩⟩
      · cases e
  conv => whnf
  refine ⟨[], _, ⟨rfl, .inr ⟨_, 0, true, [], rfl, by simp [H.push]; rfl, fun e => e, by simp, by simp⟩⟩, o.get (Mod.push none_ h _) (fun _ _ _ => .inl (fun k => k)), by rw [show (T.at_ 88).bytes = 16 from rfl]; omega, by omega, fun p' h' hs hm hf => ?_⟩
  conv => whnf
  rw [Nat.zero_add] at hs ⊢
  refine ⟨p', rfl, ⟨hs, fun i o e => ?_⟩, (Mod.push none_ h _).trans' hm (fun _ _ k => k) (fun i hi k => ?_)⟩
  · rcases hf i o e with k | k
    · rw [e] at k
      injection k with k
      injection k with k
      omega
    · exact Nat.le_trans (Nat.le_succ _) k
  · obtain ⟨o, k⟩ := k
    injection k with k
    injection k with k
    omega
theorem clone46 {h : H} {p : Option (Nat × Nat)} {n : Nat} {cs : List V} (o : SlIs h p n false 1 cs) (hn : n ≤ 1000000) : ACalls Tryz.prog 24 [.sl p n] h (fun v h' => ∃ q, v = .sl q n ∧ NewSl h h' q n 1 cs ∧ Ab.Mod none_ h h') := by
  refine call_ Tryz.func24 rfl rfl (by kernel_rfl) ?_
  conv => whnf
  refine br_mk (fun hb => ?_) (fun hb => ?_)
  · conv => whnf
    cases p with
    | some x => simp at hb
    | none =>
      have hl := o.1
      rcases o.2 with ⟨h0, _⟩ | ⟨i, j, b, r, e, _⟩
      · subst h0
        rw [Nat.zero_mul] at hl
        rw [List.eq_nil_of_length_eq_zero hl]
        exact ⟨none, rfl, NewSl.nil _ _ _, ⟨Nat.le_refl _, fun _ _ _ => rfl⟩⟩
      · cases e
  conv => whnf
  refine ⟨[], _, ⟨rfl, .inr ⟨_, 0, true, [], rfl, by simp [H.push]; rfl, fun e => e, by simp, by simp⟩⟩, o.get (Mod.push none_ h _) (fun _ _ _ => .inl (fun k => k)), by rw [show (T.at_ 3).bytes = 8 from rfl]; omega, by omega, fun p' h' hs hm hf => ?_⟩
  conv => whnf
  rw [Nat.zero_add] at hs ⊢
  refine ⟨p', rfl, ⟨hs, fun i o e => ?_⟩, (Mod.push none_ h _).trans' hm (fun _ _ k => k) (fun i hi k => ?_)⟩
  · rcases hf i o e with k | k
    · rw [e] at k
      injection k with k
      injection k with k
      omega
    · exact Nat.le_trans (Nat.le_succ _) k
  · obtain ⟨o, k⟩ := k
    injection k with k
    injection k with k
    omega
theorem key38 (h : H) (e : Int × Int × Int) : ACalls Tryz.prog 35 [.agg (eC e)] h (fun v h' => v = i64 e.1 ∧ Ab.Mod none_ h h') := by
  refine call_ Tryz.func35 rfl rfl (by kernel_rfl) ?_
  conv => whnf
  refine ⟨_, Cell.mk (H.obj_push_new h (.row true 3 (eC e))) rfl, ?_⟩
  conv => whnf
  exact ⟨rfl, Mod.push none_ h (.row true 3 (eC e))⟩
theorem key39 (h : H) (e : Int × Int × Int) : ACalls Tryz.prog 36 [.agg (eC e)] h (fun v h' => v = i64 e.2.1 ∧ Ab.Mod none_ h h') := by
  refine call_ Tryz.func36 rfl rfl (by kernel_rfl) ?_
  conv => whnf
  refine ⟨_, Cell.mk (H.obj_push_new h (.row true 3 (eC e))) rfl, ?_⟩
  conv => whnf
  exact ⟨rfl, Mod.push none_ h (.row true 3 (eC e))⟩
def cn (P : Nat → Bool) : Nat → Nat
  | 0 => 0
  | j + 1 => cn P j + (bif P j then 1 else 0)
theorem cn_le (P : Nat → Bool) : ∀ j, cn P j ≤ j
  | 0 => Nat.le_refl _
  | j + 1 => by
    have := cn_le P j
    rw [cn]
    cases P j <;> simp <;> omega
theorem cn_add {P Q R : Nat → Bool} : ∀ {j : Nat}, (∀ k, k < j → (bif R k then 1 else 0) = (bif P k then 1 else 0) + (bif Q k then 1 else 0)) → cn R j = cn P j + cn Q j
  | 0, _ => rfl
  | j + 1, h => by
    have := cn_add (j := j) (fun k hk => h k (by omega))
    have := h j (by omega)
    rw [cn, cn, cn]
    omega
theorem cn_mono (P : Nat → Bool) {i : Nat} : ∀ {j : Nat}, i ≤ j → cn P i ≤ cn P j
  | 0, h => by
    obtain rfl : i = 0 := by omega
    exact Nat.le_refl _
  | j + 1, h => by
    rcases Nat.lt_or_ge i (j + 1) with q | q
    · have := cn_mono P (i := i) (j := j) (by omega)
      rw [cn]
      omega
    · obtain rfl : i = j + 1 := by omega
      exact Nat.le_refl _
theorem cn_none {P : Nat → Bool} : ∀ {j : Nat}, (∀ k, k < j → P k = false) → cn P j = 0
  | 0, _ => rfl
  | j + 1, h => by
    rw [cn, cn_none (fun k hk => h k (by omega)), h j (by omega)]
    rfl
def keyC (ks : Nat → Nat) (v : Nat) (k : Nat) : Bool := ks k + 1 == v
def keyB (ks : Nat → Nat) (v : Nat) (k : Nat) : Bool := decide (ks k < v)
theorem below_succ (ks : Nat → Nat) (E v : Nat) : cn (keyB ks (v + 1)) E = cn (keyB ks v) E + cn (keyC ks (v + 1)) E := cn_add fun k _ => by
  unfold keyB keyC
  by_cases h1 : ks k < v
  · have h2 : ks k < v + 1 := by omega
    have h3 : (ks k == v) = false := by simpa using (show ks k ≠ v by omega)
    simp [h1, h2, h3]
  · by_cases h4 : ks k = v
    · simp [h4]
    · have h2 : ¬ ks k < v + 1 := by omega
      have h5 : (ks k == v) = false := by simpa using h4
      simp [h1, h2, h5]
theorem next_lt (ks : Nat → Nat) {E j : Nat} (hj : j < E) : cn (keyB ks (ks j)) E + cn (keyC ks (ks j + 1)) j < E := by
  have h1 := below_succ ks E (ks j)
  have h2 := cn_le (keyB ks (ks j + 1)) E
  have h3 := cn_mono (keyC ks (ks j + 1)) (i := j + 1) (j := E) hj
  rw [cn] at h3
  have : keyC ks (ks j + 1) j = true := by simp [keyC]
  rw [this] at h3
  simp only [cond_true] at h3
  omega
theorem inB_true {n lo hi : Int} (h : inB n lo hi = true) : lo ≤ n ∧ n ≤ hi := by
  simpa [inB] using h
theorem mayG_edge {g : Gra} (h : mayG g = true) {j : Nat} (hj : j < g.es.length) : 0 ≤ g.es[j].1 ∧ g.es[j].1 ≤ g.ns.length - 1 ∧ 0 ≤ g.es[j].2.1 ∧ g.es[j].2.1 ≤ g.ns.length - 1 ∧ 1 ≤ g.es[j].2.2 ∧ g.es[j].2.2 ≤ 65535 := by
  simp only [mayG, Bool.and_eq_true, List.all_eq_true] at h
  have := h.2.2.1 _ (List.getElem_mem hj)
  simp only [edgeOk, Bool.and_eq_true] at this
  have h1 := inB_true this.1
  have h2 := inB_true this.2.1
  have h3 := inB_true this.2.2
  exact ⟨h1.1, h1.2, h2.1, h2.2, h3.1, h3.2⟩
theorem mayG_size {g : Gra} (h : mayG g = true) : 1 ≤ g.ns.length ∧ g.ns.length ≤ 256 ∧ g.es.length ≤ 512 ∧ g.bs.length ≤ 1024 := by
  simp only [mayG, sizesOk, Bool.and_eq_true, decide_eq_true_eq] at h
  have := inB_true h.1.1
  exact ⟨by omega, by omega, h.1.2.1, h.1.2.2⟩
theorem Gra.ok.but {S : Nat → Prop} {h h' : H} {g : Gra} (o : g.ok h) (m : Ab.Mod S h h') (hn : ∀ i o, g.np = some (i, o) → ¬ S i) (he : ∀ i o, g.ep = some (i, o) → ¬ S i) (hb : ∀ i o, g.bp = some (i, o) → ¬ S i) : g.ok h' :=
  ⟨o.n.get m (fun i c e => .inl (hn i c e)), o.e.get m (fun i c e => .inl (he i c e)), o.b.get m (fun i c e => .inl (hb i c e)), o.ln, o.le, o.lb⟩
theorem ordI_neg (p b : Int × Int) : (ordI p b < 0) ↔ ¬ (p.1 > b.1 ∨ (p.1 = b.1 ∧ p.2 ≥ b.2)) := by
  unfold ordI orI cmpI
  by_cases h1 : p.1 < b.1
  · (simp [h1]) <;> omega
  · by_cases h2 : b.1 < p.1
    · (simp [h1, h2]) <;> omega
    · by_cases h3 : p.2 < b.2
      · (simp [h1, h2, h3]) <;> omega
      · by_cases h4 : b.2 < p.2
        · (simp [h1, h2, h3, h4]) <;> omega
        · (simp [h1, h2, h3, h4]) <;> omega
def gra0 : Gra := ⟨none, [], none, [], none, []⟩
def cf (v : Int) (es : List (Int × Int × Int)) : Nat := es.countP fun e => e.1 == v
theorem cf_snoc (v : Int) (es : List (Int × Int × Int)) (e : Int × Int × Int) : cf v (es ++ [e]) = cf v es + (if e.1 = v then 1 else 0) := by
  rw [cf, cf, List.countP_append, List.countP_cons, List.countP_nil]
  simp
theorem cf_take {es : List (Int × Int × Int)} {b : Nat} (hb : b < es.length) (v : Int) : cf v (es.take (b + 1)) = cf v (es.take b) + (if es[b].1 = v then 1 else 0) := by
  rw [List.take_add_one, List.getElem?_eq_getElem hb]
  exact cf_snoc v (es.take b) es[b]
def Qn (W i k : Nat) (v : Int) : Nat := (if v < i then 2 else 0) + (if v < i + 1 then 1 else 0) + (if v < i + W then 1 else 0) + (if v = i then k else 0) + (if 1 ≤ k ∧ v = i + 1 then 1 else 0) + (if 2 ≤ k ∧ v = i + W then 1 else 0)
structure Eo (N W i k : Nat) (es : List (Int × Int × Int)) : Prop where
  ok : ∀ e ∈ es, edgeOk (N - 1) e = true
  cnt : ∀ v, cf v es ≤ Qn W i k v
  len : es.length ≤ 4 * i + 2 * k
def nxt (W i k : Nat) : Nat := if k = 0 then i + 1 else i + W
theorem Qn_step {W i k : Nat} (hk : k < 2) (v : Int) : Qn W i (k + 1) v = Qn W i k v + (if (i : Int) = v then 1 else 0) + (if (nxt W i k : Int) = v then 1 else 0) := by
  unfold Qn nxt
  obtain rfl | rfl : k = 0 ∨ k = 1 := by omega
  · have e1 : ((i : Int) = v) = (v = i) := propext eq_comm
    have e2 : (((i + 1 : Nat) : Int) = v) = (v = i + 1) := by
      rw [Int.natCast_add]
      exact propext eq_comm
    simp only [if_pos, e1, e2]
    by_cases h1 : v = i <;> by_cases h2 : v = i + 1 <;> simp [h1, h2] <;> (repeat' split) <;> omega
  · have e1 : ((i : Int) = v) = (v = i) := propext eq_comm
    have e2 : (((i + W : Nat) : Int) = v) = (v = i + W) := by
      rw [Int.natCast_add]
      exact propext eq_comm
    simp only [e1, e2, if_neg (show ¬ (1 : Nat) = 0 by decide)]
    by_cases h1 : v = i <;> by_cases h2 : v = i + 1 <;> by_cases h3 : v = i + W <;> simp [h1, h2, h3] <;> (repeat' split) <;> omega
theorem Eo.skip {N W i k : Nat} {es : List (Int × Int × Int)} (o : Eo N W i k es) (hk : k < 2) : Eo N W i (k + 1) es := by
  refine ⟨o.ok, fun v => Nat.le_trans (o.cnt v) ?_, by have := o.len; omega⟩
  rw [Qn_step hk]
  omega
theorem Eo.step {N W i k : Nat} {es : List (Int × Int × Int)} (o : Eo N W i k es) (hk : k < 2) (hi : i < N) (hx : nxt W i k < N) (u w : Nat) (hu : u < 9) (hw : w < 9) (a b : Bool) :
    Eo N W i (k + 1) (es ++ (if a then [((i : Int), (nxt W i k : Int), 1 + (u : Int))] else []) ++ (if b then [((nxt W i k : Int), (i : Int), 1 + (w : Int))] else [])) := by
  have e1 : edgeOk (N - 1) ((i : Int), (nxt W i k : Int), 1 + (u : Int)) = true := by
    simp [edgeOk, inB]
    omega
  have e2 : edgeOk (N - 1) ((nxt W i k : Int), (i : Int), 1 + (w : Int)) = true := by
    simp [edgeOk, inB]
    omega
  have hl := o.len
  refine ⟨fun e he => ?_, fun v => ?_, ?_⟩
  · simp only [List.mem_append] at he
    rcases he with (he | he) | he
    · exact o.ok e he
    · cases a with
      | false => cases he
      | true =>
        obtain rfl := List.mem_singleton.1 he
        exact e1
    · cases b with
      | false => cases he
      | true =>
        obtain rfl := List.mem_singleton.1 he
        exact e2
  · rw [Qn_step hk]
    have hc := o.cnt v
    cases a <;> cases b <;> simp only [Bool.false_eq_true, if_false, if_true, List.append_nil, cf_snoc] <;> omega
  · cases a <;> cases b <;> simp <;> omega
theorem Eo.next {N W i : Nat} {es : List (Int × Int × Int)} (o : Eo N W i 2 es) : Eo N W (i + 1) 0 es := by
  refine ⟨o.ok, fun v => Nat.le_trans (o.cnt v) ?_, by have := o.len; omega⟩
  unfold Qn
  rw [Int.natCast_add]
  by_cases h1 : v = i
  · subst h1
    simp
    (repeat' split) <;> omega
  · by_cases h2 : v = i + 1 <;> by_cases h3 : v = i + W <;> simp [h1, h2, h3] <;> (repeat' split) <;> omega
structure Ex (N j : Nat) (es : List (Int × Int × Int)) : Prop where
  ok : ∀ e ∈ es, edgeOk (N - 1) e = true
  cnt : ∀ v, cf v es ≤ 4 + j
  len : es.length ≤ 64 + j
theorem Eo.ex {N W : Nat} {es : List (Int × Int × Int)} (o : Eo N W N 0 es) (hN : N ≤ 16) : Ex N 0 es := by
  refine ⟨o.ok, fun v => Nat.le_trans (o.cnt v) ?_, by have := o.len; omega⟩
  unfold Qn
  simp
  repeat' split
  all_goals omega
theorem Ex.add {N j : Nat} {es : List (Int × Int × Int)} (o : Ex N j es) {x y w : Nat} (hx : x < N) (hy : y < N) (hw : w < 40) : Ex N (j + 1) (es ++ [((x : Int), (y : Int), 1 + (w : Int))]) := by
  have e1 : edgeOk (N - 1) ((x : Int), (y : Int), 1 + (w : Int)) = true := by
    simp [edgeOk, inB]
    omega
  refine ⟨fun e he => ?_, fun v => ?_, ?_⟩
  · rcases List.mem_append.1 he with he | he
    · exact o.ok e he
    · obtain rfl := List.mem_singleton.1 he
      exact e1
  · rw [cf_snoc]
    have := o.cnt v
    split <;> omega
  · have := o.len
    simp
    omega
theorem Ex.one {N : Nat} (hN : 1 ≤ N) : Ex N 3 [(0, 0, 3)] := by
  refine ⟨fun e he => ?_, fun v => ?_, by decide⟩
  · obtain rfl := List.mem_singleton.1 he
    simp [edgeOk, inB]
    omega
  · have := List.countP_le_length (p := fun e : Int × Int × Int => e.1 == v) (l := [(0, 0, 3)])
    exact Nat.le_trans this (by decide)
theorem Ex.mono {N i j : Nat} {es : List (Int × Int × Int)} (o : Ex N i es) (h : i ≤ j) : Ex N j es := ⟨o.ok, fun v => Nat.le_trans (o.cnt v) (by omega), Nat.le_trans o.len (by omega)⟩
def toOf (es : List (Int × Int × Int)) (a : Nat) : Int := (es.getD a (0, 0, 0)).2.1
def frOf (es : List (Int × Int × Int)) (a : Nat) : Int := (es.getD a (0, 0, 0)).1
def lexlt (p q : Int × Int) : Prop := p.1 < q.1 ∨ (p.1 = q.1 ∧ p.2 < q.2)
structure Bo (es : List (Int × Int × Int)) (a b : Nat) (bs : List (Int × Int)) : Prop where
  ok : ∀ x ∈ bs, ∃ c d : Nat, x = ((c : Int), (d : Int)) ∧ c < es.length ∧ d < es.length ∧ toOf es c = frOf es d
  lt : ∀ x ∈ bs, lexlt x ((a : Int), (b : Int))
  ch : ∀ j, j + 1 < bs.length → lexlt (bs.getD j (0, 0)) (bs.getD (j + 1) (0, 0))
  len : bs.length ≤ 7 * a + cf (toOf es a) (es.take b)
theorem Bo.nil (es : List (Int × Int × Int)) : Bo es 0 0 [] := ⟨fun x h => (by cases h), fun x h => (by cases h), fun j h => (by simp at h), Nat.zero_le _⟩
theorem Bo.skip {es : List (Int × Int × Int)} {a b : Nat} {bs : List (Int × Int)} (o : Bo es a b bs) (hb : b < es.length) : Bo es a (b + 1) bs := by
  refine ⟨o.ok, fun x hx => ?_, o.ch, ?_⟩
  · have := o.lt x hx
    unfold lexlt at *
    simp only at *
    omega
  · have := o.len
    rw [cf_take hb]
    omega
theorem frOf_get {es : List (Int × Int × Int)} {b : Nat} (hb : b < es.length) : frOf es b = es[b].1 := by
  rw [frOf, List.getD_eq_getElem?_getD, List.getElem?_eq_getElem hb]
  rfl
theorem toOf_get {es : List (Int × Int × Int)} {b : Nat} (hb : b < es.length) : toOf es b = es[b].2.1 := by
  rw [toOf, List.getD_eq_getElem?_getD, List.getElem?_eq_getElem hb]
  rfl
theorem app_left {xs ys : List (Int × Int)} {j : Nat} (h : j < xs.length) : (xs ++ ys).getD j (0, 0) = xs.getD j (0, 0) := by
  rw [List.getD_eq_getElem?_getD, List.getElem?_append_left h, List.getD_eq_getElem?_getD]
theorem app_last {xs : List (Int × Int)} {y : Int × Int} : (xs ++ [y]).getD xs.length (0, 0) = y := by
  rw [List.getD_eq_getElem?_getD, List.getElem?_append_right (Nat.le_refl _), Nat.sub_self]
  rfl
theorem Bo.add {es : List (Int × Int × Int)} {a b : Nat} {bs : List (Int × Int)} (o : Bo es a b bs) (ha : a < es.length) (hb : b < es.length) (he : es[a].2.1 = es[b].1) : Bo es a (b + 1) (bs ++ [((a : Int), (b : Int))]) := by
  have he' : toOf es a = frOf es b := by rw [toOf_get ha, frOf_get hb, he]
  refine ⟨fun x hx => ?_, fun x hx => ?_, fun j hj => ?_, ?_⟩
  · rcases List.mem_append.1 hx with hx | hx
    · exact o.ok x hx
    · obtain rfl := List.mem_singleton.1 hx
      exact ⟨a, b, rfl, ha, hb, he'⟩
  · rcases List.mem_append.1 hx with hx | hx
    · have := o.lt x hx
      unfold lexlt at *
      simp only at *
      omega
    · obtain rfl := List.mem_singleton.1 hx
      refine .inr ⟨rfl, ?_⟩
      show (b : Int) < ((b + 1 : Nat) : Int)
      omega
  · rw [List.length_append] at hj
    have hj : j < bs.length := by simpa using hj
    rcases Nat.lt_or_ge (j + 1) bs.length with q | q
    · rw [app_left hj, app_left q]
      exact o.ch j q
    · have e : j + 1 = bs.length := by omega
      rw [app_left hj, e, app_last]
      have : bs.getD j (0, 0) ∈ bs := by
        rw [List.getD_eq_getElem?_getD, List.getElem?_eq_getElem hj]
        exact List.getElem_mem hj
      exact o.lt _ this
  · have := o.len
    rw [cf_take hb, List.length_append, toOf_get ha, if_pos he.symm]
    rw [toOf_get ha] at this
    simp
    omega
theorem Bo.next {es : List (Int × Int × Int)} {a : Nat} {bs : List (Int × Int)} (o : Bo es a es.length bs) (h : ∀ v, cf v es ≤ 7) : Bo es (a + 1) 0 bs := by
  refine ⟨o.ok, fun x hx => ?_, o.ch, ?_⟩
  · obtain ⟨c, d, rfl, _⟩ := o.ok x hx
    have := o.lt _ hx
    unfold lexlt at *
    simp only at *
    omega
  · have := o.len
    rw [List.take_length] at this
    have := h (toOf es a)
    omega
theorem may_town {g : Gra} (h1 : 1 ≤ g.ns.length) (h2 : g.ns.length ≤ 16) (hn : ∀ x ∈ g.ns, nodeOk x = true) (he : Ex g.ns.length 3 g.es) (hb : Bo g.es g.es.length 0 g.bs) : mayG g = true := by
  have hl := he.len
  have hbl := hb.len
  have e0 : cf (toOf g.es g.es.length) (g.es.take 0) = 0 := rfl
  rw [e0] at hbl
  have s1 : sizesOk g = true := by
    simp [sizesOk, inB]
    omega
  have s2 : g.ns.all nodeOk = true := List.all_eq_true.2 hn
  have s3 : g.es.all (edgeOk (g.ns.length - 1)) = true := List.all_eq_true.2 he.ok
  have s4 : (List.range g.bs.length).all (banOk g) = true := range_yes fun j hj => by
    have em : banAt g j ∈ g.bs := by
      rw [banAt, List.getD_eq_getElem?_getD, List.getElem?_eq_getElem hj]
      exact List.getElem_mem hj
    obtain ⟨c, d, e, hc, hd, ht⟩ := hb.ok _ em
    have hch : j == 0 || decide (ordI (banAt g (j - 1)) (banAt g j) < 0) := by
      cases j with
      | zero => rfl
      | succ j =>
        have := hb.ch j hj
        have : ordI (banAt g (j + 1 - 1)) (banAt g (j + 1)) < 0 := by
          rw [ordI_neg]
          unfold lexlt at this
          show ¬ ((banAt g j).1 > (banAt g (j + 1)).1 ∨ (banAt g j).1 = (banAt g (j + 1)).1 ∧ (banAt g j).2 ≥ (banAt g (j + 1)).2)
          unfold banAt
          omega
        rw [decide_eq_true this, Bool.or_true]
    have i1 : inB (c : Int) 0 (g.es.length - 1) = true := by
      simp [inB]
      omega
    have i2 : inB (d : Int) 0 (g.es.length - 1) = true := by
      simp [inB]
      omega
    have i3 : ((edgeAt g (c : Int)).2.1 == (edgeAt g (d : Int)).1) = true := by
      rw [beq_iff_eq]
      exact ht
    rw [banOk, hch, Bool.and_true, e, i1, i2, i3]
    rfl
  rw [mayG, s1, s2, s3, s4]
  rfl
theorem town_node {W Hh j v : Nat} (hW : 1 ≤ W) (hW4 : W ≤ 4) (hH4 : Hh ≤ 4) (hj : j < W * Hh) (hv : v < 30) : nodeOk (IntKind.i64.wrap (100 * (j : Int).tmod (W : Int)), IntKind.i64.wrap (IntKind.i64.wrap (100 * IntKind.i64.wrap ((j : Int).tdiv (W : Int))) + (v : Int))) = true := by
  have e1 : (j : Int).tmod (W : Int) = ((j % W : Nat) : Int) := rfl
  have e2 : (j : Int).tdiv (W : Int) = ((j / W : Nat) : Int) := rfl
  have h1 := Nat.mod_lt j hW
  have h2 : j / W < Hh := Nat.div_lt_of_lt_mul hj
  rw [e1, e2]
  generalize j / W = q at *
  generalize j % W = r at *
  rw [wrap_i64 (x := (q : Int)) (by omega) (by omega), wrap_i64 (x := 100 * (q : Int)) (by omega) (by omega), wrap_i64 (by omega) (by omega), wrap_i64 (by omega) (by omega)]
  simp [nodeOk, inB]
  omega
theorem round43 {m : Int} (hm : 0 < m) (hm2 : m ≤ 72057594037927936) (x : Int) (h : H) : ACalls Tryz.prog 54 [i64 x, i64 m] h (fun r h' => h' = h ∧ r = i64 (x % m)) := by
  have hr := tmod_round (x := x) hm
  have h1 := Int.emod_nonneg x (show m ≠ 0 by omega)
  have h2 := Int.emod_lt_of_pos x hm
  refine call_ Tryz.func54 rfl rfl (by kernel_rfl) ?_
  conv => whnf
  refine ⟨by omega, ?_⟩
  conv => whnf
  refine br_mk (fun hb => ?_) (fun hb => ?_)
  · conv => whnf
    simp at hb
    rw [if_pos hb] at hr
    refine ⟨rfl, congrArg i64 ?_⟩
    rw [hr]
    exact wrap_i64 (by omega) (by omega)
  · conv => whnf
    simp at hb
    rw [if_neg (by omega)] at hr
    exact ⟨rfl, congrArg i64 hr⟩
theorem at32 {h : H} {p : Option (Nat × Nat)} {n : Nat} {vs : List Int} (o : SlIs h p n false 1 (ints .i64 vs)) (hn : n ≤ 1000000) (i k : Int) (hi : 0 ≤ i ∧ i ≤ 1000000) (h0 : 0 < k) (hk : k ≤ 72057594037927936) :
    ACalls Tryz.prog 29 [.sl p n, i64 i, i64 k] h (fun r h' => h' = h ∧ ∃ v : Nat, r = i64 (v : Int) ∧ (v : Int) < k) := by
  refine call_ Tryz.func29 rfl rfl (by kernel_rfl) ?_
  conv => whnf
  refine br_mk (fun hb => ?_) (fun hb => ?_)
  · conv => whnf
    exact ⟨rfl, 0, rfl, h0⟩
  conv => whnf
  simp at hb
  obtain ⟨j, rfl⟩ : ∃ j : Nat, i = j := ⟨i.toNat, by omega⟩
  have hm := Nat.mod_lt j (show 0 < n by omega)
  obtain ⟨a, c, e, kc⟩ := slo_get o hm
  refine ⟨[0, 1, 2, 3, 4, 5, 6, 7, 8, 9, 10, 11, 12, 13, 14, 15], [0, 0, 0, 4, 14, 31, 63, 127, 0, 0, 512, 1792, 4095, 0, 16383, 32767], by kernel_rfl, ?_⟩
  conv => whnf
  refine ⟨by omega, ?_⟩
  conv => whnf
  refine ⟨a, c, j % n, e, rfl, hm, ?_⟩
  conv => whnf
  refine ⟨_, kc, ?_⟩
  conv => whnf
  refine ⟨by decide, ?_⟩
  conv => whnf
  refine ⟨by omega, ?_⟩
  conv => whnf
  refine (round43 h0 hk _ _).mono ?_
  rintro _ h' ⟨eh, rfl⟩
  subst h'
  conv => whnf
  refine ⟨rfl, (Int.toNat (_ % k)), congrArg i64 (Int.toNat_of_nonneg (Int.emod_nonneg _ (by omega))).symm, ?_⟩
  rw [Int.toNat_of_nonneg (Int.emod_nonneg _ (by omega))]
  exact Int.emod_lt_of_pos _ h0
/-- a graph that is built up, with no reader -/
structure Tb (hb hh : H) (gc : Nat) (row : List V) (p : Option (Nat × Nat)) (n sz : Nat) (cs : List V) : Prop where
  ob : hh.obj gc = some (.row true 3 row)
  sl : SlIs hh p n true sz cs
  fr : ∀ i o, p = some (i, o) → hb.next ≤ i
  m : Ab.Mod (one gc) hb hh
  l1 : gc < hb.next
theorem Tb.keep {hb hh h' : H} {gc : Nat} {row : List V} {p : Option (Nat × Nat)} {n sz : Nat} {cs : List V} (w : Tb hb hh gc row p n sz cs) (m : Ab.Mod none_ hh h') : Tb hb h' gc row p n sz cs :=
  ⟨m.get w.ob (.inl (fun k => k)), SlIs.old w.sl m (fun _ _ k => k), w.fr, w.m.trans' m (fun _ _ k => k) (fun _ _ k => k.elim), w.l1⟩
theorem Tb.app {hb hh h' : H} {gc : Nat} {row : List V} {p p' : Option (Nat × Nat)} {n k sz : Nat} {cs ys : List V} (w : Tb hb hh gc row p n sz cs) (s : SlIs h' p' (n + k) true sz (cs ++ ys)) (m : Ab.Mod (inSl p) hh h') (f : isFresh hh p p') : Tb hb h' gc row p' (n + k) sz (cs ++ ys) := by
  have hs : ∀ i, i < hb.next → ¬ inSl p i := fun i hi ⟨o, e⟩ => by
    have := w.fr i o e
    omega
  refine ⟨m.get w.ob (.inl (hs _ w.l1)), s, fun i o e => ?_, w.m.trans' m (fun _ _ k => k) (fun i hi k => absurd k (hs i hi)), w.l1⟩
  rcases f i o e with k | k
  · exact w.fr i o (by rw [← k, e])
  · exact Nat.le_trans w.m.next k
theorem Tb.put {hb hh : H} {gc : Nat} {row : List V} {p : Option (Nat × Nat)} {n sz : Nat} {cs : List V} (w : Tb hb hh gc row p n sz cs) (row' : List V) : Tb hb (hh.set gc (.row true 3 row')) gc row' p n sz cs := by
  have ms : Ab.Mod (one gc) hh (hh.set gc (.row true 3 row')) := Mod.set rfl w.ob rfl
  exact ⟨H.obj_set_same w.ob, w.sl.get ms (fun i o e => .inl (fun k => by
    have := w.fr i o e
    have := w.l1
    unfold one at k
    omega)), w.fr, w.m.trans' ms (fun _ _ k => k) (fun _ _ k => k), w.l1⟩
theorem Tb.cast {hb hh : H} {gc : Nat} {row row' : List V} {p : Option (Nat × Nat)} {n n' sz : Nat} {cs cs' : List V} (w : Tb hb hh gc row p n sz cs) (h1 : row' = row) (h2 : n' = n) (h3 : cs' = cs) : Tb hb hh gc row' p n' sz cs' := by
  subst h1 h2 h3
  exact w
theorem Tb.next {hb hh : H} {gc : Nat} {row : List V} {p : Option (Nat × Nat)} {n sz : Nat} {cs : List V} (w : Tb hb hh gc row p n sz cs) (sz' : Nat) : Tb hh hh gc row none 0 sz' [] :=
  ⟨w.ob, SlIs.nil _ _ _, fun _ _ e => (by cases e), ⟨Nat.le_refl _, fun _ _ _ => rfl⟩, hh.lt _ _ w.ob⟩
theorem Tb.lt {hb hh : H} {gc : Nat} {row : List V} {p : Option (Nat × Nat)} {n sz : Nat} {cs : List V} (w : Tb hb hh gc row p n sz cs) (o : Nat) (e : p = some (hh.next, o)) : False :=
  Nat.lt_irrefl _ (SlIs.own_lt w.sl ⟨o, e⟩)
theorem Tb.other {hb hh h' : H} {gc ar : Nat} {row : List V} {p : Option (Nat × Nat)} {n sz : Nat} {cs : List V} (w : Tb hb hh gc row p n sz cs) (m : Ab.Mod (one ar) hh h') (h1 : ar ≠ gc) (h2 : ∀ o, p = some (ar, o) → False) (h3 : hb.next ≤ ar) : Tb hb h' gc row p n sz cs :=
  ⟨m.get w.ob (.inl (fun k => h1 k.symm)), w.sl.get m (fun i o e => .inl (fun k => h2 o (by rw [e, k]))), w.fr, w.m.trans' m (fun _ _ k => k) (fun i hi k => by
    unfold one at k
    omega), w.l1⟩
theorem Tb.sep {h hb hh : H} {gc : Nat} {row : List V} {p : Option (Nat × Nat)} {n sz : Nat} {cs : List V} (w : Tb hb hh gc row p n sz cs) (hg : h.next < gc) : ∀ i o, p = some (i, o) → ¬ one gc i ∧ h.next < i := fun i o e => by
  have := w.fr i o e
  have := w.l1
  refine ⟨fun k => ?_, by omega⟩
  unfold one at k
  omega
theorem town_right {W Hh i : Nat} (hW : 1 ≤ W) (hi : i < W * Hh) (h : i % W + 1 < W) : i + 1 < W * Hh := by
  have h1 := Nat.div_add_mod i W
  have h2 : i / W < Hh := Nat.div_lt_of_lt_mul hi
  have h3 : W * (i / W + 1) ≤ W * Hh := Nat.mul_le_mul_left W h2
  rw [Nat.mul_succ] at h3
  omega
theorem town_down {W Hh i : Nat} (hW : 1 ≤ W) (hi : i < W * Hh) (h : i / W + 1 < Hh) : i + W < W * Hh := by
  have h1 := Nat.div_add_mod i W
  have h0 := Nat.mod_lt i hW
  have h3 : W * (i / W + 2) ≤ W * Hh := Nat.mul_le_mul_left W h
  rw [Nat.mul_add] at h3
  omega
theorem Tb.renew {hb hh : H} {gc : Nat} {row : List V} {p : Option (Nat × Nat)} {n sz : Nat} {cs : List V} (w : Tb hb hh gc row p n sz cs) (n' : Nat) {sz' : Nat} {cs' : List V} (hl : cs'.length = n' * sz') : Tb hb (hh.push (.row true sz' cs')) gc row (some (hh.next, 0)) n' sz' cs' := by
  have m := Mod.push none_ hh (.row true sz' cs')
  exact ⟨m.get w.ob (.inl (fun k => k)), SlIs.row (H.obj_push_new _ _) hl, fun i o e => by
    injection e with e
    injection e with e
    have := w.m.next
    omega, w.m.trans' m (fun _ _ k => k) (fun _ _ k => k.elim), w.l1⟩
theorem Tb.base {hb hh : H} {gc : Nat} {row : List V} {p : Option (Nat × Nat)} {n sz : Nat} {cs : List V} (w : Tb hb hh gc row p n sz cs) (sz' : Nat) : ∃ hB, Tb hB hh gc row none 0 sz' [] ∧ SlIs hB p n true sz cs ∧ Ab.Mod (one gc) hb hB :=
  ⟨hh, w.next sz', w.sl, w.m⟩
set_option maxHeartbeats 8000000 in
theorem town14 {h : H} {p : Option (Nat × Nat)} {n : Nat} {vs : List Int} (o : SlIs h p n false 1 (ints .i64 vs)) (hn : n ≤ 1000000) : ACalls Tryz.prog 14 [.sl p n] h (fun r h' => ∃ g : Gra, r = .agg g.cells ∧ g.ok h' ∧ Ab.Mod none_ h h' ∧ mayG g = true ∧ 0 < g.es.length) := by
  refine call_ Tryz.func14 rfl rfl (by kernel_rfl) ?_
  conv => whnf
  have mp := Mod.push none_ h (.row true 3 gra0.cells)
  have mp2 := Mod.push none_ (h.push (.row true 3 gra0.cells)) (.row true 3 gra0.cells)
  have g2 : ((h.push (.row true 3 gra0.cells)).push (.row true 3 gra0.cells)).obj h.next = some (.row true 3 gra0.cells) := mp2.get (H.obj_push_new _ _) (.inl (fun k => k))
  have mm := mod_none mp mp2
  have w : Tb ((h.push (.row true 3 gra0.cells)).push (.row true 3 gra0.cells)) ((h.push (.row true 3 gra0.cells)).push (.row true 3 gra0.cells)) (h.next + 1) gra0.cells none 0 2 [] := ⟨H.obj_push_new (h.push (.row true 3 gra0.cells)) _, SlIs.nil _ _ _, fun _ _ e => (by cases e), ⟨Nat.le_refl _, fun _ _ _ => rfl⟩, Nat.lt_succ_self _⟩
  have hgc : h.next < (h.next + 1) := Nat.lt_succ_self _
  have hgn : ¬ one (h.next + 1) h.next := fun k => by
    unfold one at k
    omega
  have hgo : ∀ i, i < h.next → one (h.next + 1) i → none_ i := fun i hi k => absurd hi (by unfold one at k; omega)
  clear mp mp2
  refine (at32 (SlIs.old o (mm.trans' w.m (S2 := none_) (fun _ _ k => k) hgo) (fun _ _ k => k)) hn 0 4 ⟨by decide, by decide⟩ (by decide) (by decide)).mono ?_
  rintro _ h' ⟨eh, v0, rfl, hv0⟩
  subst h'
  conv => whnf
  refine (at32 (SlIs.old o (mm.trans' w.m (S2 := none_) (fun _ _ k => k) hgo) (fun _ _ k => k)) hn 1 4 ⟨by decide, by decide⟩ (by decide) (by decide)).mono ?_
  rintro _ h' ⟨eh, v1, rfl, hv1⟩
  subst h'
  conv => whnf
  have hw1 : IntKind.i64.wrap (1 + (v0 : Int)) = ((v0 + 1 : Nat) : Int) := by
    rw [wrap_i64 (by omega) (by omega)]
    omega
  have hw2 : IntKind.i64.wrap (1 + (v1 : Int)) = ((v1 + 1 : Nat) : Int) := by
    rw [wrap_i64 (by omega) (by omega)]
    omega
  rw [hw1, hw2]
  clear hw1 hw2
  obtain ⟨W, hWd⟩ : ∃ W, W = v0 + 1 := ⟨_, rfl⟩
  obtain ⟨Hh, hHd⟩ : ∃ Hh, Hh = v1 + 1 := ⟨_, rfl⟩
  rw [← hWd, ← hHd]
  have hW0 : 1 ≤ W := by omega
  have hW4 : W ≤ 4 := by omega
  have hH0 : 1 ≤ Hh := by omega
  have hH4 : Hh ≤ 4 := by omega
  clear hWd hHd hv0 hv1
  obtain ⟨N, hNd⟩ : ∃ N, N = W * Hh := ⟨_, rfl⟩
  have hN16 : N ≤ 16 := by
    rw [hNd]
    exact Nat.mul_le_mul hW4 hH4
  have hN1 : 1 ≤ N := by
    rw [hNd]
    exact Nat.mul_pos hW0 hH0
  have hN : IntKind.i64.wrap ((W : Int) * (Hh : Int)) = (N : Int) := by
    have e : (W : Int) * (Hh : Int) = (N : Int) := by
      rw [hNd, Int.natCast_mul]
    rw [e, wrap_i64 (by omega) (by omega)]
  have hW1 : IntKind.i64.wrap ((W : Int) - 1) = (W : Int) - 1 := wrap_i64 (by omega) (by omega)
  have hH1 : IntKind.i64.wrap ((Hh : Int) - 1) = (Hh : Int) - 1 := wrap_i64 (by omega) (by omega)
  refine ⟨fun env hh => ∃ (z : Int) (ns : List (Int × Int)) (pn : Option (Nat × Nat)), ns.length ≤ N ∧ z = ns.length ∧ Tb ((h.push (.row true 3 gra0.cells)).push (.row true 3 gra0.cells)) hh (h.next + 1) [.sl pn (ns.length), .sl none 0, .sl none 0] pn ns.length 2 (ns.flatMap pC) ∧ (∀ x ∈ ns, nodeOk x = true) ∧ env = [(6, i64 z), (4, i64 W), (5, i64 Hh), (0, .sl p n), (2, .ptr (some (h.next, 0))), (3, .ptr (some ((h.next + 1), 0)))],
    fun env _ => match get env 6 with
      | .int _ z => (N - z).toNat
      | _ => 0, ⟨_, Forget.cons rfl (Forget.cons rfl (Forget.cons rfl (Forget.cons rfl (Forget.cons rfl (Forget.cons rfl (Forget.nil _)))))), 0, [], none, Nat.zero_le _, rfl, w, fun x k => (by cases k), rfl⟩, ?_⟩
  clear w
  rintro _ h1 ⟨z, ns, pn, hle, rfl, w, hall, rfl⟩
  conv => whnf
  rw [hN]
  refine br_mk (fun ha => ?_) (fun ha => ?_)
  · conv => whnf
    simp at ha
    refine ⟨[0, 1, 2, 3, 4, 5, 6, 7, 8, 9, 10, 11, 12, 13, 14, 15, 16, 17, 18, 19], [0, 1, 0, 0, 12, 28, 0, 0, 192, 448, 0, 0, 2048, 7168, 16320, 32764, 65532, 131071, 262143, 524287], by kernel_rfl, ?_⟩
    conv => whnf
    refine ⟨_, Cell.mk w.ob rfl, ?_⟩
    conv => whnf
    refine ⟨by omega, ?_⟩
    conv => whnf
    refine ⟨by omega, ?_⟩
    conv => whnf
    refine (at32 (SlIs.old o (mm.trans' w.m (S2 := none_) (fun _ _ k => k) hgo) (fun _ _ k => k)) hn (IntKind.i64.wrap (2 + (ns.length : Int))) 30 (by rw [wrap_i64 (by omega) (by omega)]; omega) (by omega) (by omega)).mono ?_
    rintro _ h' ⟨eh, v, rfl, hv⟩
    subst h'
    conv => whnf
    refine ⟨?_, ?_⟩
    · conv => whnf
      exact ⟨_, Cell.mk w.ob rfl, rfl⟩
    conv => whnf
    have w := w.keep (Mod.push none_ _ (.row true 2 (pC (IntKind.i64.wrap (100 * (ns.length : Int).tmod (W : Int)), IntKind.i64.wrap (IntKind.i64.wrap (100 * IntKind.i64.wrap ((ns.length : Int).tdiv (W : Int))) + (v : Int))))))
    refine ⟨ns.flatMap pC, pC (IntKind.i64.wrap (100 * (ns.length : Int).tmod (W : Int)), IntKind.i64.wrap (IntKind.i64.wrap (100 * IntKind.i64.wrap ((ns.length : Int).tdiv (W : Int))) + (v : Int))), w.sl, (SlIs.row (n := 1) (cs := pC (IntKind.i64.wrap (100 * (ns.length : Int).tmod (W : Int)), IntKind.i64.wrap (IntKind.i64.wrap (100 * IntKind.i64.wrap ((ns.length : Int).tdiv (W : Int))) + (v : Int)))) (H.obj_push_new _ _) rfl).weak, by
      rw [show (T.at_ 86).bytes = 16 from rfl]
      omega, by omega, fun p' h' hs hm hf => ?_⟩
    have w := w.app hs hm hf
    conv => whnf
    refine ⟨_, _, w.ob, Nat.le_of_ble_eq_true rfl, ?_⟩
    have e1 : (ns ++ [(IntKind.i64.wrap (100 * (ns.length : Int).tmod (W : Int)), IntKind.i64.wrap (IntKind.i64.wrap (100 * IntKind.i64.wrap ((ns.length : Int).tdiv (W : Int))) + (v : Int)))]).length = ns.length + 1 := by simp
    have e2 : (ns ++ [(IntKind.i64.wrap (100 * (ns.length : Int).tmod (W : Int)), IntKind.i64.wrap (IntKind.i64.wrap (100 * IntKind.i64.wrap ((ns.length : Int).tdiv (W : Int))) + (v : Int)))]).flatMap pC = ns.flatMap pC ++ pC (IntKind.i64.wrap (100 * (ns.length : Int).tmod (W : Int)), IntKind.i64.wrap (IntKind.i64.wrap (100 * IntKind.i64.wrap ((ns.length : Int).tdiv (W : Int))) + (v : Int))) := by simp
    have w := w.put [.sl p' (ns.length + 1), .sl none 0, .sl none 0]
    have w := w.cast (row' := [.sl p' ((ns ++ [(IntKind.i64.wrap (100 * (ns.length : Int).tmod (W : Int)), IntKind.i64.wrap (IntKind.i64.wrap (100 * IntKind.i64.wrap ((ns.length : Int).tdiv (W : Int))) + (v : Int)))]).length), .sl none 0, .sl none 0]) (n' := (ns ++ [(IntKind.i64.wrap (100 * (ns.length : Int).tmod (W : Int)), IntKind.i64.wrap (IntKind.i64.wrap (100 * IntKind.i64.wrap ((ns.length : Int).tdiv (W : Int))) + (v : Int)))]).length) (cs' := (ns ++ [(IntKind.i64.wrap (100 * (ns.length : Int).tmod (W : Int)), IntKind.i64.wrap (IntKind.i64.wrap (100 * IntKind.i64.wrap ((ns.length : Int).tdiv (W : Int))) + (v : Int)))]).flatMap pC) (by rw [e1]) e1 e2
    conv => whnf
    have hz : IntKind.i64.wrap ((ns.length : Int) + 1) = ((ns ++ [(IntKind.i64.wrap (100 * (ns.length : Int).tmod (W : Int)), IntKind.i64.wrap (IntKind.i64.wrap (100 * IntKind.i64.wrap ((ns.length : Int).tdiv (W : Int))) + (v : Int)))]).length : Int) := by
      rw [wrap_i64 (by omega) (by omega), e1]
      omega
    refine ⟨_, Forget.cons rfl (Forget.cons rfl (Forget.cons rfl (Forget.cons rfl (Forget.cons rfl (Forget.cons rfl (Forget.nil _)))))), ⟨_, ns ++ [(IntKind.i64.wrap (100 * (ns.length : Int).tmod (W : Int)), IntKind.i64.wrap (IntKind.i64.wrap (100 * IntKind.i64.wrap ((ns.length : Int).tdiv (W : Int))) + (v : Int)))], p', by omega, hz, w, fun x hx => ?_, rfl⟩, ?_⟩
    · rcases List.mem_append.1 hx with hx | hx
      · exact hall x hx
      · obtain rfl := List.mem_singleton.1 hx
        exact town_node (Hh := Hh) hW0 hW4 hH4 (by rw [← hNd]; omega) (by omega)
    · show ((N : Int) - IntKind.i64.wrap ((ns.length : Int) + 1)).toNat < ((N : Int) - (ns.length : Int)).toNat
      rw [hz, e1]
      omega
  conv => whnf
  simp at ha
  have hnl : ns.length = N := by omega
  clear ha hle
  have hpn : ∀ i o, pn = some (i, o) → ¬ one (h.next + 1) i ∧ h.next < i := w.sep hgc
  have sn := w.sl
  have g2 := w.m.get g2 (.inl hgn)
  have mm := mm.trans' w.m (S2 := none_) (fun _ _ k => k) hgo
  have w := w.next 3
  refine ⟨fun env hh => ∃ (i : Nat) (z : Int) (es : List (Int × Int × Int)) (pe : Option (Nat × Nat)), i ≤ N ∧ z = i ∧ Tb h1 hh (h.next + 1) [.sl pn ns.length, .sl pe (es.length), .sl none 0] pe es.length 3 (es.flatMap eC) ∧ Eo N W i 0 es ∧ env = [(7, i64 z), (4, i64 W), (5, i64 Hh), (0, .sl p n), (2, .ptr (some (h.next, 0))), (3, .ptr (some ((h.next + 1), 0)))],
    fun env _ => match get env 7 with
      | .int _ z => ((N : Int) - z).toNat
      | _ => 0, ⟨_, Forget.cons rfl (Forget.cons rfl (Forget.cons rfl (Forget.cons rfl (Forget.cons rfl (Forget.cons rfl (Forget.nil _)))))), 0, _, [], none, Nat.zero_le _, rfl, w, ⟨fun e k => (by cases k), fun v => Nat.zero_le _, Nat.zero_le _⟩, rfl⟩, ?_⟩
  clear w
  rintro _ h2 ⟨i, z, es, pe, hi0, rfl, w, ei, rfl⟩
  conv => whnf
  rw [hN]
  refine br_mk (fun ha => ?_) (fun ha => ?_)
  · conv => whnf
    simp at ha
    have hi : i < N := by omega
    obtain ⟨g0, ga, mx⟩ := lay_row (h := h2) (sz := 2) [i64 0, i64 0] [i64 (-1), i64 (-1)]
    refine ⟨_, _, g0, Nat.le_of_ble_eq_true rfl, ?_⟩
    have hpa : ∀ o, pe = some (h2.next, o) → False := fun o e => w.lt o e
    have hgar : h2.next ≠ (h.next + 1) := fun e => by
      have h1 := w.l1
      have h2 := w.m.next
      omega
    have hnar : h1.next ≤ h2.next := w.m.next
    have w := w.keep mx
    clear g0 mx
    conv => whnf
    refine ⟨by omega, ?_⟩
    conv => whnf
    rw [hW1]
    refine br_mk (fun hb => ?_) (fun hb => ?_)
    conv => whnf
    refine ⟨0, rfl, by omega, ?_⟩
    conv => whnf
    obtain ⟨x, hxe⟩ : ∃ x : Int, x = IntKind.i64.wrap ((i : Int) + 1) := ⟨_, rfl⟩
    rw [← hxe]
    refine ⟨_, _, ga, Nat.le_of_ble_eq_true rfl, ?_⟩
    have ms := Mod.set (S := one h2.next) (ob := .row true 2 [i64 x, i64 (-1)]) rfl ga rfl
    have ga := H.obj_set_same ga (ob' := .row true 2 [i64 x, i64 (-1)])
    have w := w.other ms hgar hpa hnar
    clear ms
    have hx0 : x = -1 ∨ (x = nxt W i 0 ∧ nxt W i 0 < N) := .inr (by
      have e1 : (i : Int).tmod (W : Int) = ((i % W : Nat) : Int) := rfl
      rw [e1] at hb
      simp only [decide_eq_true_eq] at hb
      have := town_right (W := W) (Hh := Hh) (i := i) hW0 (by rw [← hNd]; omega) (by omega)
      rw [← hNd] at this
      have e2 : nxt W i 0 = i + 1 := rfl
      rw [hxe, wrap_i64 (by omega) (by omega), e2]
      omega)
    clear hxe
    rotate_left
    obtain ⟨x, hxe⟩ : ∃ x : Int, x = -1 := ⟨_, rfl⟩
    have hx0 : x = -1 ∨ (x = nxt W i 0 ∧ nxt W i 0 < N) := .inl hxe
    have ga := ga.trans (show some (Obj.row true 2 [i64 (-1), i64 (-1)]) = some (Obj.row true 2 [i64 x, i64 (-1)]) by rw [hxe])
    rotate_left
    all_goals
      clear hb
      conv => whnf
      refine ⟨by omega, ?_⟩
      conv => whnf
      rw [hH1]
      refine br_mk (fun hb => ?_) (fun hb => ?_)
      conv => whnf
      refine ⟨1, rfl, by omega, ?_⟩
      conv => whnf
      obtain ⟨y, hye⟩ : ∃ y : Int, y = IntKind.i64.wrap ((i : Int) + (W : Int)) := ⟨_, rfl⟩
      rw [← hye]
      refine ⟨_, _, ga, Nat.le_of_ble_eq_true rfl, ?_⟩
      have ms := Mod.set (S := one h2.next) (ob := .row true 2 [i64 x, i64 y]) rfl ga rfl
      have ga := H.obj_set_same ga (ob' := .row true 2 [i64 x, i64 y])
      have w := w.other ms hgar hpa hnar
      clear ms
      have hy0 : y = -1 ∨ (y = nxt W i 1 ∧ nxt W i 1 < N) := .inr (by
        have e1 : IntKind.i64.wrap ((i : Int).tdiv (W : Int)) = ((i / W : Nat) : Int) := by
          have e : (i : Int).tdiv (W : Int) = ((i / W : Nat) : Int) := rfl
          have hle := Nat.div_le_self i W
          rw [e]
          generalize i / W = q at *
          exact wrap_i64 (by omega) (by omega)
        rw [e1] at hb
        simp only [decide_eq_true_eq] at hb
        have := town_down (W := W) (Hh := Hh) (i := i) hW0 (by rw [← hNd]; omega) (by generalize i / W = q at *; omega)
        rw [← hNd] at this
        have e2 : nxt W i 1 = i + W := rfl
        rw [hye, wrap_i64 (by omega) (by omega), e2]
        omega)
      clear hye
      rotate_left
      obtain ⟨y, hye⟩ : ∃ y : Int, y = -1 := ⟨_, rfl⟩
      have hy0 : y = -1 ∨ (y = nxt W i 1 ∧ nxt W i 1 < N) := .inl hye
      have ga := ga.trans (show some (Obj.row true 2 [i64 x, i64 (-1)]) = some (Obj.row true 2 [i64 x, i64 y]) by rw [hye])
      rotate_left
      all_goals
        clear hb
        conv => whnf
        refine ⟨fun env hh => ∃ (k : Nat) (z : Int) (es : List (Int × Int × Int)) (pe : Option (Nat × Nat)), k ≤ 2 ∧ z = k ∧ Tb h1 hh (h.next + 1) [.sl pn ns.length, .sl pe (es.length), .sl none 0] pe es.length 3 (es.flatMap eC) ∧ hh.obj h2.next = some (.row true 2 [i64 x, i64 y]) ∧ (∀ o, pe = some (h2.next, o) → False) ∧ Eo N W i k es ∧ env = [(9, i64 z), (8, .ptr (some (h2.next, 0))), (7, i64 i), (4, i64 W), (5, i64 Hh), (0, .sl p n), (2, .ptr (some (h.next, 0))), (3, .ptr (some ((h.next + 1), 0)))],
          fun env _ => match get env 9 with
            | .int _ z => ((2 : Int) - z).toNat
            | _ => 0, ⟨_, Forget.cons rfl (Forget.cons rfl (Forget.cons rfl (Forget.cons rfl (Forget.cons rfl (Forget.cons rfl (Forget.cons rfl (Forget.cons rfl (Forget.nil _)))))))), 0, _, es, pe, by omega, rfl, w, ga, hpa, ei, rfl⟩, ?_⟩
        clear w ga hpa ei
        rintro _ h3 ⟨k, z, es, pe, hk2, rfl, w, ga, hpa, ei, rfl⟩
        conv => whnf
        refine br_mk (fun hb => ?_) (fun hb => ?_)
        rotate_left
        · conv => whnf
          simp at hb
          obtain rfl : k = 2 := by omega
          have hs2 := succ_i64 (j := i) (n := N) hi (by omega)
          refine ⟨_, Forget.cons rfl (Forget.cons rfl (Forget.cons rfl (Forget.cons rfl (Forget.cons rfl (Forget.cons rfl (Forget.nil _)))))), ⟨i + 1, _, _, _, by omega, hs2, w, ei.next, rfl⟩, ?_⟩
          show ((N : Int) - IntKind.i64.wrap ((i : Int) + 1)).toNat < ((N : Int) - (i : Int)).toNat
          rw [hs2]
          omega
        conv => whnf
        simp at hb
        have hk : k < 2 := by omega
        have hz : IntKind.i64.wrap ((k : Int) + 1) = ((k + 1 : Nat) : Int) := by
          rw [wrap_i64 (by omega) (by omega)]
          omega
        have hel := ei.len
        refine ⟨k, rfl, by omega, ?_⟩
        conv => whnf
        obtain ⟨u, hu, hcell⟩ : ∃ u : Int, (u = -1 ∨ (u = nxt W i k ∧ nxt W i k < N)) ∧ ∀ {hh : H}, hh.obj h2.next = some (.row true 2 [i64 x, i64 y]) → Cell hh h2.next (0 + k * 1) (i64 u) := by
          obtain rfl | rfl : k = 0 ∨ k = 1 := by omega
          · exact ⟨x, hx0, fun g => Cell.mk g rfl⟩
          · exact ⟨y, hy0, fun g => Cell.mk g rfl⟩
        refine ⟨_, hcell ga, ?_⟩
        conv => whnf
        refine br_mk (fun hc => ?_) (fun hc => ?_)
        · conv => whnf
          refine ⟨_, Forget.cons rfl (Forget.cons rfl (Forget.cons rfl (Forget.cons rfl (Forget.cons rfl (Forget.cons rfl (Forget.cons rfl (Forget.cons rfl (Forget.nil _)))))))), ⟨k + 1, _, _, _, by omega, hz, w, ga, hpa, ei.skip hk, rfl⟩, ?_⟩
          show ((2 : Int) - IntKind.i64.wrap ((k : Int) + 1)).toNat < ((2 : Int) - (k : Int)).toNat
          rw [hz]
          omega
        conv => whnf
        simp at hc
        have hx : nxt W i k < N := by
          rcases hu with hu | hu
          · omega
          · exact hu.2
        obtain rfl : u = nxt W i k := by
          rcases hu with hu | hu
          · omega
          · exact hu.1
        clear hu hc
        refine (at32 (SlIs.old o (mm.trans' w.m (S2 := none_) (fun _ _ k => k) hgo) (fun _ _ k => k)) hn (IntKind.i64.wrap (IntKind.i64.wrap (20 + IntKind.i64.wrap (3 * (i : Int))) + (k : Int))) 8 (by rw [wrap_i64 (x := 3 * (i : Int)) (by omega) (by omega), wrap_i64 (x := 20 + 3 * (i : Int)) (by omega) (by omega), wrap_i64 (by omega) (by omega)]; omega) (by omega) (by omega)).mono ?_
        rintro _ h' ⟨eh, v, rfl, hv⟩
        subst h'
        conv => whnf
        refine br_mk (fun he => ?_) (fun he => ?_)
        rotate_left
        · conv => whnf
          refine br_mk (fun hd => ?_) (fun hd => ?_)
          rotate_left
          · conv => whnf
            have hs : Eo N W i (k + 1) (es) := by
              have := ei.step hk hi hx 0 0 (by omega) (by omega) false false
              simpa [List.append_assoc] using this
            refine ⟨_, Forget.cons rfl (Forget.cons rfl (Forget.cons rfl (Forget.cons rfl (Forget.cons rfl (Forget.cons rfl (Forget.cons rfl (Forget.cons rfl (Forget.nil _)))))))), ⟨k + 1, _, _, _, by omega, hz, w, ga, hpa, hs, rfl⟩, ?_⟩
            show ((2 : Int) - IntKind.i64.wrap ((k : Int) + 1)).toNat < ((2 : Int) - (k : Int)).toNat
            rw [hz]
            omega
          conv => whnf
          refine ⟨[0, 1, 2, 3, 4, 5, 6, 7, 8, 9, 10, 11, 12, 13, 14, 15, 16, 17], [0, 1, 0, 4, 12, 0, 0, 0, 128, 0, 896, 1984, 4032, 8188, 16380, 32767, 65535, 131071], by kernel_rfl, ?_⟩
          conv => whnf
          refine ⟨_, Cell.mk w.ob rfl, ?_⟩
          conv => whnf
          refine ⟨k, rfl, by omega, ?_⟩
          conv => whnf
          refine ⟨_, hcell ga, ?_⟩
          conv => whnf
          refine (at32 (SlIs.old o (mm.trans' w.m (S2 := none_) (fun _ _ k => k) hgo) (fun _ _ k => k)) hn (IntKind.i64.wrap (IntKind.i64.wrap (90 + (i : Int)) + (k : Int))) 9 (by rw [wrap_i64 (x := 90 + (i : Int)) (by omega) (by omega), wrap_i64 (by omega) (by omega)]; omega) (by omega) (by omega)).mono ?_
          rintro _ h' ⟨eh, v2, rfl, hv2⟩
          subst h'
          conv => whnf
          refine ⟨?_, ?_⟩
          · conv => whnf
            exact ⟨_, hcell ga, rfl⟩
          refine ⟨?_, ?_⟩
          · conv => whnf
            exact ⟨_, Cell.mk w.ob rfl, rfl⟩
          conv => whnf
          have hv : IntKind.i64.wrap (1 + (v2 : Int)) = 1 + (v2 : Int) := wrap_i64 (by omega) (by omega)
          rw [hv]
          have hpa0 := hpa
          have hal := H.lt _ _ _ ga
          have w := w.keep (Mod.push none_ _ (.row true 3 (eC ((nxt W i k : Int), (i : Int), 1 + (v2 : Int)))))
          refine ⟨es.flatMap eC, eC ((nxt W i k : Int), (i : Int), 1 + (v2 : Int)), w.sl, (SlIs.row (n := 1) (cs := eC ((nxt W i k : Int), (i : Int), 1 + (v2 : Int))) (H.obj_push_new _ _) rfl).weak, by
            rw [show (T.at_ 54).bytes = 24 from rfl]
            omega, by omega, fun p' h' hs hm hf => ?_⟩
          have w := w.app hs hm hf
          have hpa : ∀ o, p' = some (h2.next, o) → False := fun o e => by
            rcases hf h2.next o e with q | q
            · exact hpa0 o (by rw [← q, e])
            · exact absurd hal (Nat.not_lt.2 (Nat.le_trans (Nat.le_succ _) q))
          have ga := hm.get ((Mod.push none_ _ _).get ga (.inl (fun k => k))) (.inl (fun ⟨o, e⟩ => hpa0 o e))
          conv => whnf
          refine ⟨_, _, w.ob, Nat.le_of_ble_eq_true rfl, ?_⟩
          have e1 : (es ++ [((nxt W i k : Int), (i : Int), 1 + (v2 : Int))]).length = es.length + 1 := by simp
          have e2 : (es ++ [((nxt W i k : Int), (i : Int), 1 + (v2 : Int))]).flatMap eC = es.flatMap eC ++ eC ((nxt W i k : Int), (i : Int), 1 + (v2 : Int)) := by simp
          have ga := (Mod.set (S := one (h.next + 1)) (ob := .row true 3 [.sl pn ns.length, .sl p' (es.length + 1), .sl none 0]) rfl w.ob rfl).get ga (.inl hgar)
          have w := w.put [.sl pn ns.length, .sl p' (es.length + 1), .sl none 0]
          have w := w.cast (row' := [.sl pn ns.length, .sl p' ((es ++ [((nxt W i k : Int), (i : Int), 1 + (v2 : Int))]).length), .sl none 0]) (n' := (es ++ [((nxt W i k : Int), (i : Int), 1 + (v2 : Int))]).length) (cs' := (es ++ [((nxt W i k : Int), (i : Int), 1 + (v2 : Int))]).flatMap eC) (by rw [e1]) e1 e2
          conv => whnf
          have hs : Eo N W i (k + 1) (es ++ [((nxt W i k : Int), (i : Int), 1 + (v2 : Int))]) := by
            have := ei.step hk hi hx 0 v2 (by omega) (by omega) false true
            simpa [List.append_assoc] using this
          refine ⟨_, Forget.cons rfl (Forget.cons rfl (Forget.cons rfl (Forget.cons rfl (Forget.cons rfl (Forget.cons rfl (Forget.cons rfl (Forget.cons rfl (Forget.nil _)))))))), ⟨k + 1, _, _, _, by omega, hz, w, ga, hpa, hs, rfl⟩, ?_⟩
          show ((2 : Int) - IntKind.i64.wrap ((k : Int) + 1)).toNat < ((2 : Int) - (k : Int)).toNat
          rw [hz]
          omega
        conv => whnf
        refine ⟨[0, 1, 2, 3, 4, 5, 6, 7, 8, 9, 10, 11, 12, 13, 14, 15, 16, 17], [0, 1, 0, 0, 8, 24, 0, 0, 128, 0, 896, 1984, 4032, 8188, 16380, 32767, 65535, 131071], by kernel_rfl, ?_⟩
        conv => whnf
        refine ⟨_, Cell.mk w.ob rfl, ?_⟩
        conv => whnf
        refine ⟨k, rfl, by omega, ?_⟩
        conv => whnf
        refine ⟨_, hcell ga, ?_⟩
        conv => whnf
        refine (at32 (SlIs.old o (mm.trans' w.m (S2 := none_) (fun _ _ k => k) hgo) (fun _ _ k => k)) hn (IntKind.i64.wrap (IntKind.i64.wrap (60 + (i : Int)) + (k : Int))) 9 (by rw [wrap_i64 (x := 60 + (i : Int)) (by omega) (by omega), wrap_i64 (by omega) (by omega)]; omega) (by omega) (by omega)).mono ?_
        rintro _ h' ⟨eh, v1, rfl, hv1⟩
        subst h'
        conv => whnf
        refine ⟨?_, ?_⟩
        · conv => whnf
          exact ⟨_, hcell ga, rfl⟩
        refine ⟨?_, ?_⟩
        · conv => whnf
          exact ⟨_, Cell.mk w.ob rfl, rfl⟩
        conv => whnf
        have hv : IntKind.i64.wrap (1 + (v1 : Int)) = 1 + (v1 : Int) := wrap_i64 (by omega) (by omega)
        rw [hv]
        have hpa0 := hpa
        have hal := H.lt _ _ _ ga
        have w := w.keep (Mod.push none_ _ (.row true 3 (eC ((i : Int), (nxt W i k : Int), 1 + (v1 : Int)))))
        refine ⟨es.flatMap eC, eC ((i : Int), (nxt W i k : Int), 1 + (v1 : Int)), w.sl, (SlIs.row (n := 1) (cs := eC ((i : Int), (nxt W i k : Int), 1 + (v1 : Int))) (H.obj_push_new _ _) rfl).weak, by
          rw [show (T.at_ 54).bytes = 24 from rfl]
          omega, by omega, fun p' h' hs hm hf => ?_⟩
        have w := w.app hs hm hf
        have hpa : ∀ o, p' = some (h2.next, o) → False := fun o e => by
          rcases hf h2.next o e with q | q
          · exact hpa0 o (by rw [← q, e])
          · exact absurd hal (Nat.not_lt.2 (Nat.le_trans (Nat.le_succ _) q))
        have ga := hm.get ((Mod.push none_ _ _).get ga (.inl (fun k => k))) (.inl (fun ⟨o, e⟩ => hpa0 o e))
        conv => whnf
        refine ⟨_, _, w.ob, Nat.le_of_ble_eq_true rfl, ?_⟩
        have e1 : (es ++ [((i : Int), (nxt W i k : Int), 1 + (v1 : Int))]).length = es.length + 1 := by simp
        have e2 : (es ++ [((i : Int), (nxt W i k : Int), 1 + (v1 : Int))]).flatMap eC = es.flatMap eC ++ eC ((i : Int), (nxt W i k : Int), 1 + (v1 : Int)) := by simp
        have ga := (Mod.set (S := one (h.next + 1)) (ob := .row true 3 [.sl pn ns.length, .sl p' (es.length + 1), .sl none 0]) rfl w.ob rfl).get ga (.inl hgar)
        have w := w.put [.sl pn ns.length, .sl p' (es.length + 1), .sl none 0]
        have w := w.cast (row' := [.sl pn ns.length, .sl p' ((es ++ [((i : Int), (nxt W i k : Int), 1 + (v1 : Int))]).length), .sl none 0]) (n' := (es ++ [((i : Int), (nxt W i k : Int), 1 + (v1 : Int))]).length) (cs' := (es ++ [((i : Int), (nxt W i k : Int), 1 + (v1 : Int))]).flatMap eC) (by rw [e1]) e1 e2
        conv => whnf
        refine br_mk (fun hd => ?_) (fun hd => ?_)
        rotate_left
        · conv => whnf
          have hs : Eo N W i (k + 1) (es ++ [((i : Int), (nxt W i k : Int), 1 + (v1 : Int))]) := by
            have := ei.step hk hi hx v1 0 (by omega) (by omega) true false
            simpa [List.append_assoc] using this
          refine ⟨_, Forget.cons rfl (Forget.cons rfl (Forget.cons rfl (Forget.cons rfl (Forget.cons rfl (Forget.cons rfl (Forget.cons rfl (Forget.cons rfl (Forget.nil _)))))))), ⟨k + 1, _, _, _, by omega, hz, w, ga, hpa, hs, rfl⟩, ?_⟩
          show ((2 : Int) - IntKind.i64.wrap ((k : Int) + 1)).toNat < ((2 : Int) - (k : Int)).toNat
          rw [hz]
          omega
        conv => whnf
        have ese : (es ++ [((i : Int), (nxt W i k : Int), 1 + (v1 : Int))]).length ≤ 200 := by rw [e1]; omega
        generalize hes2 : es ++ [((i : Int), (nxt W i k : Int), 1 + (v1 : Int))] = es2 at w ese
        refine ⟨[0, 1, 2, 3, 4, 5, 6, 7, 8, 9, 10, 11, 12, 13, 14, 15, 16, 17], [0, 1, 0, 4, 12, 0, 0, 0, 128, 0, 896, 1984, 4032, 8188, 16380, 32767, 65535, 131071], by kernel_rfl, ?_⟩
        conv => whnf
        refine ⟨_, Cell.mk w.ob rfl, ?_⟩
        conv => whnf
        refine ⟨k, rfl, by omega, ?_⟩
        conv => whnf
        refine ⟨_, hcell ga, ?_⟩
        conv => whnf
        refine (at32 (SlIs.old o (mm.trans' w.m (S2 := none_) (fun _ _ k => k) hgo) (fun _ _ k => k)) hn (IntKind.i64.wrap (IntKind.i64.wrap (90 + (i : Int)) + (k : Int))) 9 (by rw [wrap_i64 (x := 90 + (i : Int)) (by omega) (by omega), wrap_i64 (by omega) (by omega)]; omega) (by omega) (by omega)).mono ?_
        rintro _ h' ⟨eh, v2, rfl, hv2⟩
        subst h'
        conv => whnf
        refine ⟨?_, ?_⟩
        · conv => whnf
          exact ⟨_, hcell ga, rfl⟩
        refine ⟨?_, ?_⟩
        · conv => whnf
          exact ⟨_, Cell.mk w.ob rfl, rfl⟩
        conv => whnf
        have hv : IntKind.i64.wrap (1 + (v2 : Int)) = 1 + (v2 : Int) := wrap_i64 (by omega) (by omega)
        rw [hv]
        have hpa0 := hpa
        have hal := H.lt _ _ _ ga
        have w := w.keep (Mod.push none_ _ (.row true 3 (eC ((nxt W i k : Int), (i : Int), 1 + (v2 : Int)))))
        refine ⟨es2.flatMap eC, eC ((nxt W i k : Int), (i : Int), 1 + (v2 : Int)), w.sl, (SlIs.row (n := 1) (cs := eC ((nxt W i k : Int), (i : Int), 1 + (v2 : Int))) (H.obj_push_new _ _) rfl).weak, by
          rw [show (T.at_ 54).bytes = 24 from rfl]
          omega, by omega, fun p' h' hs hm hf => ?_⟩
        have w := w.app hs hm hf
        have hpa : ∀ o, p' = some (h2.next, o) → False := fun o e => by
          rcases hf h2.next o e with q | q
          · exact hpa0 o (by rw [← q, e])
          · exact absurd hal (Nat.not_lt.2 (Nat.le_trans (Nat.le_succ _) q))
        have ga := hm.get ((Mod.push none_ _ _).get ga (.inl (fun k => k))) (.inl (fun ⟨o, e⟩ => hpa0 o e))
        conv => whnf
        refine ⟨_, _, w.ob, Nat.le_of_ble_eq_true rfl, ?_⟩
        have e1 : (es2 ++ [((nxt W i k : Int), (i : Int), 1 + (v2 : Int))]).length = es2.length + 1 := by simp
        have e2 : (es2 ++ [((nxt W i k : Int), (i : Int), 1 + (v2 : Int))]).flatMap eC = es2.flatMap eC ++ eC ((nxt W i k : Int), (i : Int), 1 + (v2 : Int)) := by simp
        have ga := (Mod.set (S := one (h.next + 1)) (ob := .row true 3 [.sl pn ns.length, .sl p' (es2.length + 1), .sl none 0]) rfl w.ob rfl).get ga (.inl hgar)
        have w := w.put [.sl pn ns.length, .sl p' (es2.length + 1), .sl none 0]
        have w := w.cast (row' := [.sl pn ns.length, .sl p' ((es2 ++ [((nxt W i k : Int), (i : Int), 1 + (v2 : Int))]).length), .sl none 0]) (n' := (es2 ++ [((nxt W i k : Int), (i : Int), 1 + (v2 : Int))]).length) (cs' := (es2 ++ [((nxt W i k : Int), (i : Int), 1 + (v2 : Int))]).flatMap eC) (by rw [e1]) e1 e2
        conv => whnf
        have hes3 : es2 ++ [((nxt W i k : Int), (i : Int), 1 + (v2 : Int))] = es ++ [((i : Int), (nxt W i k : Int), 1 + (v1 : Int))] ++ [((nxt W i k : Int), (i : Int), 1 + (v2 : Int))] := by rw [hes2]
        rw [hes3] at w
        have hs : Eo N W i (k + 1) (es ++ [((i : Int), (nxt W i k : Int), 1 + (v1 : Int))] ++ [((nxt W i k : Int), (i : Int), 1 + (v2 : Int))]) := by
          have := ei.step hk hi hx v1 v2 (by omega) (by omega) true true
          simpa [List.append_assoc] using this
        refine ⟨_, Forget.cons rfl (Forget.cons rfl (Forget.cons rfl (Forget.cons rfl (Forget.cons rfl (Forget.cons rfl (Forget.cons rfl (Forget.cons rfl (Forget.nil _)))))))), ⟨k + 1, _, _, _, by omega, hz, w, ga, hpa, hs, rfl⟩, ?_⟩
        show ((2 : Int) - IntKind.i64.wrap ((k : Int) + 1)).toNat < ((2 : Int) - (k : Int)).toNat
        rw [hz]
        omega
  conv => whnf
  simp at ha
  obtain rfl : i = N := by omega
  have ex := ei.ex hN16
  clear ei ha hi0
  refine ⟨fun env hh => ∃ (j : Nat) (z : Int) (es : List (Int × Int × Int)) (pe : Option (Nat × Nat)), j ≤ 3 ∧ z = j ∧ Tb h1 hh (h.next + 1) [.sl pn ns.length, .sl pe (es.length), .sl none 0] pe es.length 3 (es.flatMap eC) ∧ Ex i j es ∧ env = [(11, i64 z), (4, i64 W), (5, i64 Hh), (0, .sl p n), (2, .ptr (some (h.next, 0))), (3, .ptr (some ((h.next + 1), 0)))],
    fun env _ => match get env 11 with
      | .int _ z => ((4 : Int) - z).toNat
      | _ => 0, ⟨_, Forget.cons rfl (Forget.cons rfl (Forget.cons rfl (Forget.cons rfl (Forget.cons rfl (Forget.cons rfl (Forget.nil _)))))), 0, _, es, pe, Nat.zero_le _, rfl, w, ex, rfl⟩, ?_⟩
  clear w ex
  rintro _ h3 ⟨j, z, es, pe, hj3, rfl, w, ex, rfl⟩
  conv => whnf
  refine (at32 (SlIs.old o (mm.trans' w.m (S2 := none_) (fun _ _ k => k) hgo) (fun _ _ k => k)) hn 3 4 ⟨by decide, by decide⟩ (by decide) (by decide)).mono ?_
  rintro _ h' ⟨eh, v, rfl, hv⟩
  subst h'
  conv => whnf
  refine br_mk (fun ha => ?_) (fun ha => ?_)
  · conv => whnf
    simp at ha
    have hel := ex.len
    refine ⟨[0, 1, 2, 3, 4, 5, 6, 7, 9, 10, 11, 12, 13, 14, 16, 17, 18, 8, 15, 19, 20, 21, 22, 23, 24, 25], [0, 1, 0, 0, 8, 0, 0, 96, 252, 0, 0, 1024, 0, 0, 12288, 32764, 0, 0, 131072, 524284, 1048572, 2097148, 4194300, 8388607, 16777215, 33554431], by kernel_rfl, ?_⟩
    conv => whnf
    refine ⟨_, Cell.mk w.ob rfl, ?_⟩
    conv => whnf
    rw [hN]
    refine (at32 (SlIs.old o (mm.trans' w.m (S2 := none_) (fun _ _ k => k) hgo) (fun _ _ k => k)) hn (IntKind.i64.wrap (4 + (j : Int))) (i : Int) (by rw [wrap_i64 (by omega) (by omega)]; omega) (by omega) (by omega)).mono ?_
    rintro _ h' ⟨eh, va, rfl, hva⟩
    subst h'
    conv => whnf
    refine ⟨?_, ?_⟩
    · conv => whnf
      exact ⟨_, Cell.mk w.ob rfl, rfl⟩
    conv => whnf
    refine (at32 (SlIs.old o (mm.trans' w.m (S2 := none_) (fun _ _ k => k) hgo) (fun _ _ k => k)) hn (IntKind.i64.wrap (8 + (j : Int))) (i : Int) (by rw [wrap_i64 (by omega) (by omega)]; omega) (by omega) (by omega)).mono ?_
    rintro _ h' ⟨eh, vb, rfl, hvb⟩
    subst h'
    conv => whnf
    refine ⟨?_, ?_⟩
    · conv => whnf
      exact ⟨_, Cell.mk w.ob rfl, rfl⟩
    conv => whnf
    refine (at32 (SlIs.old o (mm.trans' w.m (S2 := none_) (fun _ _ k => k) hgo) (fun _ _ k => k)) hn (IntKind.i64.wrap (12 + (j : Int))) 40 (by rw [wrap_i64 (by omega) (by omega)]; omega) (by omega) (by omega)).mono ?_
    rintro _ h' ⟨eh, vc, rfl, hvc⟩
    subst h'
    conv => whnf
    refine ⟨?_, ?_⟩
    · conv => whnf
      exact ⟨_, Cell.mk w.ob rfl, rfl⟩
    conv => whnf
    have hv : IntKind.i64.wrap (1 + (vc : Int)) = 1 + (vc : Int) := wrap_i64 (by omega) (by omega)
    rw [hv]
    have w := w.keep (Mod.push none_ _ (.row true 3 (eC ((va : Int), (vb : Int), 1 + (vc : Int)))))
    refine ⟨es.flatMap eC, eC ((va : Int), (vb : Int), 1 + (vc : Int)), w.sl, (SlIs.row (n := 1) (cs := eC ((va : Int), (vb : Int), 1 + (vc : Int))) (H.obj_push_new _ _) rfl).weak, by
      rw [show (T.at_ 54).bytes = 24 from rfl]
      omega, by omega, fun p' h' hs hm hf => ?_⟩
    have w := w.app hs hm hf
    conv => whnf
    refine ⟨_, _, w.ob, Nat.le_of_ble_eq_true rfl, ?_⟩
    have e1 : (es ++ [((va : Int), (vb : Int), 1 + (vc : Int))]).length = es.length + 1 := by simp
    have e2 : (es ++ [((va : Int), (vb : Int), 1 + (vc : Int))]).flatMap eC = es.flatMap eC ++ eC ((va : Int), (vb : Int), 1 + (vc : Int)) := by simp
    have w := w.put [.sl pn ns.length, .sl p' (es.length + 1), .sl none 0]
    have w := w.cast (row' := [.sl pn ns.length, .sl p' ((es ++ [((va : Int), (vb : Int), 1 + (vc : Int))]).length), .sl none 0]) (n' := (es ++ [((va : Int), (vb : Int), 1 + (vc : Int))]).length) (cs' := (es ++ [((va : Int), (vb : Int), 1 + (vc : Int))]).flatMap eC) (by rw [e1]) e1 e2
    conv => whnf
    have hz : IntKind.i64.wrap ((j : Int) + 1) = ((j + 1 : Nat) : Int) := by
      rw [wrap_i64 (by omega) (by omega)]
      omega
    refine ⟨_, Forget.cons rfl (Forget.cons rfl (Forget.cons rfl (Forget.cons rfl (Forget.cons rfl (Forget.cons rfl (Forget.nil _)))))), ⟨j + 1, _, _, p', by omega, hz, w, ex.add (by omega) (by omega) (by omega), rfl⟩, ?_⟩
    show ((4 : Int) - IntKind.i64.wrap ((j : Int) + 1)).toNat < ((4 : Int) - (j : Int)).toNat
    rw [hz]
    omega
  conv => whnf
  clear ha
  have ex := ex.mono (j := 3) hj3
  refine ⟨_, Cell.mk w.ob rfl, ?_⟩
  conv => whnf
  refine br_mk (fun ha => ?_) (fun ha => ?_)
  conv => whnf
  have w := w.renew 1 (sz' := 3) (cs' := eC (0, 0, 3)) rfl
  refine ⟨_, _, w.ob, Nat.le_of_ble_eq_true rfl, ?_⟩
  have w := w.put [.sl pn ns.length, .sl (some (h3.next, 0)) 1, .sl none 0]
  obtain ⟨es, hese⟩ : ∃ es : List (Int × Int × Int), es = [(0, 0, 3)] := ⟨_, rfl⟩
  have w := w.cast (row' := [.sl pn ns.length, .sl (some (h3.next, 0)) es.length, .sl none 0]) (n' := es.length) (cs' := es.flatMap eC) (by rw [hese]; rfl) (by rw [hese]; rfl) (by rw [hese]; rfl)
  have ex : Ex i 3 es := by
    rw [hese]
    exact Ex.one (by omega)
  have hpos : 0 < es.length := by
    rw [hese]
    exact Nat.zero_lt_one
  clear hese
  generalize some (h3.next, 0) = pe at w ⊢
  rotate_left
  have hpos : 0 < es.length := Nat.pos_of_ne_zero fun k => by
    rw [k] at ha
    exact absurd ha (by decide)
  all_goals
    clear ha
    conv => whnf
    have hpe : ∀ i o, pe = some (i, o) → ¬ one (h.next + 1) i ∧ h.next < i := w.sep hgc
    obtain ⟨hB, wB, se, mB⟩ := w.base 2
    have sn := sn.get mB (fun i o e => .inl (hpn i o e).1)
    have g2 := mB.get g2 (.inl hgn)
    have mm := mm.trans' mB (S2 := none_) (fun _ _ k => k) hgo
    have w := wB
    clear wB mB
    have hel := ex.len
    refine ⟨fun env hh => ∃ (a : Nat) (z : Int) (bs : List (Int × Int)) (pb : Option (Nat × Nat)), a ≤ es.length ∧ z = a ∧ Tb hB hh (h.next + 1) [.sl pn ns.length, .sl pe es.length, .sl pb (bs.length)] pb bs.length 2 (bs.flatMap pC) ∧ Bo es a 0 bs ∧ env = [(12, i64 z), (4, i64 W), (5, i64 Hh), (0, .sl p n), (2, .ptr (some (h.next, 0))), (3, .ptr (some ((h.next + 1), 0)))],
      fun env _ => match get env 12 with
        | .int _ z => ((es.length : Int) - z).toNat
        | _ => 0, ⟨_, Forget.cons rfl (Forget.cons rfl (Forget.cons rfl (Forget.cons rfl (Forget.cons rfl (Forget.cons rfl (Forget.nil _)))))), 0, _, [], none, Nat.zero_le _, rfl, w, Bo.nil es, rfl⟩, ?_⟩
    clear w
    rintro _ h5 ⟨a, z, bs, pb, hae, rfl, w, bo, rfl⟩
    conv => whnf
    refine ⟨_, Cell.mk w.ob rfl, ?_⟩
    conv => whnf
    refine br_mk (fun ha => ?_) (fun ha => ?_)
    · conv => whnf
      simp at ha
      have hal : a < es.length := by omega
      refine ⟨fun env hh => ∃ (b : Nat) (z : Int) (bs : List (Int × Int)) (pb : Option (Nat × Nat)), b ≤ es.length ∧ z = b ∧ Tb hB hh (h.next + 1) [.sl pn ns.length, .sl pe es.length, .sl pb (bs.length)] pb bs.length 2 (bs.flatMap pC) ∧ Bo es a b bs ∧ env = [(13, i64 z), (12, i64 a), (4, i64 W), (5, i64 Hh), (0, .sl p n), (2, .ptr (some (h.next, 0))), (3, .ptr (some ((h.next + 1), 0)))],
        fun env _ => match get env 13 with
          | .int _ z => ((es.length : Int) - z).toNat
          | _ => 0, ⟨_, Forget.cons rfl (Forget.cons rfl (Forget.cons rfl (Forget.cons rfl (Forget.cons rfl (Forget.cons rfl (Forget.cons rfl (Forget.nil _))))))), 0, _, bs, pb, Nat.zero_le _, rfl, w, bo, rfl⟩, ?_⟩
      clear w bo
      rintro _ h6 ⟨b, z, bs, pb, hbe, rfl, w, bo, rfl⟩
      conv => whnf
      refine ⟨_, Cell.mk w.ob rfl, ?_⟩
      conv => whnf
      refine br_mk (fun hb => ?_) (fun hb => ?_)
      rotate_left
      · conv => whnf
        simp at hb
        obtain rfl : b = es.length := by omega
        have hs2 := succ_i64 (j := a) (n := es.length) hal (by omega)
        refine ⟨_, Forget.cons rfl (Forget.cons rfl (Forget.cons rfl (Forget.cons rfl (Forget.cons rfl (Forget.cons rfl (Forget.nil _)))))), ⟨a + 1, _, bs, pb, by omega, hs2, w, bo.next ex.cnt, rfl⟩, ?_⟩
        show ((es.length : Int) - IntKind.i64.wrap ((a : Int) + 1)).toNat < ((es.length : Int) - (a : Int)).toNat
        rw [hs2]
        omega
      conv => whnf
      simp at hb
      have hbl : b < es.length := by omega
      have hs2 := succ_i64 (j := b) (n := es.length) hbl (by omega)
      have hmu : ((es.length : Int) - IntKind.i64.wrap ((b : Int) + 1)).toNat < ((es.length : Int) - (b : Int)).toNat := by
        rw [hs2]
        omega
      have seh := se.get w.m (fun i o e => .inl (hpe i o e).1)
      obtain ⟨i1, c1, e1, _, k1⟩ := sls_get eC_len seh rfl hal
      obtain ⟨i2, c2, e2, _, k2⟩ := sls_get eC_len seh rfl hbl
      refine ⟨[0, 1, 2, 3, 4, 5, 6, 7, 8, 9, 10, 11, 12, 13, 14, 15, 16, 17, 18, 19, 20, 21], [0, 1, 0, 7, 15, 31, 0, 64, 0, 448, 960, 1984, 4095, 8191, 16383, 16383, 49151, 16383, 245759, 524287, 1048575, 2097151], by kernel_rfl, ?_⟩
      conv => whnf
      refine ⟨_, Cell.mk w.ob rfl, ?_⟩
      conv => whnf
      refine ⟨i1, c1, a, e1, rfl, hal, ?_⟩
      conv => whnf
      refine ⟨_, k1 1 (i64 es[a].2.1) rfl, ?_⟩
      conv => whnf
      refine ⟨_, Cell.mk w.ob rfl, ?_⟩
      conv => whnf
      refine ⟨i2, c2, b, e2, rfl, hbl, ?_⟩
      conv => whnf
      refine ⟨_, k2 0 (i64 es[b].1) rfl, ?_⟩
      conv => whnf
      refine br_mk (fun hq => ?_) (fun hq => ?_)
      rotate_left
      · conv => whnf
        exact ⟨_, Forget.cons rfl (Forget.cons rfl (Forget.cons rfl (Forget.cons rfl (Forget.cons rfl (Forget.cons rfl (Forget.cons rfl (Forget.nil _))))))), ⟨b + 1, _, bs, pb, by omega, hs2, w, bo.skip hbl, rfl⟩, hmu⟩
      conv => whnf
      have hq : es[a].2.1 = es[b].1 := by simpa using hq
      refine (at32 (SlIs.old o (mm.trans' w.m (S2 := none_) (fun _ _ k => k) hgo) (fun _ _ k => k)) hn (IntKind.i64.wrap (IntKind.i64.wrap (7 * (a : Int)) + (b : Int))) 9 (by rw [wrap_i64 (x := 7 * (a : Int)) (by omega) (by omega), wrap_i64 (by omega) (by omega)]; omega) (by decide) (by decide)).mono ?_
      rintro _ h' ⟨eh, v, rfl, hv⟩
      subst h'
      conv => whnf
      refine br_mk (fun hr => ?_) (fun hr => ?_)
      rotate_left
      · conv => whnf
        exact ⟨_, Forget.cons rfl (Forget.cons rfl (Forget.cons rfl (Forget.cons rfl (Forget.cons rfl (Forget.cons rfl (Forget.cons rfl (Forget.nil _))))))), ⟨b + 1, _, bs, pb, by omega, hs2, w, bo.skip hbl, rfl⟩, hmu⟩
      conv => whnf
      clear e1 e2 k1 k2
      have hbl2 : bs.length ≤ 2000 := by
        have h1 := bo.len
        have h2 := List.countP_le_length (p := fun e : Int × Int × Int => e.1 == toOf es a) (l := es.take b)
        have h3 : (es.take b).length ≤ es.length := by
          rw [List.length_take]
          omega
        unfold cf at h1
        omega
      refine ⟨_, Cell.mk w.ob rfl, ?_⟩
      conv => whnf
      have w := w.keep (Mod.push none_ _ (.row true 2 (pC ((a : Int), (b : Int)))))
      refine ⟨bs.flatMap pC, pC ((a : Int), (b : Int)), w.sl, (SlIs.row (n := 1) (cs := pC ((a : Int), (b : Int))) (H.obj_push_new _ _) rfl).weak, by
        rw [show (T.at_ 88).bytes = 16 from rfl]
        omega, by omega, fun p' h' hs hm hf => ?_⟩
      have w := w.app hs hm hf
      conv => whnf
      refine ⟨_, _, w.ob, Nat.le_of_ble_eq_true rfl, ?_⟩
      have e1 : (bs ++ [((a : Int), (b : Int))]).length = bs.length + 1 := by simp
      have e2 : (bs ++ [((a : Int), (b : Int))]).flatMap pC = bs.flatMap pC ++ pC ((a : Int), (b : Int)) := by simp
      have w := w.put [.sl pn ns.length, .sl pe es.length, .sl p' (bs.length + 1)]
      have w := w.cast (row' := [.sl pn ns.length, .sl pe es.length, .sl p' ((bs ++ [((a : Int), (b : Int))]).length)]) (n' := (bs ++ [((a : Int), (b : Int))]).length) (cs' := (bs ++ [((a : Int), (b : Int))]).flatMap pC) (by rw [e1]) e1 e2
      conv => whnf
      exact ⟨_, Forget.cons rfl (Forget.cons rfl (Forget.cons rfl (Forget.cons rfl (Forget.cons rfl (Forget.cons rfl (Forget.cons rfl (Forget.nil _))))))), ⟨b + 1, _, _, p', by omega, hs2, w, bo.add hal hbl hq, rfl⟩, hmu⟩
    conv => whnf
    simp at ha
    obtain rfl : a = es.length := by omega
    have hpb := w.sep hgc
    have se := se.get w.m (fun i o e => .inl (hpe i o e).1)
    have sn := sn.get w.m (fun i o e => .inl (hpn i o e).1)
    have g2 := w.m.get g2 (.inl hgn)
    have mm := mm.trans' w.m (S2 := none_) (fun _ _ k => k) hgo
    have hbl2 : bs.length ≤ 2000 := by
      have h1 := bo.len
      have h2 : cf (toOf es es.length) (es.take 0) = 0 := rfl
      omega
    have hmay : mayG ⟨pn, ns, pe, es, pb, bs⟩ = true := may_town (by show 1 ≤ ns.length; omega) (by show ns.length ≤ 16; omega) hall (by show Ex ns.length 3 es; rw [hnl]; exact ex) bo
    have okm : (⟨pn, ns, pe, es, pb, bs⟩ : Gra).ok h5 := ⟨sn.weak, se.weak, w.sl.weak, by show ns.length ≤ 100000; omega, by show es.length ≤ 100000; omega, by show bs.length ≤ 100000; omega⟩
    refine ⟨_, Cells.mk (vs := (⟨pn, ns, pe, es, pb, bs⟩ : Gra).cells) w.ob (Nat.le_of_ble_eq_true rfl) rfl, ?_⟩
    conv => whnf
    refine ⟨_, _, g2, Nat.le_of_ble_eq_true rfl, ?_⟩
    conv => whnf
    have ms := Mod.set (S := one h.next) (ob := .row true 3 (⟨pn, ns, pe, es, pb, bs⟩ : Gra).cells) rfl g2 rfl
    have g3 := H.obj_set_same (ob' := .row true 3 (⟨pn, ns, pe, es, pb, bs⟩ : Gra).cells) g2
    refine ⟨(⟨pn, ns, pe, es, pb, bs⟩ : Gra).cells, Cells.mk g3 (Nat.le_of_ble_eq_true rfl) rfl, ?_⟩
    conv => whnf
    have hne : ∀ (q : Option (Nat × Nat)), (∀ i o, q = some (i, o) → ¬ one (h.next + 1) i ∧ h.next < i) → ∀ i o, q = some (i, o) → ¬ one h.next i := fun q hq i o e k => by
      have := (hq i o e).2
      unfold one at k
      omega
    exact ⟨⟨pn, ns, pe, es, pb, bs⟩, rfl, okm.but ms (hne _ hpn) (hne _ hpe) (hne _ hpb), mm.trans' ms (S2 := none_) (fun _ _ k => k) (fun i hi k => absurd hi (by unfold one at k; omega)), hmay, hpos⟩
end Go.Proofs.YteapijoibimfnaaGreat
