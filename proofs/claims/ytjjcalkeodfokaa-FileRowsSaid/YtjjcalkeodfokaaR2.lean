/- Graphs, as they are handed about; what may be one. -/
import Derived.Test.YtjjcalkeodfokaaR1
set_option linter.unusedVariables false
namespace Go.Proofs.Ytjjcalkeodfokaa
open Go Go.Ab
def pC (p : Int × Int) : List V := [i64 p.1, i64 p.2]
def eC (e : Int × Int × Int) : List V := [i64 e.1, i64 e.2.1, i64 e.2.2]
theorem flat_seg {α : Type} {f : α → List V} {sz : Nat} (hf : ∀ a, (f a).length = sz) {l : List α} {j : Nat} (hj : j < l.length) : ((l.flatMap f).drop (j * sz)).take sz = f l[j] := by
  apply List.ext_getElem?
  intro d
  rw [List.getElem?_take, List.getElem?_drop]
  by_cases hd : d < sz
  · rw [if_pos hd, flat_get hf hd, List.getElem?_eq_getElem hj]
    rfl
  · rw [if_neg hd, List.getElem?_eq_none (by rw [hf]; omega)]
theorem sls_get {α : Type} {f : α → List V} {sz : Nat} (hf : ∀ a, (f a).length = sz) {h : H} {p : Option (Nat × Nat)} {n : Nat} {own : Bool} {l : List α} (o : SlIs h p n own sz (l.flatMap f)) (hn : n = l.length) {j : Nat} (hj : j < l.length) :
    ∃ i c, p = some (i, c) ∧ Cells h i (c + j * sz) sz (f l[j]) ∧ ∀ d v, (f l[j])[d]? = some v → Cell h i (c + j * sz + d) v := by
  obtain ⟨hl, hr⟩ := o
  rcases hr with ⟨h0, _⟩ | ⟨i, c, b, r, rfl, e2, _, e4, e5⟩
  · omega
  · have hm : j * sz + sz ≤ n * sz := by
      rw [hn, ← Nat.succ_mul]
      exact Nat.mul_le_mul_right _ hj
    have hs : (r.drop (c + j * sz)).take sz = f l[j] := by
      rw [← flat_seg hf hj, ← e5, List.drop_take, List.drop_drop, List.take_take, Nat.min_eq_left (by omega)]
    refine ⟨i, c, rfl, ⟨b, sz, r, e2, by omega, hs⟩, fun d v hd => ⟨b, sz, r, e2, ?_⟩⟩
    have hds : d < sz := by
      have := (List.getElem?_eq_some_iff.1 hd).1
      rwa [hf] at this
    rw [← hs, List.getElem?_take, if_pos hds, List.getElem?_drop] at hd
    exact hd
structure Gra where
  np : Option (Nat × Nat)
  ns : List (Int × Int)
  ep : Option (Nat × Nat)
  es : List (Int × Int × Int)
  bp : Option (Nat × Nat)
  bs : List (Int × Int)
def Gra.cells (g : Gra) : List V := [.sl g.np g.ns.length, .sl g.ep g.es.length, .sl g.bp g.bs.length]
structure Gra.ok (h : H) (g : Gra) : Prop where
  n : SlIs h g.np g.ns.length false 2 (g.ns.flatMap pC)
  e : SlIs h g.ep g.es.length false 3 (g.es.flatMap eC)
  b : SlIs h g.bp g.bs.length false 2 (g.bs.flatMap pC)
  ln : g.ns.length ≤ 100000
  le : g.es.length ≤ 100000
  lb : g.bs.length ≤ 100000
theorem Gra.ok.old {S : Nat → Prop} {h h' : H} {g : Gra} (o : g.ok h) (m : Ab.Mod S h h') (hS : ∀ i, i < h.next → ¬ S i) : g.ok h' :=
  ⟨SlIs.old o.n m hS, SlIs.old o.e m hS, SlIs.old o.b m hS, o.ln, o.le, o.lb⟩
def nodeOk (n : Int × Int) : Bool := inB n.1 0 4095 && inB n.2 0 4095
def edgeOk (N : Int) (e : Int × Int × Int) : Bool := inB e.1 0 N && (inB e.2.1 0 N && inB e.2.2 1 65535)
def edgeAt (g : Gra) (k : Int) : Int × Int × Int := g.es.getD k.toNat (0, 0, 0)
def banAt (g : Gra) (j : Nat) : Int × Int := g.bs.getD j (0, 0)
def banOk (g : Gra) (j : Nat) : Bool := inB (banAt g j).1 0 (g.es.length - 1) && (inB (banAt g j).2 0 (g.es.length - 1) && ((edgeAt g (banAt g j).1).2.1 == (edgeAt g (banAt g j).2).1 && (j == 0 || decide (ordI (banAt g (j - 1)) (banAt g j) < 0))))
def sizesOk (g : Gra) : Bool := inB g.ns.length 1 256 && (decide (g.es.length ≤ 512) && decide (g.bs.length ≤ 1024))
def mayG (g : Gra) : Bool := sizesOk g && (g.ns.all nodeOk && (g.es.all (edgeOk (g.ns.length - 1)) && (List.range g.bs.length).all (banOk g)))
theorem all_no {α : Type} {f : α → Bool} {l : List α} {j : Nat} (hj : j < l.length) (h : f l[j] = false) : l.all f = false := by
  cases e : l.all f with
  | false => rfl
  | true =>
    rw [List.all_eq_true] at e
    rw [e _ (List.getElem_mem hj)] at h
    cases h
theorem all_yes {α : Type} {f : α → Bool} {l : List α} (h : ∀ j (hj : j < l.length), f l[j] = true) : l.all f = true := by
  rw [List.all_eq_true]
  intro x hx
  obtain ⟨j, hj, rfl⟩ := List.getElem_of_mem hx
  exact h j hj
theorem range_no {f : Nat → Bool} {n j : Nat} (hj : j < n) (h : f j = false) : (List.range n).all f = false := by
  cases e : (List.range n).all f with
  | false => rfl
  | true =>
    rw [List.all_eq_true] at e
    rw [e _ (List.mem_range.2 hj)] at h
    cases h
theorem range_yes {f : Nat → Bool} {n : Nat} (h : ∀ j, j < n → f j = true) : (List.range n).all f = true := by
  rw [List.all_eq_true]
  exact fun x hx => h x (List.mem_range.1 hx)
/-- a row that is laid by -/
theorem lay_row {h : H} {sz : Nat} (z cs : List V) : ∃ gm : (h.push (.row true sz z)).obj h.next = some (.row true sz z), ((h.push (.row true sz z)).set h.next (.row true sz cs)).obj h.next = some (.row true sz cs) ∧ Ab.Mod none_ h ((h.push (.row true sz z)).set h.next (.row true sz cs)) := by
  have mp := Mod.push none_ h (.row true sz z)
  have gm : (h.push (.row true sz z)).obj h.next = some (.row true sz z) := H.obj_push_new _ _
  refine ⟨gm, H.obj_set_same gm, ?_⟩
  have ms := Mod.set (S := one h.next) (ob := .row true sz cs) rfl gm rfl
  exact mp.trans' ms (S2 := none_) (fun _ _ k => k) (fun i hi k => absurd hi (by unfold one at k; omega))
theorem pC_len (p : Int × Int) : (pC p).length = 2 := rfl
theorem eC_len (p : Int × Int × Int) : (eC p).length = 3 := rfl
set_option maxHeartbeats 1000000 in
theorem may33 {h : H} (g : Gra) (ok : g.ok h) : ACalls Try.prog 33 [.agg g.cells] h (fun r h' => r = .bool (mayG g) ∧ Ab.Mod none_ h h') := by
  refine call_ Try.func33 rfl rfl (by kernel_rfl) ?_
  conv => whnf
  have mm := Mod.push none_ h (.row true 3 g.cells)
  have gb : (h.push (.row true 3 g.cells)).obj h.next = some (.row true 3 g.cells) := H.obj_push_new _ _
  refine ⟨_, Cell.mk gb rfl, ?_⟩
  conv => whnf
  refine (within44 _ (g.ns.length : Int) 1 256).mono ?_
  rintro _ h' ⟨eh, rfl⟩
  subst h'
  conv => whnf
  refine br_mk (fun ha => ?_) (fun ha => ?_)
  · conv => whnf
    have ha : inB g.ns.length 1 256 = false := by simpa using ha
    exact ⟨by rw [mayG, sizesOk, ha, Bool.false_and, Bool.false_and], mm⟩
  conv => whnf
  have ha : inB g.ns.length 1 256 = true := by simpa using ha
  refine ⟨_, Cell.mk gb rfl, ?_⟩
  conv => whnf
  refine br_mk (fun hb => ?_) (fun hb => ?_)
  · conv => whnf
    simp at hb
    exact ⟨by rw [mayG, sizesOk, decide_eq_false (show ¬ g.es.length ≤ 512 by omega), Bool.false_and, Bool.and_false, Bool.false_and], mm⟩
  conv => whnf
  simp at hb
  refine ⟨_, Cell.mk gb rfl, ?_⟩
  conv => whnf
  refine br_mk (fun hc => ?_) (fun hc => ?_)
  · conv => whnf
    simp at hc
    exact ⟨by rw [mayG, sizesOk, decide_eq_false (show ¬ g.bs.length ≤ 1024 by omega), Bool.and_false, Bool.and_false, Bool.false_and], mm⟩
  conv => whnf
  simp at hc
  have hsz : sizesOk g = true := by rw [sizesOk, ha, decide_eq_true (show g.es.length ≤ 512 by omega), decide_eq_true (show g.bs.length ≤ 1024 by omega)]; rfl
  have no1 : g.ns.all nodeOk = false → mayG g = false := fun e => by rw [mayG, e, Bool.false_and, Bool.and_false]
  have no2 : g.es.all (edgeOk (g.ns.length - 1)) = false → mayG g = false := fun e => by rw [mayG, e, Bool.false_and, Bool.and_false, Bool.and_false]
  have no3 : (List.range g.bs.length).all (banOk g) = false → mayG g = false := fun e => by rw [mayG, e, Bool.and_false, Bool.and_false, Bool.and_false]
  refine ⟨_, Cell.mk gb rfl, ?_⟩
  conv => whnf
  refine ⟨fun env hh => ∃ (j : Nat) (z : Int), j ≤ g.ns.length ∧ z = j ∧ Ab.Mod none_ h hh ∧ hh.obj h.next = some (.row true 3 g.cells) ∧ (∀ k (hk : k < g.ns.length), k < j → nodeOk g.ns[k] = true) ∧ env = [(31, i64 z), (30, i64 g.ns.length), (29, .sl g.np g.ns.length), (1, .ptr (some (h.next, 0)))],
    fun env _ => match get env 31 with
      | .int _ z => (g.ns.length - z).toNat
      | _ => 0, ⟨_, Forget.cons rfl (Forget.cons rfl (Forget.cons rfl (Forget.cons rfl (Forget.nil _)))), 0, _, Nat.zero_le _, rfl, mm, gb, fun k _ hk => absurd hk (Nat.not_lt_zero k), rfl⟩, ?_⟩
  clear mm gb
  rintro _ h1 ⟨j, z, hj, rfl, mm, gb, hall, rfl⟩
  conv => whnf
  refine br_mk (fun hd => ?_) (fun hd => ?_)
  · conv => whnf
    simp at hd
    obtain ⟨i, c, e1, k1, k2⟩ := sls_get pC_len (SlIs.old ok.n mm (fun _ _ k => k)) rfl hd
    rw [e1]
    refine ⟨i, c, j, rfl, rfl, hd, ?_⟩
    conv => whnf
    refine ⟨_, k1, ?_⟩
    conv => whnf
    obtain ⟨g0, gx, mx⟩ := lay_row (h := h1) (sz := 2) [i64 0, i64 0] (pC g.ns[j])
    refine ⟨_, _, g0, Nat.le_of_ble_eq_true rfl, ?_⟩
    conv => whnf
    have gb := mx.get gb (.inl (fun k => k))
    have mm := mod_none mm mx
    refine ⟨_, Cell.mk gx rfl, ?_⟩
    conv => whnf
    refine (within44 _ g.ns[j].1 0 4095).mono ?_
    rintro _ h' ⟨eh, rfl⟩
    subst h'
    conv => whnf
    refine br_mk (fun he => ?_) (fun he => ?_)
    · conv => whnf
      have he : inB g.ns[j].1 0 4095 = false := by simpa using he
      exact ⟨by rw [no1 (all_no hd (by rw [nodeOk, he, Bool.false_and]))], mm⟩
    conv => whnf
    have he : inB g.ns[j].1 0 4095 = true := by simpa using he
    refine ⟨_, Cell.mk gx rfl, ?_⟩
    conv => whnf
    refine (within44 _ g.ns[j].2 0 4095).mono ?_
    rintro _ h' ⟨eh, rfl⟩
    subst h'
    conv => whnf
    refine br_mk (fun hf => ?_) (fun hf => ?_)
    · conv => whnf
      have hf : inB g.ns[j].2 0 4095 = false := by simpa using hf
      exact ⟨by rw [no1 (all_no hd (by rw [nodeOk, hf, Bool.and_false]))], mm⟩
    conv => whnf
    have hf : inB g.ns[j].2 0 4095 = true := by simpa using hf
    have hs2 := succ_i64 (j := j) (n := g.ns.length) hd (by have := ok.ln; omega)
    refine ⟨_, Forget.cons rfl (Forget.cons rfl (Forget.cons rfl (Forget.cons rfl (Forget.nil _)))), ⟨j + 1, _, by omega, hs2, mm, gb, fun k hk hkj => ?_, rfl⟩, ?_⟩
    · rcases Nat.lt_or_ge k j with q | q
      · exact hall k hk q
      · obtain rfl : k = j := by omega
        rw [nodeOk, he, hf]
        rfl
    · show (g.ns.length - IntKind.i64.wrap ((j : Int) + 1)).toNat < (g.ns.length - (j : Int)).toNat
      rw [hs2]
      omega
  conv => whnf
  simp at hd
  have yes1 : g.ns.all nodeOk = true := all_yes (fun k hk => hall k hk (by omega))
  clear hall hd hj
  refine ⟨_, Cell.mk gb rfl, ?_⟩
  conv => whnf
  refine ⟨_, Cell.mk gb rfl, ?_⟩
  conv => whnf
  have hN : IntKind.i64.wrap ((g.ns.length : Int) - 1) = (g.ns.length : Int) - 1 := wrap_i64 (by omega) (by have := ok.ln; omega)
  rw [hN]
  refine ⟨fun env hh => ∃ (j : Nat) (z : Int), j ≤ g.es.length ∧ z = j ∧ Ab.Mod none_ h hh ∧ hh.obj h.next = some (.row true 3 g.cells) ∧ (∀ k (hk : k < g.es.length), k < j → edgeOk (g.ns.length - 1) g.es[k] = true) ∧ env = [(53, i64 z), (52, i64 g.es.length), (51, .sl g.ep g.es.length), (5, i64 ((g.ns.length : Int) - 1)), (1, .ptr (some (h.next, 0)))],
    fun env _ => match get env 53 with
      | .int _ z => (g.es.length - z).toNat
      | _ => 0, ⟨_, Forget.cons rfl (Forget.cons rfl (Forget.cons rfl (Forget.cons rfl (Forget.cons rfl (Forget.nil _))))), 0, _, Nat.zero_le _, rfl, mm, gb, fun k _ hk => absurd hk (Nat.not_lt_zero k), rfl⟩, ?_⟩
  clear mm gb
  rintro _ h2 ⟨j, z, hj, rfl, mm, gb, hall, rfl⟩
  conv => whnf
  refine br_mk (fun hd => ?_) (fun hd => ?_)
  · conv => whnf
    simp at hd
    obtain ⟨i, c, e1, k1, k2⟩ := sls_get eC_len (SlIs.old ok.e mm (fun _ _ k => k)) rfl hd
    rw [e1]
    refine ⟨i, c, j, rfl, rfl, hd, ?_⟩
    conv => whnf
    refine ⟨_, k1, ?_⟩
    conv => whnf
    obtain ⟨g0, gx, mx⟩ := lay_row (h := h2) (sz := 3) [i64 0, i64 0, i64 0] (eC g.es[j])
    refine ⟨_, _, g0, Nat.le_of_ble_eq_true rfl, ?_⟩
    conv => whnf
    have gb := mx.get gb (.inl (fun k => k))
    have mm := mod_none mm mx
    refine ⟨_, Cell.mk gx rfl, ?_⟩
    conv => whnf
    refine (within44 _ g.es[j].1 0 ((g.ns.length : Int) - 1)).mono ?_
    rintro _ h' ⟨eh, rfl⟩
    subst h'
    conv => whnf
    refine br_mk (fun he => ?_) (fun he => ?_)
    · conv => whnf
      have he : inB g.es[j].1 0 ((g.ns.length : Int) - 1) = false := by simpa using he
      exact ⟨by rw [no2 (all_no hd (by rw [edgeOk, he, Bool.false_and]))], mm⟩
    conv => whnf
    have he : inB g.es[j].1 0 ((g.ns.length : Int) - 1) = true := by simpa using he
    refine ⟨_, Cell.mk gx rfl, ?_⟩
    conv => whnf
    refine (within44 _ g.es[j].2.1 0 ((g.ns.length : Int) - 1)).mono ?_
    rintro _ h' ⟨eh, rfl⟩
    subst h'
    conv => whnf
    refine br_mk (fun hf => ?_) (fun hf => ?_)
    · conv => whnf
      have hf : inB g.es[j].2.1 0 ((g.ns.length : Int) - 1) = false := by simpa using hf
      exact ⟨by rw [no2 (all_no hd (by rw [edgeOk, hf, Bool.false_and, Bool.and_false]))], mm⟩
    conv => whnf
    have hf : inB g.es[j].2.1 0 ((g.ns.length : Int) - 1) = true := by simpa using hf
    refine ⟨_, Cell.mk gx rfl, ?_⟩
    conv => whnf
    refine (within44 _ g.es[j].2.2 1 65535).mono ?_
    rintro _ h' ⟨eh, rfl⟩
    subst h'
    conv => whnf
    refine br_mk (fun hg => ?_) (fun hg => ?_)
    · conv => whnf
      have hg : inB g.es[j].2.2 1 65535 = false := by simpa using hg
      exact ⟨by rw [no2 (all_no hd (by rw [edgeOk, hg, Bool.and_false, Bool.and_false]))], mm⟩
    conv => whnf
    have hg : inB g.es[j].2.2 1 65535 = true := by simpa using hg
    have hs2 := succ_i64 (j := j) (n := g.es.length) hd (by have := ok.le; omega)
    refine ⟨_, Forget.cons rfl (Forget.cons rfl (Forget.cons rfl (Forget.cons rfl (Forget.cons rfl (Forget.nil _))))), ⟨j + 1, _, by omega, hs2, mm, gb, fun k hk hkj => ?_, rfl⟩, ?_⟩
    · rcases Nat.lt_or_ge k j with q | q
      · exact hall k hk q
      · obtain rfl : k = j := by omega
        rw [edgeOk, he, hf, hg]
        rfl
    · show (g.es.length - IntKind.i64.wrap ((j : Int) + 1)).toNat < (g.es.length - (j : Int)).toNat
      rw [hs2]
      omega
  conv => whnf
  simp at hd
  have yes2 : g.es.all (edgeOk (g.ns.length - 1)) = true := all_yes (fun k hk => hall k hk (by omega))
  clear hall hd hj
  refine ⟨_, Cell.mk gb rfl, ?_⟩
  conv => whnf
  refine ⟨fun env hh => ∃ (j : Nat) (z : Int), j ≤ g.bs.length ∧ z = j ∧ Ab.Mod none_ h hh ∧ hh.obj h.next = some (.row true 3 g.cells) ∧ (∀ k, k < j → banOk g k = true) ∧ env = [(79, i64 z), (78, i64 g.bs.length), (77, .sl g.bp g.bs.length), (1, .ptr (some (h.next, 0)))],
    fun env _ => match get env 79 with
      | .int _ z => (g.bs.length - z).toNat
      | _ => 0, ⟨_, Forget.cons rfl (Forget.cons rfl (Forget.cons rfl (Forget.cons rfl (Forget.nil _)))), 0, _, Nat.zero_le _, rfl, mm, gb, fun k hk => absurd hk (Nat.not_lt_zero k), rfl⟩, ?_⟩
  clear mm gb
  rintro _ h3 ⟨j, z, hj, rfl, mm, gb, hall, rfl⟩
  conv => whnf
  refine br_mk (fun hd => ?_) (fun hd => ?_)
  rotate_left
  · conv => whnf
    simp at hd
    have yes3 : (List.range g.bs.length).all (banOk g) = true := range_yes (fun k hk => hall k (by omega))
    exact ⟨by rw [mayG, hsz, yes1, yes2, yes3]; rfl, mm⟩
  conv => whnf
  simp at hd
  have hle := ok.le
  have hbj : banAt g j = g.bs[j] := by
    rw [banAt, List.getD_eq_getElem?_getD, List.getElem?_eq_getElem hd]
    rfl
  obtain ⟨i, c, e1, k1, k2⟩ := sls_get pC_len (SlIs.old ok.b mm (fun _ _ k => k)) rfl hd
  rw [e1]
  refine ⟨i, c, j, rfl, rfl, hd, ?_⟩
  conv => whnf
  refine ⟨_, k1, ?_⟩
  conv => whnf
  obtain ⟨g0, gx, mx⟩ := lay_row (h := h3) (sz := 2) [i64 0, i64 0] (pC g.bs[j])
  refine ⟨_, _, g0, Nat.le_of_ble_eq_true rfl, ?_⟩
  conv => whnf
  have gb := mx.get gb (.inl (fun k => k))
  have mm := mod_none mm mx
  refine ⟨_, Cell.mk gb rfl, ?_⟩
  conv => whnf
  have hE : IntKind.i64.wrap ((g.es.length : Int) - 1) = (g.es.length : Int) - 1 := wrap_i64 (by omega) (by omega)
  rw [hE]
  refine ⟨[0, 1, 2, 3, 4, 5, 6, 7, 8, 9, 10, 11, 12, 13, 14, 15, 16, 17, 18, 19, 20, 21, 22, 23, 24, 25, 26, 27, 28, 29, 30, 31, 32, 33, 34, 35, 36, 37, 38, 39, 40, 41, 42, 43], [0, 1, 0, 7, 15, 31, 63, 127, 63, 511, 1023, 2047, 4095, 8191, 16383, 8191, 40959, 131071, 262143, 524287, 8191, 1056767, 8191, 4202495, 15736831, 32514047, 66068479, 134217727, 268435455, 536870911, 1073741823, 2147483647, 4294967295, 8589934591, 17179869183, 8589934591, 42949672959, 137438953471, 274877906943, 8589934591, 1099511627775, 2199023255551, 4398046511103, 8796093022207], by kernel_rfl, ?_⟩
  conv => whnf
  refine ⟨_, Cell.mk gx rfl, ?_⟩
  conv => whnf
  refine (within44 _ g.bs[j].1 0 ((g.es.length : Int) - 1)).mono ?_
  rintro _ h' ⟨eh, rfl⟩
  subst h'
  conv => whnf
  refine br_mk (fun he => ?_) (fun he => ?_)
  · conv => whnf
    have he : inB g.bs[j].1 0 ((g.es.length : Int) - 1) = false := by simpa using he
    exact ⟨by rw [no3 (range_no hd (by rw [banOk, hbj, he, Bool.false_and]))], mm⟩
  conv => whnf
  have he : inB g.bs[j].1 0 ((g.es.length : Int) - 1) = true := by simpa using he
  refine ⟨_, Cell.mk gx rfl, ?_⟩
  conv => whnf
  refine (within44 _ g.bs[j].2 0 ((g.es.length : Int) - 1)).mono ?_
  rintro _ h' ⟨eh, rfl⟩
  subst h'
  conv => whnf
  refine br_mk (fun hf => ?_) (fun hf => ?_)
  · conv => whnf
    have hf : inB g.bs[j].2 0 ((g.es.length : Int) - 1) = false := by simpa using hf
    exact ⟨by rw [no3 (range_no hd (by rw [banOk, hbj, hf, Bool.false_and, Bool.and_false]))], mm⟩
  conv => whnf
  have hf : inB g.bs[j].2 0 ((g.es.length : Int) - 1) = true := by simpa using hf
  obtain ⟨a, ha1, ha2⟩ : ∃ a : Nat, g.bs[j].1 = a ∧ a < g.es.length := by
    simp only [inB, Bool.and_eq_true, decide_eq_true_eq] at he
    exact ⟨g.bs[j].1.toNat, by omega, by omega⟩
  obtain ⟨b, hb1, hb2⟩ : ∃ b : Nat, g.bs[j].2 = b ∧ b < g.es.length := by
    simp only [inB, Bool.and_eq_true, decide_eq_true_eq] at hf
    exact ⟨g.bs[j].2.toNat, by omega, by omega⟩
  have hea : edgeAt g g.bs[j].1 = g.es[a] := by
    rw [edgeAt, ha1, Int.toNat_natCast, List.getD_eq_getElem?_getD, List.getElem?_eq_getElem ha2]
    rfl
  have heb : edgeAt g g.bs[j].2 = g.es[b] := by
    rw [edgeAt, hb1, Int.toNat_natCast, List.getD_eq_getElem?_getD, List.getElem?_eq_getElem hb2]
    rfl
  refine ⟨_, Cell.mk gb rfl, ?_⟩
  conv => whnf
  refine ⟨_, Cell.mk gx rfl, ?_⟩
  conv => whnf
  obtain ⟨ia, ca, ea1, _, ka2⟩ := sls_get eC_len (SlIs.old ok.e mm (fun _ _ k => k)) rfl ha2
  obtain ⟨ib, cb, eb1, _, kb2⟩ := sls_get eC_len (SlIs.old ok.e mm (fun _ _ k => k)) rfl hb2
  refine ⟨ia, ca, a, ea1, ha1, ha2, ?_⟩
  conv => whnf
  refine ⟨_, ka2 1 (i64 g.es[a].2.1) rfl, ?_⟩
  conv => whnf
  refine ⟨_, Cell.mk gb rfl, ?_⟩
  conv => whnf
  refine ⟨_, Cell.mk gx rfl, ?_⟩
  conv => whnf
  refine ⟨ib, cb, b, eb1, hb1, hb2, ?_⟩
  conv => whnf
  refine ⟨_, kb2 0 (i64 g.es[b].1) rfl, ?_⟩
  conv => whnf
  refine br_mk (fun hg => ?_) (fun hg => ?_)
  · conv => whnf
    have hg : (g.es[a].2.1 == g.es[b].1) = false := by simpa using hg
    exact ⟨by rw [no3 (range_no hd (by rw [banOk, hbj, hea, heb, hg, Bool.false_and, Bool.and_false, Bool.and_false]))], mm⟩
  conv => whnf
  have hg : (g.es[a].2.1 == g.es[b].1) = true := by simpa using hg
  have hs2 := succ_i64 (j := j) (n := g.bs.length) hd (by have := ok.lb; omega)
  refine br_mk (fun hp => ?_) (fun hp => ?_)
  rotate_left
  · conv => whnf
    simp at hp
    obtain rfl : j = 0 := by omega
    refine ⟨_, Forget.cons rfl (Forget.cons rfl (Forget.cons rfl (Forget.cons rfl (Forget.nil _)))), ⟨0 + 1, _, by omega, hs2, mm, gb, fun k hkj => ?_, rfl⟩, ?_⟩
    · obtain rfl : k = 0 := by omega
      rw [banOk, hbj, he, hf, hea, heb, hg]
      rfl
    · show (g.bs.length - IntKind.i64.wrap (((0 : Nat) : Int) + 1)).toNat < (g.bs.length - ((0 : Nat) : Int)).toNat
      rw [hs2]
      omega
  conv => whnf
  simp at hp
  obtain ⟨j, rfl⟩ : ∃ j', j = j' + 1 := ⟨j - 1, by omega⟩
  have hj1 : j < g.bs.length := by omega
  have hbp : banAt g (j + 1 - 1) = g.bs[j] := by
    show banAt g j = _
    rw [banAt, List.getD_eq_getElem?_getD, List.getElem?_eq_getElem hj1]
    rfl
  refine ⟨_, Cell.mk gb rfl, ?_⟩
  conv => whnf
  obtain ⟨i', c', e1', k1', _⟩ := sls_get pC_len (SlIs.old ok.b mm (fun _ _ k => k)) rfl hj1
  refine ⟨i', c', j, e1', by rw [wrap_i64 (by omega) (by omega)]; omega, hj1, ?_⟩
  conv => whnf
  refine ⟨_, k1', ?_⟩
  conv => whnf
  refine ⟨pC g.bs[j + 1], Cells.mk gx (Nat.le_of_ble_eq_true rfl) rfl, ?_⟩
  conv => whnf
  refine (order45 _ g.bs[j] g.bs[j + 1]).mono ?_
  rintro _ h4 ⟨rfl, m4⟩
  have gb := m4.get gb (.inl (fun k => k))
  have mm := mod_none mm m4
  conv => whnf
  refine br_mk (fun hq => ?_) (fun hq => ?_)
  · conv => whnf
    simp at hq
    have hno : banOk g (j + 1) = false := by
      rw [banOk, hbj, hbp, decide_eq_false (show ¬ ordI g.bs[j] g.bs[j + 1] < 0 by omega)]
      have : (j + 1 == 0) = false := by simp
      rw [this, Bool.or_false, Bool.and_false, Bool.and_false, Bool.and_false]
    exact ⟨by rw [no3 (range_no hd hno)], mm⟩
  conv => whnf
  simp at hq
  refine ⟨_, Forget.cons rfl (Forget.cons rfl (Forget.cons rfl (Forget.cons rfl (Forget.nil _)))), ⟨j + 1 + 1, _, by omega, hs2, mm, gb, fun k hkj => ?_, rfl⟩, ?_⟩
  · rcases Nat.lt_or_ge k (j + 1) with q | q
    · exact hall k q
    · obtain rfl : k = j + 1 := by omega
      rw [banOk, hbj, hbp, he, hf, hea, heb, hg, decide_eq_true (show ordI g.bs[j] g.bs[j + 1] < 0 by omega), Bool.or_true]
      rfl
  · show (g.bs.length - IntKind.i64.wrap (((j + 1 : Nat) : Int) + 1)).toNat < (g.bs.length - ((j + 1 : Nat) : Int)).toNat
    rw [hs2]
    omega
end Go.Proofs.Ytjjcalkeodfokaa
