/- MC: several texts in one. -/
import Derived.Test.YteapijoibimfnaaGreatH5
import Derived.Test.YteapijoibimfnaaGreatP1
set_option linter.unusedVariables false
set_option linter.unusedSimpArgs false
/-! The graph: its numbers, its edges, its nodes. -/
namespace Go.Proofs.YteapijoibimfnaaGreat
open Go Go.Ab
theorem grEdges {h : H} {B x : Nat} {g : Gra} (s : GrS h B x g) : ACalls Tryz.prog 19 [.ptr (some (x, 0))] h (fun r h' => h' = h ∧ r = i64 g.es.length) := by
  obtain ⟨o, qn, qe, qb, ro, ri, fo, fi, yo, yi, e, -⟩ := s.is
  refine call_ Tryz.func19 rfl rfl (by kernel_rfl) ?_
  conv => whnf
  refine ⟨_, Cell.mk e rfl, ?_⟩
  conv => whnf
  exact ⟨rfl, rfl⟩
theorem grNodes {h : H} {B x : Nat} {g : Gra} (s : GrS h B x g) : ACalls Tryz.prog 57 [.ptr (some (x, 0))] h (fun r h' => h' = h ∧ r = i64 g.ns.length) := by
  obtain ⟨o, qn, qe, qb, ro, ri, fo, fi, yo, yi, e, -⟩ := s.is
  refine call_ Tryz.func57 rfl rfl (by kernel_rfl) ?_
  conv => whnf
  refine ⟨_, Cell.mk e rfl, ?_⟩
  conv => whnf
  exact ⟨rfl, rfl⟩
def edIn (g : Gra) (i : Int) : Bool := decide (0 ≤ i) && decide (i < g.es.length)
def edV (g : Gra) (i : Int) : Int × Int × Int := if edIn g i = true then g.es.getD i.toNat (0, 0, 0) else (0, 0, 0)
def ndIn (g : Gra) (i : Int) : Bool := decide (0 ≤ i) && decide (i < g.ns.length)
def ndV (g : Gra) (i : Int) : Int × Int := if ndIn g i = true then g.ns.getD i.toNat (0, 0) else (0, 0)
theorem edIn_lo {g : Gra} {i : Int} (h : i < 0) : edIn g i = false := by rw [edIn, decide_eq_false (by omega), Bool.false_and]
theorem edIn_hi {g : Gra} {i : Int} (h : ¬ i < g.es.length) : edIn g i = false := by rw [edIn, decide_eq_false h, Bool.and_false]
theorem edIn_ok {g : Gra} {i : Int} (h0 : 0 ≤ i) (h : i < g.es.length) : edIn g i = true := by rw [edIn, decide_eq_true h0, decide_eq_true h]; rfl
theorem ndIn_lo {g : Gra} {i : Int} (h : i < 0) : ndIn g i = false := by rw [ndIn, decide_eq_false (by omega), Bool.false_and]
theorem ndIn_hi {g : Gra} {i : Int} (h : ¬ i < g.ns.length) : ndIn g i = false := by rw [ndIn, decide_eq_false h, Bool.and_false]
theorem ndIn_ok {g : Gra} {i : Int} (h0 : 0 ≤ i) (h : i < g.ns.length) : ndIn g i = true := by rw [ndIn, decide_eq_true h0, decide_eq_true h]; rfl
theorem edV_no {g : Gra} {i : Int} (h : edIn g i = false) : edV g i = (0, 0, 0) := by rw [edV, if_neg (by rw [h]; decide)]
theorem ndV_no {g : Gra} {i : Int} (h : ndIn g i = false) : ndV g i = (0, 0) := by rw [ndV, if_neg (by rw [h]; decide)]
theorem edV_ok {g : Gra} {i : Int} (h0 : 0 ≤ i) (h : i.toNat < g.es.length) : edV g i = g.es[i.toNat] := by
  rw [edV, if_pos (edIn_ok h0 (by omega)), es_get g h]
theorem ndV_ok {g : Gra} {i : Int} (h0 : 0 ≤ i) (h : i.toNat < g.ns.length) : ndV g i = g.ns[i.toNat] := by
  rw [ndV, if_pos (ndIn_ok h0 (by omega)), List.getD_eq_getElem?_getD, List.getElem?_eq_getElem h]
  rfl
theorem grEdge {h : H} {B x : Nat} {g : Gra} (s : GrS h B x g) (hB : B ≤ h.next) (i : Int) : ACalls Tryz.prog 37 [.ptr (some (x, 0)), i64 i] h (fun r h' => r = .tup [.agg (eC (edV g i)), .bool (edIn g i)] ∧ Ab.Mod none_ h h') := by
  refine call_ Tryz.func37 rfl rfl (by kernel_rfl) ?_
  conv => whnf
  obtain ⟨g0, -, -⟩ := lay_row (h := h) (sz := 3) [i64 0, i64 0, i64 0] [i64 0, i64 0, i64 0]
  refine br_mk (fun ha => ?_) (fun ha => ?_)
  · conv => whnf
    have ha : i < 0 := by simpa using ha
    have hi := edIn_lo (g := g) ha
    obtain ⟨-, gx, mx⟩ := lay_row (h := h) (sz := 3) [i64 0, i64 0, i64 0] [i64 0, i64 0, i64 0]
    refine ⟨_, _, g0, Nat.le_of_ble_eq_true rfl, ?_⟩
    conv => whnf
    refine ⟨_, Cells.mk gx (Nat.le_of_ble_eq_true rfl) rfl, ?_⟩
    conv => whnf
    exact ⟨by rw [edV_no hi, hi]; rfl, mx⟩
  · conv => whnf
    have ha : ¬ i < 0 := by simpa using ha
    have m1 := Mod.push none_ h (.row true 3 [i64 0, i64 0, i64 0])
    have s1 := s.get m1 (fun _ _ k => k)
    refine (grEdges s1).mono ?_
    rintro _ h2 ⟨eh, rfl⟩
    subst eh
    conv => whnf
    refine br_mk (fun hb => ?_) (fun hb => ?_)
    · conv => whnf
      have hb : (g.es.length : Int) ≤ i := by simpa using hb
      have hi := edIn_hi (g := g) (i := i) (by omega)
      obtain ⟨-, gx, mx⟩ := lay_row (h := h) (sz := 3) [i64 0, i64 0, i64 0] [i64 0, i64 0, i64 0]
      refine ⟨_, _, g0, Nat.le_of_ble_eq_true rfl, ?_⟩
      conv => whnf
      refine ⟨_, Cells.mk gx (Nat.le_of_ble_eq_true rfl) rfl, ?_⟩
      conv => whnf
      exact ⟨by rw [edV_no hi, hi]; rfl, mx⟩
    · conv => whnf
      have hb : ¬ (g.es.length : Int) ≤ i := by simpa using hb
      have hj : i.toNat < g.es.length := by omega
      have hi := edIn_ok (g := g) (i := i) (by omega) (by omega)
      have hv := edV_ok (g := g) (i := i) (by omega) hj
      obtain ⟨o, qn, qe, qb, ro, ri, fo, fi, yo, yi, e, sn, se, -⟩ := s1.is
      refine ⟨_, Cell.mk e rfl, ?_⟩
      conv => whnf
      obtain ⟨i1, c, e1, k1, k2⟩ := sls_get eC_len se.1 rfl hj
      refine ⟨i1, c, i.toNat, e1, by omega, hj, ?_⟩
      conv => whnf
      refine ⟨_, k1, ?_⟩
      conv => whnf
      obtain ⟨-, gx, mx⟩ := lay_row (h := h) (sz := 3) [i64 0, i64 0, i64 0] (eC g.es[i.toNat])
      refine ⟨_, _, g0, Nat.le_of_ble_eq_true rfl, ?_⟩
      conv => whnf
      refine ⟨_, Cells.mk gx (Nat.le_of_ble_eq_true rfl) rfl, ?_⟩
      conv => whnf
      exact ⟨by rw [hv, hi]; rfl, mx⟩
theorem grNode {h : H} {B x : Nat} {g : Gra} (s : GrS h B x g) (hB : B ≤ h.next) (i : Int) : ACalls Tryz.prog 40 [.ptr (some (x, 0)), i64 i] h (fun r h' => r = .tup [.agg (pC (ndV g i)), .bool (ndIn g i)] ∧ Ab.Mod none_ h h') := by
  refine call_ Tryz.func40 rfl rfl (by kernel_rfl) ?_
  conv => whnf
  obtain ⟨g0, -, -⟩ := lay_row (h := h) (sz := 2) [i64 0, i64 0] [i64 0, i64 0]
  refine br_mk (fun ha => ?_) (fun ha => ?_)
  · conv => whnf
    have ha : i < 0 := by simpa using ha
    have hi := ndIn_lo (g := g) ha
    obtain ⟨-, gx, mx⟩ := lay_row (h := h) (sz := 2) [i64 0, i64 0] [i64 0, i64 0]
    refine ⟨_, _, g0, Nat.le_of_ble_eq_true rfl, ?_⟩
    conv => whnf
    refine ⟨_, Cells.mk gx (Nat.le_of_ble_eq_true rfl) rfl, ?_⟩
    conv => whnf
    exact ⟨by rw [ndV_no hi, hi]; rfl, mx⟩
  · conv => whnf
    have ha : ¬ i < 0 := by simpa using ha
    have m1 := Mod.push none_ h (.row true 2 [i64 0, i64 0])
    have s1 := s.get m1 (fun _ _ k => k)
    refine (grNodes s1).mono ?_
    rintro _ h2 ⟨eh, rfl⟩
    subst eh
    conv => whnf
    refine br_mk (fun hb => ?_) (fun hb => ?_)
    · conv => whnf
      have hb : (g.ns.length : Int) ≤ i := by simpa using hb
      have hi := ndIn_hi (g := g) (i := i) (by omega)
      obtain ⟨-, gx, mx⟩ := lay_row (h := h) (sz := 2) [i64 0, i64 0] [i64 0, i64 0]
      refine ⟨_, _, g0, Nat.le_of_ble_eq_true rfl, ?_⟩
      conv => whnf
      refine ⟨_, Cells.mk gx (Nat.le_of_ble_eq_true rfl) rfl, ?_⟩
      conv => whnf
      exact ⟨by rw [ndV_no hi, hi]; rfl, mx⟩
    · conv => whnf
      have hb : ¬ (g.ns.length : Int) ≤ i := by simpa using hb
      have hj : i.toNat < g.ns.length := by omega
      have hi := ndIn_ok (g := g) (i := i) (by omega) (by omega)
      have hv := ndV_ok (g := g) (i := i) (by omega) hj
      obtain ⟨o, qn, qe, qb, ro, ri, fo, fi, yo, yi, e, sn, se, -⟩ := s1.is
      refine ⟨_, Cell.mk e rfl, ?_⟩
      conv => whnf
      obtain ⟨i1, c, e1, k1, k2⟩ := sls_get pC_len sn.1 rfl hj
      refine ⟨i1, c, i.toNat, e1, by omega, hj, ?_⟩
      conv => whnf
      refine ⟨_, k1, ?_⟩
      conv => whnf
      obtain ⟨-, gx, mx⟩ := lay_row (h := h) (sz := 2) [i64 0, i64 0] (pC g.ns[i.toNat])
      refine ⟨_, _, g0, Nat.le_of_ble_eq_true rfl, ?_⟩
      conv => whnf
      refine ⟨_, Cells.mk gx (Nat.le_of_ble_eq_true rfl) rfl, ?_⟩
      conv => whnf
      exact ⟨by rw [hv, hi]; rfl, mx⟩

def outL (g : Gra) (v : Int) : List Int := if ndIn g v = true then (rowOf (frK g) v.toNat g.es.length).map Int.ofNat else []
def inL (g : Gra) (v : Int) : List Int := if ndIn g v = true then (rowOf (toK g) v.toNat g.es.length).map Int.ofNat else []
theorem outL_len (g : Gra) (v : Int) : (outL g v).length ≤ g.es.length := by
  unfold outL
  split
  · rw [List.length_map]
    exact rowOf_len _ _ _
  · exact Nat.zero_le _
theorem inL_len (g : Gra) (v : Int) : (inL g v).length ≤ g.es.length := by
  unfold inL
  split
  · rw [List.length_map]
    exact rowOf_len _ _ _
  · exact Nat.zero_le _
theorem grOut {h : H} {B x : Nat} {g : Gra} (s : GrS h B x g) (v : Int) : ACalls Tryz.prog 38 [.ptr (some (x, 0)), i64 v] h (fun r h' => ∃ q, r = .sl q (outL g v).length ∧ NewSl h h' q (outL g v).length 1 (ints .i64 (outL g v)) ∧ Ab.Mod none_ h h') := by
  refine call_ Tryz.func38 rfl rfl (by kernel_rfl) ?_
  conv => whnf
  refine br_mk (fun ha => ?_) (fun ha => ?_)
  · conv => whnf
    have ha : v < 0 := by simpa using ha
    have hi := ndIn_lo (g := g) ha
    rw [outL, if_neg (by rw [hi]; decide)]
    exact ⟨none, rfl, ⟨SlIs.nil _ _ _, (fun _ _ e => by cases e)⟩, Mod.refl _ _⟩
  · conv => whnf
    have ha : ¬ v < 0 := by simpa using ha
    refine (grNodes s).mono ?_
    rintro _ h2 ⟨eh, rfl⟩
    subst eh
    conv => whnf
    refine br_mk (fun hb => ?_) (fun hb => ?_)
    · conv => whnf
      have hb : (g.ns.length : Int) ≤ v := by simpa using hb
      have hi := ndIn_hi (g := g) (i := v) (by omega)
      rw [outL, if_neg (by rw [hi]; decide)]
      exact ⟨none, rfl, ⟨SlIs.nil _ _ _, (fun _ _ e => by cases e)⟩, Mod.refl _ _⟩
    · conv => whnf
      have hb : ¬ (g.ns.length : Int) ≤ v := by simpa using hb
      have hi := ndIn_ok (g := g) (i := v) (by omega) (by omega)
      obtain ⟨k, rfl⟩ := Int.eq_ofNat_of_zero_le (show 0 ≤ v by omega)
      have hz := mayG_size s.ok
      obtain ⟨o, qn, qe, qb, ro, ri, fo, fi, yo, yi, e, sn, se, sb, so, si, to, ti, yo_, yi_⟩ := s.is
      refine ⟨[0, 1, 2, 3, 4, 5, 6, 7, 8, 9, 10, 11, 12, 13, 14, 15, 16, 17, 18, 19, 20, 21], [0, 1, 3, 7, 0, 16, 48, 112, 0, 496, 1008, 0, 2048, 6144, 14336, 0, 32768, 129024, 260096, 524287, 1048575, 2097151], by kernel_rfl, ?_⟩
      conv => whnf
      refine ⟨_, Cell.mk e rfl, ?_⟩
      conv => whnf
      refine ⟨_, Cell.mk e rfl, ?_⟩
      conv => whnf
      obtain ⟨i1, c1, e1, k1⟩ := slo_get to.1 (j := k) (by omega)
      refine ⟨i1, c1, k, e1, rfl, by omega, ?_⟩
      conv => whnf
      refine ⟨_, k1, ?_⟩
      conv => whnf
      refine ⟨_, Cell.mk e rfl, ?_⟩
      conv => whnf
      obtain ⟨i2, c2, e2, k2⟩ := slo_get to.1 (j := k + 1) (by omega)
      have hw : IntKind.i64.wrap ((k : Int) + 1) = ((k + 1 : Nat) : Int) := by
        rw [wrap_i64 (by omega) (by omega)]
        omega
      refine ⟨i2, c2, k + 1, e2, hw, by omega, ?_⟩
      conv => whnf
      refine ⟨_, k2, ?_⟩
      conv => whnf
      have hle := cn_le (keyB (frK g) (k + 1)) g.es.length
      have hmo := below_mono (frK g) (show k ≤ k + 1 by omega) g.es.length
      rw [tab_get (show k < g.ns.length + 1 by omega), tab_get (show k + 1 < g.ns.length + 1 by omega)]
      refine ⟨⟨_, so.1⟩, ?_⟩
      conv => whnf
      refine ⟨cn (keyB (frK g) k) g.es.length, rfl, cn (keyB (frK g) (k + 1)) g.es.length, rfl, hmo, by omega, ?_⟩
      conv => whnf
      have hc := slo_cut so.1 hmo (show cn (keyB (frK g) (k + 1)) g.es.length ≤ g.es.length by omega)
      rw [yo_.cut k] at hc
      have hL : outL g (k : Int) = (rowOf (frK g) k g.es.length).map Int.ofNat := by
        rw [outL, if_pos hi]
        rfl
      have hl := slo_len hc
      rw [← hL] at hc hl
      rw [hl] at hc ⊢
      have hb2 := outL_len g k
      rw [← Nat.mul_one (cn _ _)] at hc
      refine (clone46 hc (by omega)).mono ?_
      rintro _ h3 ⟨q, rfl, w, m⟩
      conv => whnf
      exact ⟨q, rfl, w, m⟩
theorem grIn {h : H} {B x : Nat} {g : Gra} (s : GrS h B x g) (v : Int) : ACalls Tryz.prog 84 [.ptr (some (x, 0)), i64 v] h (fun r h' => ∃ q, r = .sl q (inL g v).length ∧ NewSl h h' q (inL g v).length 1 (ints .i64 (inL g v)) ∧ Ab.Mod none_ h h') := by
  refine call_ Tryz.func84 rfl rfl (by kernel_rfl) ?_
  conv => whnf
  refine br_mk (fun ha => ?_) (fun ha => ?_)
  · conv => whnf
    have ha : v < 0 := by simpa using ha
    have hi := ndIn_lo (g := g) ha
    rw [inL, if_neg (by rw [hi]; decide)]
    exact ⟨none, rfl, ⟨SlIs.nil _ _ _, (fun _ _ e => by cases e)⟩, Mod.refl _ _⟩
  · conv => whnf
    have ha : ¬ v < 0 := by simpa using ha
    refine (grNodes s).mono ?_
    rintro _ h2 ⟨eh, rfl⟩
    subst eh
    conv => whnf
    refine br_mk (fun hb => ?_) (fun hb => ?_)
    · conv => whnf
      have hb : (g.ns.length : Int) ≤ v := by simpa using hb
      have hi := ndIn_hi (g := g) (i := v) (by omega)
      rw [inL, if_neg (by rw [hi]; decide)]
      exact ⟨none, rfl, ⟨SlIs.nil _ _ _, (fun _ _ e => by cases e)⟩, Mod.refl _ _⟩
    · conv => whnf
      have hb : ¬ (g.ns.length : Int) ≤ v := by simpa using hb
      have hi := ndIn_ok (g := g) (i := v) (by omega) (by omega)
      obtain ⟨k, rfl⟩ := Int.eq_ofNat_of_zero_le (show 0 ≤ v by omega)
      have hz := mayG_size s.ok
      obtain ⟨o, qn, qe, qb, ro, ri, fo, fi, yo, yi, e, sn, se, sb, so, si, to, ti, yo_, yi_⟩ := s.is
      refine ⟨[0, 1, 2, 3, 4, 5, 6, 7, 8, 9, 10, 11, 12, 13, 14, 15, 16, 17, 18, 19, 20, 21], [0, 1, 3, 7, 0, 16, 48, 112, 0, 496, 1008, 0, 2048, 6144, 14336, 0, 32768, 129024, 260096, 524287, 1048575, 2097151], by kernel_rfl, ?_⟩
      conv => whnf
      refine ⟨_, Cell.mk e rfl, ?_⟩
      conv => whnf
      refine ⟨_, Cell.mk e rfl, ?_⟩
      conv => whnf
      obtain ⟨i1, c1, e1, k1⟩ := slo_get ti.1 (j := k) (by omega)
      refine ⟨i1, c1, k, e1, rfl, by omega, ?_⟩
      conv => whnf
      refine ⟨_, k1, ?_⟩
      conv => whnf
      refine ⟨_, Cell.mk e rfl, ?_⟩
      conv => whnf
      obtain ⟨i2, c2, e2, k2⟩ := slo_get ti.1 (j := k + 1) (by omega)
      have hw : IntKind.i64.wrap ((k : Int) + 1) = ((k + 1 : Nat) : Int) := by
        rw [wrap_i64 (by omega) (by omega)]
        omega
      refine ⟨i2, c2, k + 1, e2, hw, by omega, ?_⟩
      conv => whnf
      refine ⟨_, k2, ?_⟩
      conv => whnf
      have hle := cn_le (keyB (toK g) (k + 1)) g.es.length
      have hmo := below_mono (toK g) (show k ≤ k + 1 by omega) g.es.length
      rw [tab_get (show k < g.ns.length + 1 by omega), tab_get (show k + 1 < g.ns.length + 1 by omega)]
      refine ⟨⟨_, si.1⟩, ?_⟩
      conv => whnf
      refine ⟨cn (keyB (toK g) k) g.es.length, rfl, cn (keyB (toK g) (k + 1)) g.es.length, rfl, hmo, by omega, ?_⟩
      conv => whnf
      have hc := slo_cut si.1 hmo (show cn (keyB (toK g) (k + 1)) g.es.length ≤ g.es.length by omega)
      rw [yi_.cut k] at hc
      have hL : inL g (k : Int) = (rowOf (toK g) k g.es.length).map Int.ofNat := by
        rw [inL, if_pos hi]
        rfl
      have hl := slo_len hc
      rw [← hL] at hc hl
      rw [hl] at hc ⊢
      have hb2 := inL_len g k
      rw [← Nat.mul_one (cn _ _)] at hc
      refine (clone46 hc (by omega)).mono ?_
      rintro _ h3 ⟨q, rfl, w, m⟩
      conv => whnf
      exact ⟨q, rfl, w, m⟩
end Go.Proofs.YteapijoibimfnaaGreat
/-! The graph: turns that may not be. -/
namespace Go.Proofs.YteapijoibimfnaaGreat
open Go Go.Ab
theorem ordI_zero {p q : Int × Int} : ordI p q = 0 ↔ p = q := by
  obtain ⟨a, b⟩ := p
  obtain ⟨c, d⟩ := q
  unfold ordI orI cmpI
  simp only [Prod.mk.injEq]
  repeat' split
  all_goals omega
theorem ordI_trans {p q r : Int × Int} (h1 : ordI p q < 0) (h2 : ordI q r < 0) : ordI p r < 0 := by
  rw [ordI_neg] at h1 h2 ⊢
  omega
def banN (bs : List (Int × Int)) (k : Nat) : Int × Int := bs.getD k (0, 0)
theorem banN_get {bs : List (Int × Int)} {k : Nat} (h : k < bs.length) : banN bs k = bs[k] := by rw [banN, List.getD_eq_getElem?_getD, List.getElem?_eq_getElem h]; rfl
theorem wrap_u64 {x : Int} (h1 : 0 ≤ x) (h2 : x ≤ 9223372036854775807) : IntKind.u64.wrap x = x := by
  simp only [IntKind.wrap, IntKind.bits, IntKind.signed]
  exact Int.emod_eq_of_lt h1 (by omega)
/-- bans stand rising -/
def BanAsc (bs : List (Int × Int)) : Prop := ∀ j k, j < k → k < bs.length → ordI (banN bs j) (banN bs k) < 0
theorem banAsc_of {g : Gra} (h : mayG g = true) : BanAsc g.bs := by
  have st : ∀ k, 0 < k → k < g.bs.length → ordI (banN g.bs (k - 1)) (banN g.bs k) < 0 := fun k h0 hk => by
    simp only [mayG, Bool.and_eq_true, List.all_eq_true, List.mem_range] at h
    have := h.2.2.2 k hk
    simp only [banOk, Bool.and_eq_true, Bool.or_eq_true, beq_iff_eq, decide_eq_true_eq] at this
    rcases this.2.2.2 with q | q
    · omega
    · exact q
  intro j k hj hk
  induction k with
  | zero => omega
  | succ k ih =>
    have s := st (k + 1) (by omega) hk
    by_cases q : j = k
    · subst q
      exact s
    · exact ordI_trans (ih (by omega) (by omega)) s
structure BsI (bs : List (Int × Int)) (t : Int × Int) (lo hi : Nat) : Prop where
  le : lo ≤ hi
  len : hi ≤ bs.length
  below : ∀ k, k < lo → ordI (banN bs k) t < 0
  above : ∀ k, hi ≤ k → k < bs.length → ¬ ordI (banN bs k) t < 0
theorem BsI.up {bs : List (Int × Int)} {t : Int × Int} {lo hi m : Nat} (o : BsI bs t lo hi) (a : BanAsc bs) (h1 : m < hi) (h : ordI (banN bs m) t < 0) : BsI bs t (m + 1) hi :=
  ⟨h1, o.len, fun k hk => by
    by_cases q : k = m
    · rw [q]
      exact h
    · exact ordI_trans (a k m (by omega) (by have := o.len; omega)) h, o.above⟩
theorem BsI.down {bs : List (Int × Int)} {t : Int × Int} {lo hi m : Nat} (o : BsI bs t lo hi) (a : BanAsc bs) (h0 : lo ≤ m) (h1 : m < hi) (h : ¬ ordI (banN bs m) t < 0) : BsI bs t lo m :=
  ⟨h0, by have := o.len; omega, o.below, fun k hk hl h2 => by
    by_cases q : k = m
    · rw [q] at h2
      exact h h2
    · exact h (ordI_trans (a m k (by omega) hl) h2)⟩
theorem BsI.found {bs : List (Int × Int)} {t : Int × Int} {i : Nat} (o : BsI bs t i i) (a : BanAsc bs) : (i < bs.length ∧ ordI (banN bs i) t = 0) ↔ t ∈ bs := by
  constructor
  · rintro ⟨h1, h2⟩
    rw [ordI_zero, banN_get h1] at h2
    rw [← h2]
    exact List.getElem_mem h1
  · intro h
    obtain ⟨k, hk, e⟩ := List.getElem_of_mem h
    have e1 : banN bs k = t := by rw [banN_get hk, e]
    have hki : i ≤ k := by
      refine Nat.le_of_not_lt fun q => ?_
      have := o.below k q
      rw [ordI_zero.2 e1] at this
      omega
    have : k = i := by
      refine Nat.le_antisymm (Nat.le_of_not_lt fun q => ?_) hki
      have h1 := a i k q hk
      rw [e1] at h1
      exact o.above i (Nat.le_refl _) (by omega) h1
    subst this
    exact ⟨hk, ordI_zero.2 e1⟩
set_option maxHeartbeats 1000000 in
theorem search58 {h : H} {q : Option (Nat × Nat)} {bs : List (Int × Int)} (o : SlIs h q bs.length false 2 (bs.flatMap pC)) (hl : bs.length ≤ 100000) (a : BanAsc bs) (t : Int × Int) :
    ACalls Tryz.prog 58 [.sl q bs.length, .agg (pC t), .fn 56] h (fun r h' => (∃ i : Nat, r = .tup [i64 i, .bool (decide (t ∈ bs))]) ∧ Ab.Mod none_ h h') := by
  refine call_ Tryz.func58 rfl rfl (by kernel_rfl) ?_
  conv => whnf
  have m1 := Mod.push none_ h (.row true 2 (pC t))
  have g1 : (h.push (.row true 2 (pC t))).obj h.next = some (.row true 2 (pC t)) := H.obj_push_new _ _
  refine ⟨fun env hh => ∃ (lo hi : Nat) (zl zh : Int), BsI bs t lo hi ∧ zl = lo ∧ zh = hi ∧ hh.obj h.next = some (.row true 2 (pC t)) ∧ Ab.Mod none_ h hh ∧ env = [(10, i64 zh), (9, i64 zl), (8, i64 bs.length), (4, .ptr (some (h.next, 0))), (2, .fn 56), (0, .sl q bs.length)],
    fun env _ => match get env 10, get env 9 with
      | .int _ z, .int _ y => (z - y).toNat
      | _, _ => 0, ⟨_, Forget.cons rfl (Forget.cons rfl (Forget.cons rfl (Forget.cons rfl (Forget.cons rfl (Forget.cons rfl (Forget.nil _)))))), 0, bs.length, 0, _, ⟨Nat.zero_le _, Nat.le_refl _, fun k hk => absurd hk (Nat.not_lt_zero k), fun k h1 h2 => absurd h2 (by omega)⟩, rfl, rfl, g1, m1, rfl⟩, ?_⟩
  rintro _ h1 ⟨lo, hi, zl, zh, I, rfl, rfl, gt, mm, rfl⟩
  clear g1 m1
  conv => whnf
  have i1 := I.le
  have i2 := I.len
  refine br_mk (fun hd => ?_) (fun hd => ?_)
  · conv => whnf
    simp at hd
    have e1 : IntKind.i64.wrap ((lo : Int) + (hi : Int)) = ((lo + hi : Nat) : Int) := by
      rw [wrap_i64 (by omega) (by omega)]
      omega
    have e2 : IntKind.u64.wrap ((lo + hi : Nat) : Int) = ((lo + hi : Nat) : Int) := wrap_u64 (by omega) (by omega)
    rw [e1, e2]
    refine ⟨by decide, ?_⟩
    conv => whnf
    refine ⟨[0, 1, 2, 3, 4, 5, 6, 7], [0, 0, 0, 6, 14, 0, 63, 127], by kernel_rfl, ?_⟩
    conv => whnf
    have hm : (lo + hi) / 2 < bs.length := by omega
    have m64 : IntKind.i64.wrap (((lo + hi : Nat) : Int).fdiv (2 ^ (min (1 : Int).toNat IntKind.u64.bits))) = (((lo + hi) / 2 : Nat) : Int) := by
      rw [show (2 : Int) ^ (min (1 : Int).toNat IntKind.u64.bits) = 2 from rfl, Int.fdiv_eq_ediv_of_nonneg _ (by decide)]
      have : ((lo + hi : Nat) : Int) / 2 = (((lo + hi) / 2 : Nat) : Int) := by omega
      rw [this]
      exact wrap_i64 (by omega) (by omega)
    obtain ⟨i1, c1, k0, k1, k2⟩ := sls_get pC_len (SlIs.old o mm (fun _ _ k => k)) rfl hm
    refine ⟨i1, c1, (lo + hi) / 2, k0, m64, hm, ?_⟩
    conv => whnf
    refine ⟨_, k1, ?_⟩
    conv => whnf
    refine ⟨_, Cells.mk gt (Nat.le_of_ble_eq_true rfl) rfl, ?_⟩
    conv => whnf
    refine (order45 h1 bs[(lo + hi) / 2] t).mono ?_
    rintro _ h2 ⟨rfl, m2⟩
    rw [← banN_get hm]
    conv => whnf
    refine br_mk (fun hb => ?_) (fun hb => ?_)
    · conv => whnf
      have hb : ordI (banN bs ((lo + hi) / 2)) t < 0 := by simpa using hb
      have hz : IntKind.i64.wrap (IntKind.i64.wrap (((lo + hi : Nat) : Int).fdiv (2 ^ (min (1 : Int).toNat IntKind.u64.bits))) + 1) = (((lo + hi) / 2 + 1 : Nat) : Int) := by
        rw [m64, wrap_i64 (by omega) (by omega)]
        omega
      refine ⟨_, Forget.cons rfl (Forget.cons rfl (Forget.cons rfl (Forget.cons rfl (Forget.cons rfl (Forget.cons rfl (Forget.nil _)))))), ⟨(lo + hi) / 2 + 1, hi, _, _, I.up a (by omega) hb, hz, rfl, m2.get gt (.inl (fun k => k)), mod_none mm m2, rfl⟩, ?_⟩
      show ((hi : Int) - IntKind.i64.wrap (IntKind.i64.wrap (((lo + hi : Nat) : Int).fdiv (2 ^ (min (1 : Int).toNat IntKind.u64.bits))) + 1)).toNat < ((hi : Int) - (lo : Int)).toNat
      rw [hz]
      omega
    · conv => whnf
      have hb : ¬ ordI (banN bs ((lo + hi) / 2)) t < 0 := by simpa using hb
      refine ⟨_, Forget.cons rfl (Forget.cons rfl (Forget.cons rfl (Forget.cons rfl (Forget.cons rfl (Forget.cons rfl (Forget.nil _)))))), ⟨lo, (lo + hi) / 2, _, _, I.down a (by omega) (by omega) hb, rfl, m64, m2.get gt (.inl (fun k => k)), mod_none mm m2, rfl⟩, ?_⟩
      show (IntKind.i64.wrap (((lo + hi : Nat) : Int).fdiv (2 ^ (min (1 : Int).toNat IntKind.u64.bits))) - (lo : Int)).toNat < ((hi : Int) - (lo : Int)).toNat
      rw [m64]
      omega
  · conv => whnf
    simp at hd
    obtain rfl : hi = lo := by omega
    refine ⟨[0, 1, 2, 3, 4, 5, 6, 7, 8, 9, 10, 11, 12, 13, 14, 15], [0, 0, 0, 6, 14, 30, 30, 30, 222, 478, 30, 2046, 4094, 8190, 4095, 32767], by kernel_rfl, ?_⟩
    conv => whnf
    refine br_mk (fun hb => ?_) (fun hb => ?_)
    · conv => whnf
      have hb : hi < bs.length := by simpa using hb
      obtain ⟨i1, c1, k0, k1, k2⟩ := sls_get pC_len (SlIs.old o mm (fun _ _ k => k)) rfl hb
      refine ⟨i1, c1, hi, k0, rfl, hb, ?_⟩
      conv => whnf
      refine ⟨_, k1, ?_⟩
      conv => whnf
      refine ⟨_, Cells.mk gt (Nat.le_of_ble_eq_true rfl) rfl, ?_⟩
      conv => whnf
      refine (order45 h1 bs[hi] t).mono ?_
      rintro _ h2 ⟨rfl, m2⟩
      conv => whnf
      have hf := I.found a
      rw [← banN_get hb]
      refine ⟨⟨hi, ?_⟩, mod_none mm m2⟩
      have : decide (ordI (banN bs hi) t = 0) = decide (t ∈ bs) := decide_eq_decide.2 ⟨fun k => hf.1 ⟨hb, k⟩, fun k => (hf.2 k).2⟩
      rw [← this]
      rfl
    · conv => whnf
      have hb : ¬ hi < bs.length := by simpa using hb
      have hf := I.found a
      refine ⟨⟨hi, ?_⟩, mm⟩
      rw [decide_eq_false (fun k => hb (hf.2 k).1)]
theorem grBanned {h : H} {B x : Nat} {g : Gra} (s : GrS h B x g) (a b : Int) : ACalls Tryz.prog 39 [.ptr (some (x, 0)), i64 a, i64 b] h (fun r h' => r = .bool (decide ((a, b) ∈ g.bs)) ∧ Ab.Mod none_ h h') := by
  have hz := mayG_size s.ok
  obtain ⟨o, qn, qe, qb, ro, ri, fo, fi, yo, yi, e, sn, se, sb, -⟩ := s.is
  refine call_ Tryz.func39 rfl rfl (by kernel_rfl) ?_
  conv => whnf
  refine ⟨_, Cell.mk e rfl, ?_⟩
  conv => whnf
  refine (search58 sb.1 (by omega) (banAsc_of s.ok) (a, b)).mono ?_
  rintro _ h1 ⟨⟨i, rfl⟩, m⟩
  conv => whnf
  refine ⟨_, rfl, ?_⟩
  conv => whnf
  refine ⟨_, rfl, ?_⟩
  conv => whnf
  exact ⟨rfl, m⟩
end Go.Proofs.YteapijoibimfnaaGreat
/-! Turns: which edge comes behind which; rows of rows that grow. -/
namespace Go.Proofs.YteapijoibimfnaaGreat
open Go Go.Ab
def natL (l : List Nat) : List Int := l.map Int.ofNat
theorem natL_app (a b : List Nat) : natL (a ++ b) = natL a ++ natL b := List.map_append
def banQ (g : Gra) (a b : Nat) : Bool := decide (((a : Int), (b : Int)) ∈ g.bs)
def outN (g : Gra) (a : Nat) : List Nat := rowOf (frK g) (toK g a) g.es.length
def nextN (g : Gra) (a : Nat) : List Nat := (outN g a).filter fun b => !banQ g a b
def prevN (g : Gra) (b : Nat) : List Nat := (List.range g.es.length).filter fun a => decide (b ∈ nextN g a)
def nxJ (g : Gra) (a j : Nat) : List Nat := ((outN g a).take j).filter fun b => !banQ g a b
def LJ (g : Gra) (a j : Nat) (b : Bool) (k : Nat) : List Nat := match b with
  | true => if k < a then nextN g k else if k = a then nxJ g a j else []
  | false => ((List.range a).filter fun c => decide (k ∈ nextN g c)) ++ (if k ∈ nxJ g a j then [a] else [])
def up2 {α : Type} (P : Bool → Nat → α) (b0 : Bool) (k0 : Nat) (x : α) : Bool → Nat → α := fun b k => if b = b0 ∧ k = k0 then x else P b k
theorem up2_same {α : Type} (P : Bool → Nat → α) (b0 : Bool) (k0 : Nat) (x : α) : up2 P b0 k0 x b0 k0 = x := if_pos ⟨rfl, rfl⟩
theorem up2_ne {α : Type} (P : Bool → Nat → α) {b0 : Bool} {k0 : Nat} (x : α) {b : Bool} {k : Nat} (h : ¬ (b = b0 ∧ k = k0)) : up2 P b0 k0 x b k = P b k := if_neg h
theorem outN_nodup (g : Gra) (a : Nat) : (outN g a).Nodup := List.Nodup.sublist List.filter_sublist List.nodup_range
theorem take_snoc {l : List Nat} {j : Nat} (h : j < l.length) : l.take (j + 1) = l.take j ++ [l[j]] := by rw [List.take_add_one, List.getElem?_eq_getElem h]; rfl
theorem nxJ_no {g : Gra} {a j : Nat} (h : j < (outN g a).length) (hb : banQ g a (outN g a)[j] = true) : nxJ g a (j + 1) = nxJ g a j := by
  unfold nxJ
  rw [take_snoc h, List.filter_append]
  simp [hb]
theorem nxJ_yes {g : Gra} {a j : Nat} (h : j < (outN g a).length) (hb : banQ g a (outN g a)[j] = false) : nxJ g a (j + 1) = nxJ g a j ++ [(outN g a)[j]] := by
  unfold nxJ
  rw [take_snoc h, List.filter_append]
  simp [hb]
theorem nxJ_notin {g : Gra} {a j : Nat} (h : j < (outN g a).length) : (outN g a)[j] ∉ nxJ g a j := fun k => by
  have k := (List.mem_filter.1 k).1
  obtain ⟨i, hi, e⟩ := List.getElem_of_mem k
  rw [List.length_take] at hi
  rw [List.getElem_take] at e
  exact (List.pairwise_iff_getElem.1 (outN_nodup g a)) i j (by omega) h (by omega) e
theorem nxJ_all (g : Gra) (a : Nat) : nxJ g a (outN g a).length = nextN g a := by rw [nxJ, List.take_length]; rfl
theorem LJ_zero (g : Gra) (b : Bool) (k : Nat) : LJ g 0 0 b k = [] := by
  cases b
  · simp [LJ, nxJ]
  · simp [LJ, nxJ]
theorem LJ_no {g : Gra} {a j : Nat} (h : j < (outN g a).length) (hb : banQ g a (outN g a)[j] = true) : LJ g a (j + 1) = LJ g a j := by
  funext b k
  cases b <;> simp only [LJ, nxJ_no h hb]
theorem LJ_yes {g : Gra} {a j : Nat} (h : j < (outN g a).length) (hb : banQ g a (outN g a)[j] = false) :
    up2 (up2 (LJ g a j) true a (LJ g a j true a ++ [(outN g a)[j]])) false (outN g a)[j] (up2 (LJ g a j) true a (LJ g a j true a ++ [(outN g a)[j]]) false (outN g a)[j] ++ [a]) = LJ g a (j + 1) := by
  have hn := nxJ_notin h
  funext b k
  cases b with
  | true =>
    rw [up2_ne _ _ (fun q => by cases q.1)]
    by_cases q : k = a
    · subst q
      rw [up2_same]
      simp only [LJ, if_neg (Nat.lt_irrefl k), if_pos rfl, nxJ_yes h hb]
      simp
    · rw [up2_ne _ _ (fun r => q r.2)]
      simp only [LJ, if_neg q]
  | false =>
    by_cases q : k = (outN g a)[j]
    · subst q
      rw [up2_same, up2_ne _ _ (fun q => by cases q.1)]
      simp only [LJ, nxJ_yes h hb, if_neg hn]
      simp
    · rw [up2_ne _ _ (fun r => q r.2), up2_ne _ _ (fun r => by cases r.1)]
      simp only [LJ, nxJ_yes h hb, List.mem_append, List.mem_singleton]
      simp [q]
theorem LJ_all (g : Gra) (a : Nat) : LJ g a (outN g a).length = LJ g (a + 1) 0 := by
  funext b k
  cases b with
  | true =>
    simp only [LJ, nxJ_all]
    by_cases q : k < a
    · rw [if_pos q, if_pos (by omega)]
    · by_cases r : k = a
      · rw [if_neg q, if_pos r, if_pos (by omega), r]
      · rw [if_neg q, if_neg r, if_neg (by omega)]
        simp [nxJ]
  | false =>
    have h0 : nxJ g (a + 1) 0 = [] := by simp [nxJ]
    simp only [LJ, nxJ_all, List.range_succ, List.filter_append, h0]
    by_cases q : k ∈ nextN g a
    · simp [q]
    · simp [q]
theorem LJ_end (g : Gra) {k : Nat} (hk : k < g.es.length) : LJ g g.es.length 0 true k = nextN g k ∧ LJ g g.es.length 0 false k = prevN g k := by
  constructor
  · simp only [LJ, if_pos hk]
  · simp [LJ, nxJ, prevN]
theorem rowOf_len' (ks : Nat → Nat) (v E : Nat) : (rowOf ks v E).length ≤ E := rowOf_len ks v E
theorem LJ_len {g : Gra} {a j : Nat} (ha : a ≤ g.es.length) (b : Bool) (k : Nat) : (LJ g a j b k).length ≤ g.es.length + 1 := by
  cases b with
  | true =>
    simp only [LJ]
    have h1 : (nextN g k).length ≤ g.es.length := Nat.le_trans (List.length_filter_le _ _) (rowOf_len _ _ _)
    have h2 : (nxJ g a j).length ≤ g.es.length := Nat.le_trans (List.length_filter_le _ _) (by rw [List.length_take]; exact Nat.le_trans (Nat.min_le_right _ _) (rowOf_len _ _ _))
    split
    · omega
    · split
      · omega
      · exact Nat.zero_le _
  | false =>
    simp only [LJ, List.length_append]
    have h1 := List.length_filter_le (fun c => decide (k ∈ nextN g c)) (List.range a)
    rw [List.length_range] at h1
    split
    · simp only [List.length_cons, List.length_nil]
      omega
    · simp only [List.length_nil]
      omega
/-- two rows of rows that grow -/
structure TR (lo : Nat) (hh : H) (A : Bool → Nat) (E : Nat) (P : Bool → Nat → Option (Nat × Nat)) (L : Bool → Nat → List Nat) : Prop where
  arr : ∀ b, hh.obj (A b) = some (.row true 1 ((List.range E).map fun k => .sl (P b k) (L b k).length))
  row : ∀ b k, k < E → SlIs hh (P b k) (L b k).length true 1 (ints .i64 (natL (L b k)))
  new : ∀ b k i, k < E → inSl (P b k) i → lo ≤ i
  sep : ∀ b k b' k' i, k < E → k' < E → inSl (P b k) i → inSl (P b' k') i → b = b' ∧ k = k'
theorem TR.keep {lo : Nat} {hh h' : H} {A : Bool → Nat} {E : Nat} {P : Bool → Nat → Option (Nat × Nat)} {L : Bool → Nat → List Nat} (t : TR lo hh A E P L) (m : Ab.Mod none_ hh h') : TR lo h' A E P L :=
  ⟨fun b => m.get (t.arr b) (.inl (fun k => k)), fun b k hk => SlIs.old (t.row b k hk) m (fun _ _ k => k), t.new, t.sep⟩
theorem TR.cell {lo : Nat} {hh : H} {A : Bool → Nat} {E : Nat} {P : Bool → Nat → Option (Nat × Nat)} {L : Bool → Nat → List Nat} (t : TR lo hh A E P L) (b : Bool) {k : Nat} (hk : k < E) : Cell hh (A b) (0 + k * 1) (.sl (P b k) (L b k).length) :=
  Cell.mk (t.arr b) (by simp [hk])
theorem TR.app {lo : Nat} {hh h' : H} {A : Bool → Nat} {E : Nat} {P : Bool → Nat → Option (Nat × Nat)} {L : Bool → Nat → List Nat} (t : TR lo hh A E P L) (hA : ∀ b, A b < lo) (hlo : lo ≤ hh.next) (hAn : A true ≠ A false) {b0 : Bool} {k0 v : Nat} (hk : k0 < E) {p' : Option (Nat × Nat)}
    (hs : SlIs h' p' ((L b0 k0).length + 1) true 1 (ints .i64 (natL (L b0 k0 ++ [v])))) (hm : Ab.Mod (inSl (P b0 k0)) hh h') (hf : isFresh hh (P b0 k0) p') :
    ∃ _ : h'.obj (A b0) = some (.row true 1 ((List.range E).map fun k => .sl (P b0 k) (L b0 k).length)),
      TR lo (h'.set (A b0) (.row true 1 (splice ((List.range E).map fun k => .sl (P b0 k) (L b0 k).length) (0 + k0 * 1) [.sl p' ((L b0 k0).length + 1 : Nat)]))) A E (up2 P b0 k0 p') (up2 L b0 k0 (L b0 k0 ++ [v])) ∧
      (∀ i, i < hh.next → (∀ b k, k < E → ¬ inSl (P b k) i) → ∀ b k, k < E → ¬ inSl (up2 P b0 k0 p' b k) i) ∧
      Ab.Mod (fun i => i = A b0 ∨ inSl (P b0 k0) i) hh (h'.set (A b0) (.row true 1 (splice ((List.range E).map fun k => .sl (P b0 k) (L b0 k).length) (0 + k0 * 1) [.sl p' ((L b0 k0).length + 1 : Nat)]))) := by
  have ga : h'.obj (A b0) = _ := hm.get (t.arr b0) (.inl fun k => absurd (t.new b0 k0 _ hk k) (Nat.not_le_of_lt (hA b0)))
  have hp' : ∀ i, inSl p' i → inSl (P b0 k0) i ∨ hh.next ≤ i := fun i ⟨o, e⟩ => (hf i o e).imp (fun q => ⟨o, by rw [← q, e]⟩) id
  have hp2 : ∀ i, inSl p' i → lo ≤ i := fun i k => (hp' i k).elim (t.new b0 k0 i hk) (Nat.le_trans hlo)
  have ms : Ab.Mod (one (A b0)) h' (h'.set (A b0) (.row true 1 (splice ((List.range E).map fun k => .sl (P b0 k) (L b0 k).length) (0 + k0 * 1) [.sl p' ((L b0 k0).length + 1 : Nat)]))) := Mod.set (S := one (A b0)) rfl ga rfl
  refine ⟨ga, ⟨fun b => ?_, fun b k hk1 => ?_, fun b k i hk1 hi => ?_, fun b k b' k' i hk1 hk2 h1 h2 => ?_⟩, fun i hi ho b k hk1 hc => ?_, ?_⟩
  · by_cases q : b = b0
    · subst q
      rw [H.obj_set_same ga]
      congr 2
      rw [Nat.zero_add, Nat.mul_one, splice_one]
      apply List.ext_getElem?
      intro i
      rw [List.getElem?_set]
      by_cases r : k0 = i
      · subst r
        rw [if_pos rfl]
        simp [hk, up2_same]
      · rw [if_neg r]
        have hu : up2 P b k0 p' b i = P b i := up2_ne _ _ (fun e => r e.2.symm)
        have hv : up2 L b k0 (L b k0 ++ [v]) b i = L b i := up2_ne _ _ (fun e => r e.2.symm)
        by_cases hi : i < E
        · simp [hi, hu, hv]
        · simp [hi]
    · have hu : ∀ k, up2 P b0 k0 p' b k = P b k := fun k => up2_ne _ _ (fun e => q e.1)
      have hv : ∀ k, up2 L b0 k0 (L b0 k0 ++ [v]) b k = L b k := fun k => up2_ne _ _ (fun e => q e.1)
      simp only [hu, hv]
      refine ms.get (hm.get (t.arr b) (.inl fun k => absurd (t.new b0 k0 _ hk k) (Nat.not_le_of_lt (hA b)))) (.inl fun e => q ?_)
      have e : A b = A b0 := e
      cases b <;> cases b0
      · rfl
      · exact absurd e.symm hAn
      · exact absurd e hAn
      · rfl
  · by_cases q : b = b0 ∧ k = k0
    · obtain ⟨rfl, rfl⟩ := q
      rw [up2_same, up2_same, List.length_append]
      exact hs.get ms fun i o e => .inl fun r => absurd (hp2 i ⟨o, e⟩) (by
        have r : i = A b := r
        have := hA b
        omega)
    · rw [up2_ne _ _ q, up2_ne _ _ q]
      refine ((t.row b k hk1).get hm fun i o e => .inl fun r => q (t.sep b k b0 k0 i hk1 hk ⟨o, e⟩ r)).get ms fun i o e => .inl fun r => ?_
      have := t.new b k i hk1 ⟨o, e⟩
      have r : i = A b0 := r
      have := hA b0
      omega
  · by_cases q : b = b0 ∧ k = k0
    · obtain ⟨rfl, rfl⟩ := q
      rw [up2_same] at hi
      exact hp2 i hi
    · rw [up2_ne _ _ q] at hi
      exact t.new b k i hk1 hi
  · have lt : ∀ b k, k < E → inSl (P b k) i → i < hh.next := fun b k hk hi => SlIs.own_lt (t.row b k hk) hi
    by_cases q : b = b0 ∧ k = k0 <;> by_cases r : b' = b0 ∧ k' = k0
    · exact ⟨by rw [q.1, r.1], by rw [q.2, r.2]⟩
    · obtain ⟨rfl, rfl⟩ := q
      rw [up2_same] at h1
      rw [up2_ne _ _ r] at h2
      rcases hp' i h1 with k | k
      · exact t.sep b _ b' k' i hk hk2 k h2
      · have := lt b' k' hk2 h2
        omega
    · obtain ⟨rfl, rfl⟩ := r
      rw [up2_same] at h2
      rw [up2_ne _ _ q] at h1
      rcases hp' i h2 with k | k
      · exact t.sep b _ b' _ i hk1 hk h1 k
      · have := lt b _ hk1 h1
        omega
    · rw [up2_ne _ _ q] at h1
      rw [up2_ne _ _ r] at h2
      exact t.sep b k b' k' i hk1 hk2 h1 h2
  · by_cases q : b = b0 ∧ k = k0
    · obtain ⟨rfl, rfl⟩ := q
      rw [up2_same] at hc
      rcases hp' i hc with k | k
      · exact ho b _ hk k
      · omega
    · rw [up2_ne _ _ q] at hc
      exact ho b k hk1 hc
  · exact hm.trans' ms (fun _ _ k => .inr k) (fun _ _ k => .inl k)
end Go.Proofs.YteapijoibimfnaaGreat
/-! Turns: New. -/
namespace Go.Proofs.YteapijoibimfnaaGreat
open Go Go.Ab
def LE (g : Gra) : Bool → Nat → List Nat
  | true => nextN g
  | false => prevN g
def rowsV (P : Nat → Option (Nat × Nat)) (L : Nat → List Nat) (E : Nat) : List V := (List.range E).map fun k => .sl (P k) (L k).length
structure TuS (h : H) (B t x : Nat) (g : Gra) : Prop where
  gr : GrS h B x g
  lt : t < B
  is : ∃ (o : Bool) (A : Bool → Nat) (P : Bool → Nat → Option (Nat × Nat)), h.obj t = some (.row o 3 [.ptr (some (x, 0)), .sl (some (A true, 0)) g.es.length, .sl (some (A false, 0)) g.es.length]) ∧
    (∀ b, A b < B ∧ ∃ o', h.obj (A b) = some (.row o' 1 (rowsV (P b) (LE g b) g.es.length))) ∧ ∀ b k, k < g.es.length → SlB h B (P b k) (LE g b k).length 1 (ints .i64 (natL (LE g b k)))
theorem TuS.get {S : Nat → Prop} {h h' : H} {B t x : Nat} {g : Gra} (s : TuS h B t x g) (m : Ab.Mod S h h') (hS : ∀ i, i < B → ¬ S i) : TuS h' B t x g := by
  obtain ⟨o, A, P, e, a, r⟩ := s.is
  exact ⟨s.gr.get m hS, s.lt, o, A, P, m.get e (.inl (hS t s.lt)), fun b => ⟨(a b).1, (a b).2.imp fun _ k => m.get k (.inl (hS _ (a b).1))⟩, fun b k hk => (r b k hk).get m hS⟩
theorem TuS.mono {h : H} {B B' t x : Nat} {g : Gra} (s : TuS h B t x g) (hB : B ≤ B') : TuS h B' t x g := by
  obtain ⟨o, A, P, e, a, r⟩ := s.is
  exact ⟨s.gr.mono hB, Nat.lt_of_lt_of_le s.lt hB, o, A, P, e, fun b => ⟨Nat.lt_of_lt_of_le (a b).1 hB, (a b).2⟩, fun b k hk => (r b k hk).mono hB⟩
theorem TuS.ro {h : H} {B t x : Nat} {g : Gra} (s : TuS h B t x g) (i : Nat) : TuS (h.ro i) B t x g := by
  obtain ⟨o, A, P, e, a, r⟩ := s.is
  have rr : ∀ {j : Nat} {o : Bool} {sz : Nat} {cs : List V}, h.obj j = some (.row o sz cs) → ∃ o', (h.ro i).obj j = some (.row o' sz cs) := fun {j o sz cs} e => by
    by_cases q : j = i
    · subst q
      exact ⟨_, H.ro_same e⟩
    · exact ⟨o, by rw [H.ro_ne _ q]; exact e⟩
  obtain ⟨o', e'⟩ := rr e
  exact ⟨s.gr.ro i, s.lt, o', A, P, e', fun b => ⟨(a b).1, (a b).2.elim fun _ k => rr k⟩, fun b k hk => (r b k hk).ro i⟩
theorem outL_to {g : Gra} (hm : mayG g = true) {a : Nat} (ha : a < g.es.length) : outL g (edV g a).2.1 = natL (outN g a) := by
  have he := mayG_edge hm ha
  have hv : edV g a = g.es[a] := edV_ok (g := g) (i := (a : Int)) (by omega) (by show a < _; exact ha)
  have hn : ndIn g g.es[a].2.1 = true := ndIn_ok (by omega) (by omega)
  rw [hv, outL, if_pos hn]
  unfold outN toK
  rw [es_get g ha]
  rfl
theorem natL_len (l : List Nat) : (natL l).length = l.length := List.length_map _
theorem natL_get {l : List Nat} {j : Nat} (h : j < l.length) : (natL l).getD j 0 = (l[j] : Int) := by
  simp [natL, List.getD_eq_getElem?_getD, h]
theorem outN_mem {g : Gra} {a b : Nat} : b ∈ outN g a ↔ b < g.es.length ∧ frK g b = toK g a := rowOf_mem
theorem zeros_rows (n : Nat) (L : Nat → List Nat) (hL : ∀ k, L k = []) : zerosV n [V.sl none 0] = rowsV (fun _ => none) L n := by
  unfold zerosV rowsV
  apply List.ext_getElem?
  intro i
  simp only [hL]
  by_cases h : i < n
  · simp [h, Nat.mod_one]
  · simp [h]
def t0V (x : Nat) (A : Bool → Nat) (E : Nat) : List V := [.ptr (some (x, 0)), .sl (some (A true, 0)) E, .sl (some (A false, 0)) E]
def TnI (g : Gra) (h : H) (x t0 lo : Nat) (A : Bool → Nat) (env : Env) (hh : H) : Prop := ∃ (a : Nat) (z : Int) (P : Bool → Nat → Option (Nat × Nat)), a ≤ g.es.length ∧ z = a ∧ TR lo hh A g.es.length P (LJ g a 0) ∧ hh.obj t0 = some (.row true 3 (t0V x A g.es.length)) ∧ Ab.Mod none_ h hh ∧
  env = [(22, i64 z), (21, i64 g.es.length), (4, .ptr (some (t0, 0))), (0, .ptr (some (x, 0)))]
def TnJ (g : Gra) (h : H) (x t0 lo : Nat) (A : Bool → Nat) (a : Nat) (q : Option (Nat × Nat)) (env : Env) (hh : H) : Prop := ∃ (j : Nat) (z : Int) (P : Bool → Nat → Option (Nat × Nat)), j ≤ (outN g a).length ∧ z = j ∧ TR lo hh A g.es.length P (LJ g a j) ∧ hh.obj t0 = some (.row true 3 (t0V x A g.es.length)) ∧ Ab.Mod none_ h hh ∧
  SlIs hh q (outN g a).length true 1 (ints .i64 (natL (outN g a))) ∧ (∀ i, inSl q i → lo ≤ i ∧ ∀ b k, k < g.es.length → ¬ inSl (P b k) i) ∧
  env = [(36, i64 z), (35, i64 (outN g a).length), (34, .sl q (outN g a).length), (5, i64 a), (22, i64 a), (21, i64 g.es.length), (4, .ptr (some (t0, 0))), (0, .ptr (some (x, 0)))]
def TnMu (t n : Nat) (env : Env) : Nat := match get env t with
  | .int _ z => (n - z).toNat
  | _ => 0
set_option maxHeartbeats 4000000 in
theorem tuNew {h : H} {B x : Nat} {g : Gra} (s : GrS h B x g) (hB : B ≤ h.next) : ACalls Tryz.prog 17 [.ptr (some (x, 0))] h (fun r h' => ∃ t, r = .ptr (some (t, 0)) ∧ h.next ≤ t ∧ TuS h' h'.next t x g ∧ Ab.Mod none_ h h') := by
  have hz := mayG_size s.ok
  refine call_ Tryz.func17 rfl rfl (by kernel_rfl) ?_
  conv => whnf
  refine (grEdges s).mono ?_
  rintro _ h1 ⟨eh, rfl⟩
  subst h1
  conv => whnf
  refine ⟨[], [2, 4], rfl, ⟨[0, 1, 3, 2, 4, 5, 6, 7], [0, 0, 2, 0, 14, 31, 63, 127], by kernel_rfl, ?_⟩, ⟨[0, 1, 3, 4, 2, 5, 6, 7], [0, 0, 18, 0, 8, 31, 63, 127], by kernel_rfl, ?_⟩⟩
  conv => whnf
  refine ⟨g.es.length, rfl, rfl, by omega, by rw [show (T.at_ 22).bytes = 24 from rfl]; omega, ?_⟩
  conv => whnf
  refine ⟨g.es.length, rfl, rfl, by omega, by rw [show (T.at_ 22).bytes = 24 from rfl]; omega, ?_⟩
  conv => whnf
  obtain ⟨A, hA1, hA2⟩ : ∃ A : Bool → Nat, A true = h.next ∧ A false = (h.next + 1) := ⟨fun b => bif b then h.next else (h.next + 1), rfl, rfl⟩
  have hAlt : ∀ b, A b < h.next + 2 := fun b => by cases b <;> omega
  have hAne : A true ≠ A false := by omega
  have mA := Mod.push none_ h (.row true 1 (zerosV g.es.length [.sl none 0]))
  have mB := Mod.push none_ (h.push (.row true 1 (zerosV g.es.length [.sl none 0]))) (.row true 1 (zerosV g.es.length [.sl none 0]))
  have mC := Mod.push none_ ((h.push (.row true 1 (zerosV g.es.length [.sl none 0]))).push (.row true 1 (zerosV g.es.length [.sl none 0]))) (.row true 3 [.ptr (some (x, 0)), .sl (some (h.next, 0)) g.es.length, .sl (some ((h.next + 1), 0)) g.es.length])
  have o1 : (h.push (.row true 1 (zerosV g.es.length [.sl none 0]))).obj h.next = some (.row true 1 (zerosV g.es.length [.sl none 0])) := H.obj_push_new _ _
  have o2 : ((h.push (.row true 1 (zerosV g.es.length [.sl none 0]))).push (.row true 1 (zerosV g.es.length [.sl none 0]))).obj (h.next + 1) = some (.row true 1 (zerosV g.es.length [.sl none 0])) := H.obj_push_new _ _
  have o3 : (((h.push (.row true 1 (zerosV g.es.length [.sl none 0]))).push (.row true 1 (zerosV g.es.length [.sl none 0]))).push (.row true 3 [.ptr (some (x, 0)), .sl (some (h.next, 0)) g.es.length, .sl (some ((h.next + 1), 0)) g.es.length])).obj (h.next + 2) = some (.row true 3 (t0V x A g.es.length)) := (H.obj_push_new _ _).trans (by rw [t0V, hA1, hA2])
  have hz0 : ∀ b, zerosV g.es.length [V.sl none 0] = rowsV (fun _ => none) (LJ g 0 0 b) g.es.length := fun b => zeros_rows _ _ (LJ_zero g b)
  have tr0 : TR (h.next + 3) (((h.push (.row true 1 (zerosV g.es.length [.sl none 0]))).push (.row true 1 (zerosV g.es.length [.sl none 0]))).push (.row true 3 [.ptr (some (x, 0)), .sl (some (h.next, 0)) g.es.length, .sl (some ((h.next + 1), 0)) g.es.length])) A g.es.length (fun _ _ => none) (LJ g 0 0) :=
    ⟨fun b => by
      cases b
      · rw [hA2]
        exact (mC.get o2 (.inl fun k => k)).trans (by rw [hz0 false]; rfl)
      · rw [hA1]
        exact (mC.get (mB.get o1 (.inl fun k => k)) (.inl fun k => k)).trans (by rw [hz0 true]; rfl), fun b k _ => by
      rw [LJ_zero]
      exact SlIs.nil _ _ _, fun b k i _ ⟨o, e⟩ => (by cases e), fun b k b' k' i _ _ ⟨o, e⟩ => (by cases e)⟩
  have mm0 := mod_none (mod_none mA mB) mC
  clear mA mB mC o1 o2 hz0
  refine ⟨TnI g h x (h.next + 2) (h.next + 3) A, fun env _ => TnMu 22 g.es.length env, ⟨_, Forget.cons rfl (Forget.cons rfl (Forget.cons rfl (Forget.cons rfl (Forget.nil _)))), 0, 0, _, Nat.zero_le _, rfl, tr0, o3, mm0, rfl⟩, ?_⟩
  rotate_left
  conv => whnf
  refine ⟨g.es.length, rfl, rfl, by omega, by rw [show (T.at_ 22).bytes = 24 from rfl]; omega, ?_⟩
  conv => whnf
  refine ⟨g.es.length, rfl, rfl, by omega, by rw [show (T.at_ 22).bytes = 24 from rfl]; omega, ?_⟩
  conv => whnf
  obtain ⟨A, hA1, hA2⟩ : ∃ A : Bool → Nat, A true = (h.next + 1) ∧ A false = h.next := ⟨fun b => bif b then (h.next + 1) else h.next, rfl, rfl⟩
  have hAlt : ∀ b, A b < h.next + 2 := fun b => by cases b <;> omega
  have hAne : A true ≠ A false := by omega
  have mA := Mod.push none_ h (.row true 1 (zerosV g.es.length [.sl none 0]))
  have mB := Mod.push none_ (h.push (.row true 1 (zerosV g.es.length [.sl none 0]))) (.row true 1 (zerosV g.es.length [.sl none 0]))
  have mC := Mod.push none_ ((h.push (.row true 1 (zerosV g.es.length [.sl none 0]))).push (.row true 1 (zerosV g.es.length [.sl none 0]))) (.row true 3 [.ptr (some (x, 0)), .sl (some ((h.next + 1), 0)) g.es.length, .sl (some (h.next, 0)) g.es.length])
  have o1 : (h.push (.row true 1 (zerosV g.es.length [.sl none 0]))).obj h.next = some (.row true 1 (zerosV g.es.length [.sl none 0])) := H.obj_push_new _ _
  have o2 : ((h.push (.row true 1 (zerosV g.es.length [.sl none 0]))).push (.row true 1 (zerosV g.es.length [.sl none 0]))).obj (h.next + 1) = some (.row true 1 (zerosV g.es.length [.sl none 0])) := H.obj_push_new _ _
  have o3 : (((h.push (.row true 1 (zerosV g.es.length [.sl none 0]))).push (.row true 1 (zerosV g.es.length [.sl none 0]))).push (.row true 3 [.ptr (some (x, 0)), .sl (some ((h.next + 1), 0)) g.es.length, .sl (some (h.next, 0)) g.es.length])).obj (h.next + 2) = some (.row true 3 (t0V x A g.es.length)) := (H.obj_push_new _ _).trans (by rw [t0V, hA1, hA2])
  have hz0 : ∀ b, zerosV g.es.length [V.sl none 0] = rowsV (fun _ => none) (LJ g 0 0 b) g.es.length := fun b => zeros_rows _ _ (LJ_zero g b)
  have tr0 : TR (h.next + 3) (((h.push (.row true 1 (zerosV g.es.length [.sl none 0]))).push (.row true 1 (zerosV g.es.length [.sl none 0]))).push (.row true 3 [.ptr (some (x, 0)), .sl (some ((h.next + 1), 0)) g.es.length, .sl (some (h.next, 0)) g.es.length])) A g.es.length (fun _ _ => none) (LJ g 0 0) :=
    ⟨fun b => by
      cases b
      · rw [hA2]
        exact (mC.get (mB.get o1 (.inl fun k => k)) (.inl fun k => k)).trans (by rw [hz0 false]; rfl)
      · rw [hA1]
        exact (mC.get o2 (.inl fun k => k)).trans (by rw [hz0 true]; rfl), fun b k _ => by
      rw [LJ_zero]
      exact SlIs.nil _ _ _, fun b k i _ ⟨o, e⟩ => (by cases e), fun b k b' k' i _ _ ⟨o, e⟩ => (by cases e)⟩
  have mm0 := mod_none (mod_none mA mB) mC
  clear mA mB mC o1 o2 hz0
  refine ⟨TnI g h x (h.next + 2) (h.next + 3) A, fun env _ => TnMu 22 g.es.length env, ⟨_, Forget.cons rfl (Forget.cons rfl (Forget.cons rfl (Forget.cons rfl (Forget.nil _)))), 0, 0, _, Nat.zero_le _, rfl, tr0, o3, mm0, rfl⟩, ?_⟩
  rotate_left
  all_goals clear tr0 o3 mm0
  all_goals
    have hAge : ∀ b, h.next ≤ A b := fun b => by cases b <;> omega
    rintro _ hh ⟨a, z, P, ha, rfl, tr, gt, mm, rfl⟩
    conv => whnf
    have hN := mm.next
    refine br_mk (fun hd => ?_) (fun hd => ?_)
    · conv => whnf
      simp at hd
      refine (grEdge (s.get mm (fun _ _ k => k)) (Nat.le_trans hB hN) a).mono ?_
      rintro _ h2 ⟨rfl, m2⟩
      have tr := tr.keep m2
      have gt := m2.get gt (.inl fun k => k)
      have mm := mod_none mm m2
      clear m2 hN
      conv => whnf
      refine ⟨_, rfl, ?_⟩
      conv => whnf
      refine ⟨_, rfl, ?_⟩
      conv => whnf
      obtain ⟨g0, gx, mx⟩ := lay_row (h := h2) (sz := 3) [i64 0, i64 0, i64 0] (eC (edV g a))
      refine ⟨_, _, g0, Nat.le_of_ble_eq_true rfl, ?_⟩
      have tr := tr.keep mx
      have gt := mx.get gt (.inl fun k => k)
      have mm := mod_none mm mx
      clear mx g0
      conv => whnf
      refine ⟨_, Cell.mk gx rfl, ?_⟩
      conv => whnf
      refine (grOut (s.get mm (fun _ _ k => k)) (edV g a).2.1).mono ?_
      rintro _ h4 ⟨q, rfl, w, m4⟩
      have hlo := Nat.le_trans (show h.next ≤ _ from Nat.le_refl _) mm.next
      have hqn : ∀ i, inSl q i → ∀ b k, k < g.es.length → ¬ inSl (P b k) i := fun i ⟨o, e⟩ b k hk hi => absurd (w.2 i o e) (Nat.not_le_of_lt (SlIs.own_lt (tr.row b k hk) hi))
      have gtl := H.lt _ _ _ gt
      have hq3 : ∀ i, inSl q i → h.next + 3 ≤ i := fun i ⟨o, e⟩ => Nat.le_trans gtl (w.2 i o e)
      have tr := tr.keep m4
      have gt := m4.get gt (.inl fun k => k)
      have mm := mod_none mm m4
      rw [outL_to s.ok hd] at w
      rw [outL_to s.ok hd]
      simp only [natL_len] at w ⊢
      clear m4 gx
      conv => whnf
      refine ⟨TnJ g h x (h.next + 2) (h.next + 3) A a q, fun env _ => TnMu 36 (outN g a).length env, ⟨_, Forget.cons rfl (Forget.cons rfl (Forget.cons rfl (Forget.cons rfl (Forget.cons rfl (Forget.cons rfl (Forget.cons rfl (Forget.cons rfl (Forget.nil _)))))))), 0, 0, P, Nat.zero_le _, rfl, tr, gt, mm, w.1, fun i k => ⟨hq3 i k, hqn i k⟩, rfl⟩, ?_⟩
      clear w tr gt mm hqn hq3 gtl hlo
      rintro _ h5 ⟨j, z, P, hj, rfl, tr, gt, mm, wq, hq, rfl⟩
      conv => whnf
      refine br_mk (fun he => ?_) (fun he => ?_)
      · conv => whnf
        simp at he
        obtain ⟨i1, c1, e1, k1⟩ := slo_get wq.weak he
        refine ⟨i1, c1, j, e1, rfl, he, ?_⟩
        conv => whnf
        refine ⟨_, k1, ?_⟩
        conv => whnf
        rw [natL_get he]
        refine (grBanned (s.get mm (fun _ _ k => k)) a (outN g a)[j]).mono ?_
        rintro _ h6 ⟨rfl, m6⟩
        have tr := tr.keep m6
        have gt := m6.get gt (.inl fun k => k)
        have mm := mod_none mm m6
        have wq := SlIs.old wq m6 (fun _ _ k => k)
        clear m6 k1
        conv => whnf
        have hs2 := succ_i64 (j := j) (n := (outN g a).length) he (by have := rowOf_len (frK g) (toK g a) g.es.length; unfold outN; omega)
        refine br_mk (fun hb => ?_) (fun hb => ?_)
        · conv => whnf
          have hb : banQ g a (outN g a)[j] = false := by simpa [banQ] using hb
          have hbn := (outN_mem.1 (List.getElem_mem he)).1
          refine ⟨[0, 1, 2, 3, 4, 5, 6, 7, 8, 9, 10, 11, 12, 13, 14, 15, 16], [0, 1, 3, 7, 0, 0, 32, 96, 224, 0, 992, 2016, 0, 4096, 16352, 32767, 65535], by kernel_rfl, ?_⟩
          conv => whnf
          refine ⟨_, Cell.mk gt rfl, ?_⟩
          conv => whnf
          refine ⟨_, Cell.mk gt rfl, ?_⟩
          conv => whnf
          refine ⟨A true, 0, a, rfl, rfl, hd, ?_⟩
          conv => whnf
          refine ⟨_, tr.cell true hd, ?_⟩
          conv => whnf
          have hlen := LJ_len (g := g) (a := a) (j := j) ha true a
          have htl : h.next + 3 ≤ h6.next := H.lt _ _ _ gt
          have mp := Mod.push none_ h6 (.row true 1 (ints .i64 [((outN g a)[j] : Int)]))
          have op : (h6.push (.row true 1 (ints .i64 [((outN g a)[j] : Int)]))).obj h6.next = some (.row true 1 (ints .i64 [((outN g a)[j] : Int)])) := H.obj_push_new _ _
          have tr := tr.keep mp
          have gt := mp.get gt (.inl fun k => k)
          have wq := SlIs.old wq mp (fun _ _ k => k)
          have wq0 := wq
          have mm := mod_none mm mp
          refine ⟨_, [i64 ((outN g a)[j] : Int)], tr.row true a hd, ⟨rfl, .inr ⟨_, 0, true, _, rfl, op, (fun e => by cases e), Nat.le_refl _, rfl⟩⟩, by rw [show (T.at_ 3).bytes = 8 from rfl]; omega, by omega, fun p' h7 hs hm hf => ?_⟩
          have hs : SlIs h7 p' ((LJ g a j true a).length + 1) true 1 (ints .i64 (natL (LJ g a j true a ++ [(outN g a)[j]]))) := by
            rw [natL_app, ints_append]
            exact hs
          have hlo : h.next + 3 ≤ (h6.push (.row true 1 (ints .i64 [((outN g a)[j] : Int)]))).next := Nat.le_trans htl (Nat.le_succ _)
          obtain ⟨ga, tr', hq', mx⟩ := tr.app (fun b => Nat.lt_succ_of_lt (hAlt b)) hlo hAne hd hs hm hf
          have gt7 := hm.get gt (.inl fun k => absurd (tr.new true a _ hd k) (by omega))
          conv => whnf
          refine ⟨?_, ?_⟩
          · conv => whnf
            exact ⟨_, Cell.mk gt7 rfl, rfl⟩
          conv => whnf
          refine ⟨A true, 0, a, rfl, rfl, hd, ?_⟩
          conv => whnf
          refine ⟨_, _, ga, by rw [List.length_map, List.length_range, show (T.at_ 22).size = 1 from rfl]; omega, ?_⟩
          have gt := mx.get gt (.inl fun k => k.elim (fun e => by have := hAlt true; omega) fun k => absurd (tr.new true a _ hd k) (by omega))
          have wq := wq.get mx (fun i o e => .inl fun k => k.elim (fun r => by have := hAlt true; have := (hq i ⟨o, e⟩).1; omega) fun k => (hq i ⟨o, e⟩).2 true a hd k)
          have hq := fun i k => (⟨(hq i k).1, hq' i (SlIs.own_lt wq0 k) (hq i k).2⟩ : h.next + 3 ≤ i ∧ _)
          have mm := mm.trans' mx (S2 := none_) (fun _ _ k => k) (fun i hi k => k.elim (fun e => by have := hAge true; omega) fun k => absurd (tr.new true a _ hd k) (by omega))
          conv => whnf
          have hlen2 := LJ_len (g := g) (a := a) (j := j) ha false (outN g a)[j]
          have hlo := Nat.le_trans hlo (Nat.le_trans mx.next (Nat.le_succ _))
          clear hs hm hf ga gt7 mx tr mp op wq0
          refine ⟨[0, 1, 2, 3, 4, 5, 6, 7, 8, 9, 10, 11, 12, 13, 14, 15, 16], [0, 1, 3, 7, 0, 0, 32, 96, 224, 0, 992, 2016, 0, 4096, 16352, 32767, 65535], by kernel_rfl, ?_⟩
          conv => whnf
          refine ⟨_, Cell.mk gt rfl, ?_⟩
          conv => whnf
          refine ⟨_, Cell.mk gt rfl, ?_⟩
          conv => whnf
          refine ⟨A false, 0, (outN g a)[j], rfl, rfl, hbn, ?_⟩
          conv => whnf
          refine ⟨_, tr'.cell false hbn, ?_⟩
          conv => whnf
          have gt := (Mod.push none_ _ (.row true 1 (ints .i64 [(a : Int)]))).get gt (.inl fun k => k)
          have wq := SlIs.old wq (Mod.push none_ _ (.row true 1 (ints .i64 [(a : Int)]))) (fun _ _ k => k)
          have wq0 := wq
          have mm := mod_none mm (Mod.push none_ _ (.row true 1 (ints .i64 [(a : Int)])))
          have tr := tr'.keep (Mod.push none_ _ (.row true 1 (ints .i64 [(a : Int)])))
          have hlen3 : (up2 (LJ g a j) true a (LJ g a j true a ++ [(outN g a)[j]]) false (outN g a)[j]).length ≤ g.es.length + 1 := by rw [up2_ne _ _ (fun e => by cases e.1)]; exact hlen2
          refine ⟨_, [i64 (a : Int)], tr.row false _ hbn, ⟨rfl, .inr ⟨_, 0, true, _, rfl, H.obj_push_new _ _, (fun e => by cases e), Nat.le_refl _, rfl⟩⟩, by rw [show (T.at_ 3).bytes = 8 from rfl]; omega, by omega, fun p2 h9 hs hm hf => ?_⟩
          have hu : up2 (LJ g a j) true a (LJ g a j true a ++ [(outN g a)[j]]) false (outN g a)[j] = LJ g a j false (outN g a)[j] := up2_ne _ _ (fun e => by cases e.1)
          have hs : SlIs h9 p2 ((up2 (LJ g a j) true a (LJ g a j true a ++ [(outN g a)[j]]) false (outN g a)[j]).length + 1) true 1 (ints .i64 (natL (up2 (LJ g a j) true a (LJ g a j true a ++ [(outN g a)[j]]) false (outN g a)[j] ++ [a]))) := by
            rw [natL_app, ints_append]
            exact hs
          obtain ⟨ga, tr', hq', mx⟩ := tr.app (fun b => Nat.lt_succ_of_lt (hAlt b)) hlo hAne hbn hs hm hf
          have gt9 := hm.get gt (.inl fun k => absurd (tr.new false _ _ hbn k) (by omega))
          conv => whnf
          refine ⟨?_, ?_⟩
          · conv => whnf
            exact ⟨_, Cell.mk gt9 rfl, rfl⟩
          conv => whnf
          refine ⟨A false, 0, (outN g a)[j], rfl, rfl, hbn, ?_⟩
          conv => whnf
          refine ⟨_, _, ga, by rw [List.length_map, List.length_range, show (T.at_ 22).size = 1 from rfl]; omega, ?_⟩
          have gt := mx.get gt (.inl fun k => k.elim (fun e => by have := hAlt false; omega) fun k => absurd (tr.new false _ _ hbn k) (by omega))
          have wq := wq.get mx (fun i o e => .inl fun k => k.elim (fun r => by have := hAlt false; have := (hq i ⟨o, e⟩).1; omega) fun k => (hq i ⟨o, e⟩).2 false _ hbn k)
          have hq := fun i k => (⟨(hq i k).1, hq' i (SlIs.own_lt wq0 k) (hq i k).2⟩ : h.next + 3 ≤ i ∧ _)
          have mm := mm.trans' mx (S2 := none_) (fun _ _ k => k) (fun i hi k => k.elim (fun e => by have := hAge false; omega) fun k => absurd (tr.new false _ _ hbn k) (by omega))
          rw [LJ_yes he hb] at tr'
          conv => whnf
          refine ⟨_, Forget.cons rfl (Forget.cons rfl (Forget.cons rfl (Forget.cons rfl (Forget.cons rfl (Forget.cons rfl (Forget.cons rfl (Forget.cons rfl (Forget.nil _)))))))), ⟨j + 1, _, _, by omega, hs2, tr', gt, mm, wq, hq, rfl⟩, ?_⟩
          show (((outN g a).length : Int) - IntKind.i64.wrap ((j : Int) + 1)).toNat < (((outN g a).length : Int) - (j : Int)).toNat
          rw [hs2]
          omega
        · conv => whnf
          have hb : banQ g a (outN g a)[j] = true := by simpa [banQ] using hb
          refine ⟨_, Forget.cons rfl (Forget.cons rfl (Forget.cons rfl (Forget.cons rfl (Forget.cons rfl (Forget.cons rfl (Forget.cons rfl (Forget.cons rfl (Forget.nil _)))))))), ⟨j + 1, _, P, by omega, hs2, by rw [LJ_no he hb]; exact tr, gt, mm, wq, hq, rfl⟩, ?_⟩
          show (((outN g a).length : Int) - IntKind.i64.wrap ((j : Int) + 1)).toNat < (((outN g a).length : Int) - (j : Int)).toNat
          rw [hs2]
          omega
      · conv => whnf
        simp at he
        obtain rfl : j = (outN g a).length := by omega
        have hs2 := succ_i64 (j := a) (n := g.es.length) hd (by omega)
        rw [LJ_all] at tr
        refine ⟨_, Forget.cons rfl (Forget.cons rfl (Forget.cons rfl (Forget.cons rfl (Forget.nil _)))), ⟨a + 1, _, P, by omega, hs2, tr, gt, mm, rfl⟩, ?_⟩
        show ((g.es.length : Int) - IntKind.i64.wrap ((a : Int) + 1)).toNat < ((g.es.length : Int) - (a : Int)).toNat
        rw [hs2]
        omega
    · conv => whnf
      simp at hd
      obtain rfl : a = g.es.length := by omega
      have hl := H.lt _ _ _ gt
      have hLE : ∀ b k, k < g.es.length → LJ g g.es.length 0 b k = LE g b k := fun b k hk => by
        cases b
        · exact (LJ_end g hk).2
        · exact (LJ_end g hk).1
      refine ⟨h.next + 2, rfl, by omega, ⟨(s.get mm (fun _ _ k => k)).mono (Nat.le_trans hB hN), hl, true, A, P, gt, fun b => ⟨H.lt _ _ _ (tr.arr b), true, ?_⟩, fun b k hk => ?_⟩, mm⟩
      · rw [tr.arr b]
        congr 2
        exact List.map_congr_left fun k hk => by rw [hLE b k (List.mem_range.1 hk)]
      · have := tr.row b k hk
        rw [hLE b k hk] at this
        exact ⟨this.weak, fun i o e => SlIs.own_lt this ⟨o, e⟩⟩
end Go.Proofs.YteapijoibimfnaaGreat
/-! Turns: what comes next, and ahead; which turns may be. -/
namespace Go.Proofs.YteapijoibimfnaaGreat
open Go Go.Ab
def rowL (g : Gra) (b : Bool) (e : Int) : List Int := if edIn g e = true then natL (LE g b e.toNat) else []
theorem LE_len {g : Gra} {b : Bool} {k : Nat} : (LE g b k).length ≤ g.es.length := by
  cases b with
  | true => exact Nat.le_trans (List.length_filter_le _ _) (rowOf_len _ _ _)
  | false =>
    have := List.length_filter_le (fun a => decide (k ∈ nextN g a)) (List.range g.es.length)
    rw [List.length_range] at this
    exact this
theorem rowL_len (g : Gra) (b : Bool) (e : Int) : (rowL g b e).length ≤ g.es.length := by
  unfold rowL
  split
  · rw [natL_len]
    exact LE_len
  · exact Nat.zero_le _
theorem some109 {h : H} {B a : Nat} {o : Bool} {P : Nat → Option (Nat × Nat)} {g : Gra} {b : Bool} (hl : g.es.length ≤ 512) (ha : h.obj a = some (.row o 1 (rowsV P (LE g b) g.es.length))) (hr : ∀ k, k < g.es.length → SlB h B (P k) (LE g b k).length 1 (ints .i64 (natL (LE g b k)))) (e : Int) :
    ACalls Tryz.prog 109 [.sl (some (a, 0)) g.es.length, i64 e] h (fun r h' => ∃ q, r = .sl q (rowL g b e).length ∧ NewSl h h' q (rowL g b e).length 1 (ints .i64 (rowL g b e)) ∧ Ab.Mod none_ h h') := by
  refine call_ Tryz.func109 rfl rfl (by kernel_rfl) ?_
  conv => whnf
  refine br_mk (fun hb => ?_) (fun hb => ?_)
  · conv => whnf
    have hb : e < 0 := by simpa using hb
    rw [rowL, if_neg (by rw [edIn_lo hb]; decide)]
    exact ⟨none, rfl, ⟨SlIs.nil _ _ _, (fun _ _ e => by cases e)⟩, Mod.refl _ _⟩
  · conv => whnf
    have hb : ¬ e < 0 := by simpa using hb
    refine br_mk (fun hc => ?_) (fun hc => ?_)
    · conv => whnf
      have hc : (g.es.length : Int) ≤ e := by simpa using hc
      rw [rowL, if_neg (by rw [edIn_hi (by omega)]; decide)]
      exact ⟨none, rfl, ⟨SlIs.nil _ _ _, (fun _ _ e => by cases e)⟩, Mod.refl _ _⟩
    · conv => whnf
      have hc : ¬ (g.es.length : Int) ≤ e := by simpa using hc
      obtain ⟨k, rfl⟩ := Int.eq_ofNat_of_zero_le (show 0 ≤ e by omega)
      have hk : k < g.es.length := by omega
      have hL : rowL g b (k : Int) = natL (LE g b k) := by
        rw [rowL, if_pos (edIn_ok (by omega) (by omega))]
        rfl
      have hll := LE_len (g := g) (b := b) (k := k)
      rw [hL, natL_len]
      refine ⟨a, 0, k, rfl, rfl, hk, ?_⟩
      conv => whnf
      have hcell : (rowsV P (LE g b) g.es.length)[0 + k * 1]? = some (.sl (P k) (LE g b k).length) := by simp [rowsV, hk]
      refine ⟨_, Cell.mk ha hcell, ?_⟩
      conv => whnf
      refine ⟨[], _, SlIs.nil _ _ _, (hr k hk).1, by rw [show (T.at_ 3).bytes = 8 from rfl]; omega, by omega, fun p' h' hs hm hf => ?_⟩
      conv => whnf
      simp only [Nat.zero_add, List.nil_append] at hs
      rw [Nat.zero_add]
      have m : Ab.Mod none_ h h' := ⟨hm.next, fun i hi k => hm.obj i hi (.inl fun ⟨o, e⟩ => by cases e)⟩
      refine ⟨p', rfl, ⟨hs, fun i o e => (hf i o e).elim (fun k => by rw [e] at k; cases k) id⟩, m⟩
theorem tuNext {h : H} {B t x : Nat} {g : Gra} (s : TuS h B t x g) (e : Int) : ACalls Tryz.prog 92 [.ptr (some (t, 0)), i64 e] h (fun r h' => ∃ q, r = .sl q (rowL g true e).length ∧ NewSl h h' q (rowL g true e).length 1 (ints .i64 (rowL g true e)) ∧ Ab.Mod none_ h h') := by
  have hz := mayG_size s.gr.ok
  obtain ⟨o, A, P, gt, ha, hr⟩ := s.is
  obtain ⟨o', ho⟩ := (ha true).2
  refine call_ Tryz.func92 rfl rfl (by kernel_rfl) ?_
  conv => whnf
  refine ⟨_, Cell.mk gt rfl, ?_⟩
  conv => whnf
  refine (some109 (b := true) (by omega) ho (hr true) e).mono ?_
  rintro _ h' ⟨q, rfl, w, m⟩
  conv => whnf
  exact ⟨q, rfl, w, m⟩
theorem tuPrev {h : H} {B t x : Nat} {g : Gra} (s : TuS h B t x g) (e : Int) : ACalls Tryz.prog 89 [.ptr (some (t, 0)), i64 e] h (fun r h' => ∃ q, r = .sl q (rowL g false e).length ∧ NewSl h h' q (rowL g false e).length 1 (ints .i64 (rowL g false e)) ∧ Ab.Mod none_ h h') := by
  have hz := mayG_size s.gr.ok
  obtain ⟨o, A, P, gt, ha, hr⟩ := s.is
  obtain ⟨o', ho⟩ := (ha false).2
  refine call_ Tryz.func89 rfl rfl (by kernel_rfl) ?_
  conv => whnf
  refine ⟨_, Cell.mk gt rfl, ?_⟩
  conv => whnf
  refine (some109 (b := false) (by omega) ho (hr false) e).mono ?_
  rintro _ h' ⟨q, rfl, w, m⟩
  conv => whnf
  exact ⟨q, rfl, w, m⟩
def mayT (g : Gra) (a b : Int) : Bool := edIn g a && (edIn g b && (decide ((edV g a).2.1 = (edV g b).1) && !decide ((a, b) ∈ g.bs)))
theorem tuMay {h : H} {B t x : Nat} {g : Gra} (s : TuS h B t x g) (hB : B ≤ h.next) (a b : Int) : ACalls Tryz.prog 91 [.ptr (some (t, 0)), i64 a, i64 b] h (fun r h' => r = .bool (mayT g a b) ∧ Ab.Mod none_ h h') := by
  have hz := mayG_size s.gr.ok
  obtain ⟨o, A, P, gt, ha, hr⟩ := s.is
  refine call_ Tryz.func91 rfl rfl (by kernel_rfl) ?_
  conv => whnf
  refine ⟨_, Cell.mk gt rfl, ?_⟩
  conv => whnf
  refine (grEdge s.gr hB a).mono ?_
  rintro _ h1 ⟨rfl, m1⟩
  have gt1 := m1.get gt (.inl fun k => k)
  conv => whnf
  refine ⟨_, rfl, ?_⟩
  conv => whnf
  refine ⟨_, rfl, ?_⟩
  conv => whnf
  obtain ⟨g0, gx, mx⟩ := lay_row (h := h1) (sz := 3) [i64 0, i64 0, i64 0] (eC (edV g a))
  refine ⟨_, _, g0, Nat.le_of_ble_eq_true rfl, ?_⟩
  have gt2 := mx.get gt1 (.inl fun k => k)
  have mm := mod_none m1 mx
  clear g0
  conv => whnf
  refine ⟨_, Cell.mk gt2 rfl, ?_⟩
  conv => whnf
  refine (grEdge (s.gr.get mm fun _ _ k => k) (Nat.le_trans hB mm.next) b).mono ?_
  rintro _ h3 ⟨rfl, m3⟩
  have gt3 := m3.get gt2 (.inl fun k => k)
  have gx := m3.get gx (.inl fun k => k)
  have mm := mod_none mm m3
  conv => whnf
  refine ⟨_, rfl, ?_⟩
  conv => whnf
  refine ⟨_, rfl, ?_⟩
  conv => whnf
  obtain ⟨g0, gy, my⟩ := lay_row (h := h3) (sz := 3) [i64 0, i64 0, i64 0] (eC (edV g b))
  refine ⟨_, _, g0, Nat.le_of_ble_eq_true rfl, ?_⟩
  have gt4 := my.get gt3 (.inl fun k => k)
  have gx := my.get gx (.inl fun k => k)
  have mm := mod_none mm my
  conv => whnf
  refine br_mk (fun hb => ?_) (fun hb => ?_)
  · conv => whnf
    refine br_mk (fun hc => ?_) (fun hc => ?_)
    · conv => whnf
      refine ⟨_, Cell.mk gx rfl, ?_⟩
      conv => whnf
      refine ⟨_, Cell.mk gy rfl, ?_⟩
      conv => whnf
      refine br_mk (fun hd => ?_) (fun hd => ?_)
      · conv => whnf
        have hd : (edV g a).2.1 = (edV g b).1 := by simpa using hd
        refine ⟨_, Cell.mk gt4 rfl, ?_⟩
        conv => whnf
        refine (grBanned (s.gr.get mm fun _ _ k => k) a b).mono ?_
        rintro _ h5 ⟨rfl, m5⟩
        conv => whnf
        exact ⟨by rw [mayT, hb, hc, decide_eq_true hd]; rfl, mod_none mm m5⟩
      · conv => whnf
        have hd : ¬ (edV g a).2.1 = (edV g b).1 := by simpa using hd
        exact ⟨by rw [mayT, decide_eq_false hd, Bool.false_and, Bool.and_false, Bool.and_false], mm⟩
    · conv => whnf
      exact ⟨by rw [mayT, hc, Bool.false_and, Bool.and_false], mm⟩
  · conv => whnf
    exact ⟨by rw [mayT, hb, Bool.false_and], mm⟩
end Go.Proofs.YteapijoibimfnaaGreat
/-! The heap: a row of numbers with keys, and where each stands. -/
namespace Go.Proofs.YteapijoibimfnaaGreat
open Go Go.Ab
theorem flat2_set (y : Int × Int) : ∀ (l : List (Int × Int)) (j : Nat), ((l.flatMap pC).set (j * 2) (i64 y.1)).set (j * 2 + 1) (i64 y.2) = (l.set j y).flatMap pC
  | [], j => by simp
  | x :: l, 0 => by simp [pC]
  | x :: l, j + 1 => by
    have ih := flat2_set y l j
    rw [List.set_cons_succ, List.flatMap_cons, List.flatMap_cons, ← ih]
    rw [show (j + 1) * 2 = j * 2 + 1 + 1 by omega]
    simp [pC]
theorem own_put2 {h : H} {p : Option (Nat × Nat)} {n : Nat} {l : List (Int × Int)} (w : SlIs h p n true 2 (l.flatMap pC)) {j : Nat} (hj : j < n) (y : Int × Int) :
    ∃ i c cs, p = some (i, c) ∧ h.obj i = some (.row true 2 cs) ∧ c + j * 2 + 2 ≤ cs.length ∧ SlIs (h.set i (.row true 2 (splice cs (c + j * 2) (pC y)))) p n true 2 ((l.set j y).flatMap pC) := by
  obtain ⟨hl, hr⟩ := w
  rcases hr with ⟨rfl, _⟩ | ⟨i, c, o', r, rfl, e2, e3, e4, e5⟩
  · omega
  · obtain rfl := e3 rfl
    have hl2 : ((l.set j y).flatMap pC).length = n * 2 := by rw [← flat2_set, List.length_set, List.length_set, hl]
    refine ⟨i, c, r, rfl, e2, by omega, ⟨hl2, .inr ⟨i, c, true, _, rfl, H.obj_set_same e2, fun e => e, ?_, ?_⟩⟩⟩
    · show _ ≤ ((r.set (c + j * 2) (i64 y.1)).set (c + j * 2 + 1) (i64 y.2)).length
      rw [List.length_set, List.length_set]
      exact e4
    · show (((r.set (c + j * 2) (i64 y.1)).set (c + j * 2 + 1) (i64 y.2)).drop c).take (n * 2) = _
      rw [List.drop_set, if_neg (by omega), List.drop_set, if_neg (by omega), List.take_set, List.take_set, e5, ← flat2_set, show c + j * 2 - c = j * 2 by omega, show c + j * 2 + 1 - c = j * 2 + 1 by omega]
theorem flat2_key (l : List (Int × Int)) {j : Nat} (hj : j < l.length) (k : Int) : (l.flatMap pC).set (j * 2 + 1) (i64 k) = (l.set j ((l[j]).1, k)).flatMap pC := by
  rw [← flat2_set]
  congr 1
  symm
  have : (l.flatMap pC)[j * 2]? = some (i64 (l[j]).1) := by
    have h1 := flat_get (f := pC) pC_len (d := 0) (by decide) l j
    rw [Nat.add_zero] at h1
    rw [h1, List.getElem?_eq_getElem hj]
    rfl
  apply List.ext_getElem?
  intro d
  rw [List.getElem?_set]
  split
  · rename_i e
    subst e
    rw [this, if_pos (List.getElem?_eq_some_iff.1 this).1]
  · rfl
theorem own_key2 {h : H} {p : Option (Nat × Nat)} {n : Nat} {l : List (Int × Int)} (w : SlIs h p n true 2 (l.flatMap pC)) {j : Nat} (hj : j < n) (hn : n = l.length) (k : Int) :
    ∃ i c cs, p = some (i, c) ∧ h.obj i = some (.row true 2 cs) ∧ c + j * 2 + 2 ≤ cs.length ∧ SlIs (h.set i (.row true 2 (splice cs (c + j * 2 + 1) [i64 k]))) p n true 2 ((l.set j ((l.getD j (0, 0)).1, k)).flatMap pC) := by
  obtain ⟨hl, hr⟩ := w
  have hjl : j < l.length := by omega
  have hg : l.getD j (0, 0) = l[j] := by rw [List.getD_eq_getElem?_getD, List.getElem?_eq_getElem hjl]; rfl
  rw [hg, ← flat2_key l hjl]
  rcases hr with ⟨rfl, _⟩ | ⟨i, c, o', r, rfl, e2, e3, e4, e5⟩
  · omega
  · obtain rfl := e3 rfl
    refine ⟨i, c, r, rfl, e2, by omega, ⟨by rw [List.length_set, hl], .inr ⟨i, c, true, _, rfl, H.obj_set_same e2, fun e => e, ?_, ?_⟩⟩⟩
    · rw [splice_one, List.length_set]
      exact e4
    · rw [splice_one, List.drop_set, if_neg (by omega), List.take_set, e5, show c + j * 2 + 1 - c = j * 2 + 1 by omega]
structure HpR (hh : H) (x : Nat) (p : Option (Nat × Nat)) (mi : Nat) (l ms : List (Int × Int)) : Prop where
  box : hh.obj x = some (.row true 2 [.sl p l.length, .mp (some mi)])
  sl : SlIs hh p l.length true 2 (l.flatMap pC)
  mp : hh.obj mi = some (.map true (mpE .i64 (encM i64V ms)))
  nd : (keys ms).Nodup
  sep : ∀ i, inSl p i → i ≠ x ∧ i ≠ mi
def hpF (x : Nat) (p : Option (Nat × Nat)) (mi : Nat) : Nat → Prop := fun i => i = x ∨ i = mi ∨ inSl p i
theorem HpR.get {S : Nat → Prop} {h h' : H} {x : Nat} {p : Option (Nat × Nat)} {mi : Nat} {l ms : List (Int × Int)} (s : HpR h x p mi l ms) (m : Ab.Mod S h h') (hS : ∀ i, hpF x p mi i → ¬ S i) : HpR h' x p mi l ms :=
  ⟨m.get s.box (.inl (hS _ (.inl rfl))), s.sl.get m fun i o e => .inl (hS _ (.inr (.inr ⟨o, e⟩))), m.get s.mp (.inl (hS _ (.inr (.inl rfl)))), s.nd, s.sep⟩
theorem HpR.keep {h h' : H} {x : Nat} {p : Option (Nat × Nat)} {mi : Nat} {l ms : List (Int × Int)} (s : HpR h x p mi l ms) (m : Ab.Mod none_ h h') : HpR h' x p mi l ms := s.get m fun _ _ k => k
theorem HpR.ne {h : H} {x : Nat} {p : Option (Nat × Nat)} {mi : Nat} {l ms : List (Int × Int)} (s : HpR h x p mi l ms) : x ≠ mi := fun e => by
  have := s.box
  rw [e, s.mp] at this
  cases this
theorem HpR.lt {h : H} {x : Nat} {p : Option (Nat × Nat)} {mi : Nat} {l ms : List (Int × Int)} (s : HpR h x p mi l ms) {i : Nat} (hi : hpF x p mi i) : i < h.next := by
  rcases hi with rfl | rfl | hi
  · exact H.lt _ _ _ s.box
  · exact H.lt _ _ _ s.mp
  · exact SlIs.own_lt s.sl hi
def aheadV (a b : Int × Int) : Bool := decide (a.2 < b.2) || (decide (a.2 = b.2) && decide (a.1 < b.1))
theorem ahead119 (h : H) (a b : Int × Int) : ACalls Tryz.prog 119 [.agg (pC a), .agg (pC b)] h (fun r h' => r = .bool (aheadV a b) ∧ Ab.Mod none_ h h') := by
  refine call_ Tryz.func119 rfl rfl (by kernel_rfl) ?_
  conv => whnf
  have m1 := Mod.push none_ h (.row true 2 (pC a))
  have m2 := Mod.push none_ (h.push (.row true 2 (pC a))) (.row true 2 (pC b))
  have g1 : ((h.push (.row true 2 (pC a))).push (.row true 2 (pC b))).obj h.next = some (.row true 2 (pC a)) := m2.get (H.obj_push_new _ _) (.inl fun k => k)
  have g2 : ((h.push (.row true 2 (pC a))).push (.row true 2 (pC b))).obj (h.next + 1) = some (.row true 2 (pC b)) := H.obj_push_new _ _
  have mm := mod_none m1 m2
  refine ⟨_, Cell.mk g1 rfl, ?_⟩
  conv => whnf
  refine ⟨_, Cell.mk g2 rfl, ?_⟩
  conv => whnf
  refine br_mk (fun hb => ?_) (fun hb => ?_)
  · conv => whnf
    exact ⟨by rw [aheadV, hb]; rfl, mm⟩
  · conv => whnf
    refine ⟨_, Cell.mk g1 rfl, ?_⟩
    conv => whnf
    refine ⟨_, Cell.mk g2 rfl, ?_⟩
    conv => whnf
    refine br_mk (fun hc => ?_) (fun hc => ?_)
    · conv => whnf
      refine ⟨_, Cell.mk g1 rfl, ?_⟩
      conv => whnf
      refine ⟨_, Cell.mk g2 rfl, ?_⟩
      conv => whnf
      have hc : a.2 = b.2 := by simpa using hc
      exact ⟨by rw [aheadV, hb, decide_eq_true hc]; rfl, mm⟩
    · conv => whnf
      have hc : ¬ a.2 = b.2 := by simpa using hc
      exact ⟨by rw [aheadV, hb, decide_eq_false hc]; rfl, mm⟩
theorem heapSet {h : H} {x : Nat} {p : Option (Nat × Nat)} {mi : Nat} {l ms : List (Int × Int)} (s : HpR h x p mi l ms) {j : Nat} (hj : j < l.length) (y : Int × Int) :
    ACalls Tryz.prog 120 [.ptr (some (x, 0)), i64 j, .agg (pC y)] h (fun r h' => r = .tup [] ∧ HpR h' x p mi (l.set j y) (sput ms y.1 j) ∧ Ab.Mod (fun i => i = mi ∨ inSl p i) h h') := by
  refine call_ Tryz.func120 rfl rfl (by kernel_rfl) ?_
  conv => whnf
  have m1 := Mod.push none_ h (.row true 2 (pC y))
  have g1 : (h.push (.row true 2 (pC y))).obj h.next = some (.row true 2 (pC y)) := H.obj_push_new _ _
  have s0 := s
  have s := s.keep m1
  have hm1 : mi < h.next := s0.lt (.inr (.inl rfl))
  refine ⟨[0, 1, 2, 3, 4, 5, 6, 7, 8, 9, 10, 11, 12, 13, 14, 15, 16, 17], [0, 1, 3, 7, 0, 0, 32, 96, 224, 0, 512, 0, 0, 2559, 10751, 28671, 61439, 131071], by kernel_rfl, ?_⟩
  conv => whnf
  refine ⟨_, Cell.mk s.box rfl, ?_⟩
  conv => whnf
  refine ⟨_, Cell.mk s.box rfl, ?_⟩
  conv => whnf
  refine ⟨_, Cell.mk g1 rfl, ?_⟩
  conv => whnf
  refine ⟨_, Cells.mk g1 (Nat.le_of_ble_eq_true rfl) rfl, ?_⟩
  conv => whnf
  obtain ⟨i, c, cs, e1, e2, e3, e4⟩ := own_put2 s.sl hj y
  refine ⟨i, c, j, e1, rfl, hj, ?_⟩
  conv => whnf
  refine ⟨_, _, e2, e3, ?_⟩
  have hi : i < h.next := s0.lt (.inr (.inr ⟨c, e1⟩))
  have hsp := s.sep i ⟨c, e1⟩
  have ms1 := Mod.set (S := one i) (ob := .row true 2 (splice cs (c + j * 2) (pC y))) rfl e2 rfl
  have g1 := ms1.get g1 (.inl fun k => by
    have k : h.next = i := k
    omega)
  have gm := ms1.get s.mp (.inl fun k => hsp.2 (Eq.symm k))
  have gb := ms1.get s.box (.inl fun k => hsp.1 (Eq.symm k))
  conv => whnf
  refine ⟨?_, ?_⟩
  · conv => whnf
    exact ⟨_, Cell.mk g1 rfl, rfl⟩
  conv => whnf
  refine ⟨_, gm, fun ms' bs cl pp b q1 q2 q3 q4 q5 q6 => ?_⟩
  conv => whnf
  refine ⟨_, rfl, ?_⟩
  conv => whnf
  refine ⟨_, _, _, _, _, _, _, H.obj_set_same gm, rfl, q5, q4, ?_⟩
  conv => whnf
  have e6 : ms'.set pp (y.1, V.int .i64 (j : Int)) = encM i64V (sput ms y.1 (j : Int)) := (q6 _).trans (mput_enc i64V y.1 (j : Int) ms)
  rw [H.set_set, e6]
  have ms2 := Mod.set (S := one mi) (ob := .map true (mpE .i64 (encM i64V (sput ms y.1 (j : Int))))) rfl gm rfl
  refine ⟨rfl, ⟨?_, ?_, H.obj_set_same gm, sput_nodup s.nd _ _, s.sep⟩, ?_⟩
  · rw [List.length_set]
    exact ms2.get gb (.inl s.ne)
  · rw [List.length_set]
    exact e4.get ms2 fun i' o e => .inl fun k => (s.sep i' ⟨o, e⟩).2 k
  · refine (m1.trans' ms1 (S2 := fun i => i = mi ∨ inSl p i) (fun _ _ k => False.elim k) (fun i' _ k => .inr ?_)).trans' ms2 (fun _ _ k => k) (fun _ _ k => .inl k)
    have k : i' = i := k
    rw [k]
    exact ⟨c, e1⟩
end Go.Proofs.YteapijoibimfnaaGreat
/-! The heap: what rises, and sinks; its elements stay. -/
namespace Go.Proofs.YteapijoibimfnaaGreat
open Go Go.Ab
def atL (l : List (Int × Int)) (j : Nat) : Int × Int := l.getD j (0, 0)
theorem atL_get {l : List (Int × Int)} {j : Nat} (h : j < l.length) : atL l j = l[j] := by rw [atL, List.getD_eq_getElem?_getD, List.getElem?_eq_getElem h]; rfl
theorem atL_set {l : List (Int × Int)} {i j : Nat} (hj : j < l.length) (y : Int × Int) : atL (l.set i y) j = if i = j then y else atL l j := by
  unfold atL
  rw [List.getD_eq_getElem?_getD, List.getElem?_set, List.getD_eq_getElem?_getD]
  split
  · rename_i e
    subst e
    rw [if_pos hj]
    rfl
  · rfl
theorem mem_atL {l : List (Int × Int)} {w : Int × Int} : w ∈ l ↔ ∃ j, j < l.length ∧ atL l j = w := by
  constructor
  · intro h
    obtain ⟨j, hj, e⟩ := List.getElem_of_mem h
    exact ⟨j, hj, by rw [atL_get hj, e]⟩
  · rintro ⟨j, hj, rfl⟩
    rw [atL_get hj]
    exact List.getElem_mem hj
/-- where each stands, but the one that is in hand -/
structure IxH (l : List (Int × Int)) (ms : List (Int × Int)) (i : Nat) (y : Int × Int) : Prop where
  a : ∀ j, j < l.length → j ≠ i → sget ms (atL l j).1 = some (j : Int)
  b : ∀ id k, sget ms id = some k → id = y.1 ∨ ∃ j, j < l.length ∧ j ≠ i ∧ k = (j : Int) ∧ (atL l j).1 = id
  c : ∀ j, j < l.length → j ≠ i → (atL l j).1 ≠ y.1
structure IxOk (l : List (Int × Int)) (ms : List (Int × Int)) : Prop where
  a : ∀ j, j < l.length → sget ms (atL l j).1 = some (j : Int)
  b : ∀ id k, sget ms id = some k → ∃ j, j < l.length ∧ k = (j : Int) ∧ (atL l j).1 = id
def MemH (l : List (Int × Int)) (i : Nat) (y w : Int × Int) : Prop := w = y ∨ ∃ j, j < l.length ∧ j ≠ i ∧ atL l j = w
theorem IxH.move {l ms : List (Int × Int)} {i k : Nat} {y : Int × Int} (o : IxH l ms i y) (hi : i < l.length) (hk : k < l.length) (hne : k ≠ i) :
    IxH (l.set i (atL l k)) (sput ms (atL l k).1 i) k y ∧ ∀ w, MemH (l.set i (atL l k)) k y w ↔ MemH l i y w := by
  have hk1 := o.a k hk hne
  have dif : ∀ j, j < l.length → j ≠ i → j ≠ k → (atL l j).1 ≠ (atL l k).1 := fun j hj h1 h2 e => by
    have := o.a j hj h1
    rw [e, hk1] at this
    injection this with this
    omega
  refine ⟨⟨fun j hj hjk => ?_, fun id n h => ?_, fun j hj hjk => ?_⟩, fun w => ?_⟩
  · rw [List.length_set] at hj
    rw [atL_set hj, sput_get]
    by_cases q : i = j
    · subst q
      rw [if_pos rfl, if_pos rfl]
    · rw [if_neg q, if_neg (dif j hj (Ne.symm q) hjk)]
      exact o.a j hj (Ne.symm q)
  · rw [sput_get] at h
    by_cases q : id = (atL l k).1
    · rw [if_pos q] at h
      injection h with h
      exact .inr ⟨i, by rw [List.length_set]; exact hi, Ne.symm hne, h.symm, by rw [atL_set hi, if_pos rfl, q]⟩
    · rw [if_neg q] at h
      rcases o.b id n h with r | ⟨j, hj, h1, h2, h3⟩
      · exact .inl r
      · refine .inr ⟨j, by rw [List.length_set]; exact hj, fun e => q (by rw [← h3, e]), h2, ?_⟩
        rw [atL_set hj, if_neg (Ne.symm h1), h3]
  · rw [List.length_set] at hj
    rw [atL_set hj]
    by_cases q : i = j
    · rw [if_pos q]
      exact o.c k hk hne
    · rw [if_neg q]
      exact o.c j hj (Ne.symm q)
  · constructor
    · rintro (r | ⟨j, hj, h1, h2⟩)
      · exact .inl r
      · rw [List.length_set] at hj
        rw [atL_set hj] at h2
        by_cases q : i = j
        · rw [if_pos q] at h2
          exact .inr ⟨k, hk, hne, h2⟩
        · rw [if_neg q] at h2
          exact .inr ⟨j, hj, Ne.symm q, h2⟩
    · rintro (r | ⟨j, hj, h1, h2⟩)
      · exact .inl r
      · by_cases q : j = k
        · subst q
          exact .inr ⟨i, by rw [List.length_set]; exact hi, Ne.symm hne, by rw [atL_set hi, if_pos rfl, h2]⟩
        · exact .inr ⟨j, by rw [List.length_set]; exact hj, q, by rw [atL_set hj, if_neg (Ne.symm h1), h2]⟩
theorem IxH.done {l ms : List (Int × Int)} {i : Nat} {y : Int × Int} (o : IxH l ms i y) (hi : i < l.length) :
    IxOk (l.set i y) (sput ms y.1 i) ∧ ∀ w, w ∈ l.set i y ↔ MemH l i y w := by
  refine ⟨⟨fun j hj => ?_, fun id n h => ?_⟩, fun w => ?_⟩
  · rw [List.length_set] at hj
    rw [atL_set hj, sput_get]
    by_cases q : i = j
    · subst q
      rw [if_pos rfl, if_pos rfl]
    · rw [if_neg q, if_neg (o.c j hj (Ne.symm q))]
      exact o.a j hj (Ne.symm q)
  · rw [sput_get] at h
    by_cases q : id = y.1
    · rw [if_pos q] at h
      injection h with h
      exact ⟨i, by rw [List.length_set]; exact hi, h.symm, by rw [atL_set hi, if_pos rfl, q]⟩
    · rw [if_neg q] at h
      rcases o.b id n h with r | ⟨j, hj, h1, h2, h3⟩
      · exact absurd r q
      · exact ⟨j, by rw [List.length_set]; exact hj, h2, by rw [atL_set hj, if_neg (Ne.symm h1), h3]⟩
  · rw [mem_atL]
    constructor
    · rintro ⟨j, hj, h⟩
      rw [List.length_set] at hj
      rw [atL_set hj] at h
      by_cases q : i = j
      · rw [if_pos q] at h
        exact .inl h.symm
      · rw [if_neg q] at h
        exact .inr ⟨j, hj, Ne.symm q, h⟩
    · rintro (r | ⟨j, hj, h1, h2⟩)
      · exact ⟨i, by rw [List.length_set]; exact hi, by rw [atL_set hi, if_pos rfl, r]⟩
      · exact ⟨j, by rw [List.length_set]; exact hj, by rw [atL_set hj, if_neg (Ne.symm h1), h2]⟩
theorem memH_self {l : List (Int × Int)} {i : Nat} (hi : i < l.length) (w : Int × Int) : MemH l i (atL l i) w ↔ w ∈ l := by
  rw [mem_atL]
  constructor
  · rintro (r | ⟨j, hj, _, h⟩)
    · exact ⟨i, hi, r.symm⟩
    · exact ⟨j, hj, h⟩
  · rintro ⟨j, hj, h⟩
    by_cases q : j = i
    · exact .inl (by rw [← h, q])
    · exact .inr ⟨j, hj, q, h⟩
def mdF (p : Option (Nat × Nat)) (mi : Nat) : Nat → Prop := fun i => i = mi ∨ inSl p i
structure HoleI (h hh : H) (x : Nat) (p : Option (Nat × Nat)) (mi b : Nat) (y : Int × Int) (l0 : List (Int × Int)) (i : Nat) (l ms : List (Int × Int)) : Prop where
  r : HpR hh x p mi l ms
  lt : i < l.length
  len : l.length = l0.length
  ix : IxH l ms i y
  mem : ∀ w, MemH l i y w ↔ w ∈ l0
  box : hh.obj b = some (.row true 2 (pC y))
  nb : ¬ hpF x p mi b
  md : Ab.Mod (mdF p mi) h hh
theorem HoleI.keep {h hh h' : H} {x : Nat} {p : Option (Nat × Nat)} {mi b : Nat} {y : Int × Int} {l0 : List (Int × Int)} {i : Nat} {l ms : List (Int × Int)} (o : HoleI h hh x p mi b y l0 i l ms) (m : Ab.Mod none_ hh h') : HoleI h h' x p mi b y l0 i l ms :=
  ⟨o.r.keep m, o.lt, o.len, o.ix, o.mem, m.get o.box (.inl fun k => k), o.nb, o.md.trans' m (fun _ _ k => k) (fun _ _ k => False.elim k)⟩
theorem HoleI.move {h hh h' : H} {x : Nat} {p : Option (Nat × Nat)} {mi b : Nat} {y : Int × Int} {l0 : List (Int × Int)} {i k : Nat} {l ms : List (Int × Int)} (o : HoleI h hh x p mi b y l0 i l ms) (hk : k < l.length) (hne : k ≠ i) (r' : HpR h' x p mi (l.set i (atL l k)) (sput ms (atL l k).1 i)) (m : Ab.Mod (mdF p mi) hh h') :
    HoleI h h' x p mi b y l0 k (l.set i (atL l k)) (sput ms (atL l k).1 i) := by
  obtain ⟨a, c⟩ := o.ix.move o.lt hk hne
  exact ⟨r', by rw [List.length_set]; exact hk, by rw [List.length_set]; exact o.len, a, fun w => (c w).trans (o.mem w), m.get o.box (.inl fun q => o.nb (.inr q)), o.nb, o.md.trans' m (fun _ _ k => k) (fun _ _ k => k)⟩
/-- what a rise, or a fall, leaves -/
def HeapQ (h : H) (x : Nat) (p : Option (Nat × Nat)) (mi : Nat) (l0 : List (Int × Int)) (r : V) (h' : H) : Prop := r = .tup [] ∧ (∃ l ms, HpR h' x p mi l ms ∧ l.length = l0.length ∧ IxOk l ms ∧ ∀ w, w ∈ l ↔ w ∈ l0) ∧ Ab.Mod (mdF p mi) h h'
set_option maxHeartbeats 1000000 in
theorem heapUp {h : H} {x : Nat} {p : Option (Nat × Nat)} {mi : Nat} {l ms : List (Int × Int)} (s : HpR h x p mi l ms) (hl : l.length ≤ 100000) {i : Nat} (hi : i < l.length) (ix : IxH l ms i (atL l i)) :
    ACalls Tryz.prog 107 [.ptr (some (x, 0)), i64 i] h (HeapQ h x p mi l) := by
  refine call_ Tryz.func107 rfl rfl (by kernel_rfl) ?_
  conv => whnf
  refine ⟨_, Cell.mk s.box rfl, ?_⟩
  conv => whnf
  obtain ⟨i1, c, e1, k1, k2⟩ := sls_get pC_len s.sl.weak rfl hi
  refine ⟨i1, c, i, e1, rfl, hi, ?_⟩
  conv => whnf
  refine ⟨_, k1, ?_⟩
  conv => whnf
  rw [← atL_get hi]
  obtain ⟨g0, gx, mx⟩ := lay_row (h := h) (sz := 2) [i64 0, i64 0] (pC (atL l i))
  refine ⟨_, _, g0, Nat.le_of_ble_eq_true rfl, ?_⟩
  have o0 : HoleI h _ x p mi h.next (atL l i) l i l ms := ⟨s.keep mx, hi, rfl, ix, memH_self hi, gx, fun k => absurd (s.lt k) (Nat.lt_irrefl _), mx.trans' (Mod.refl _ _) (fun _ _ k => False.elim k) (fun _ _ k => k)⟩
  conv => whnf
  refine ⟨fun env hh => ∃ (j : Nat) (z : Int) (l' ms' : List (Int × Int)), z = j ∧ HoleI h hh x p mi h.next (atL l i) l j l' ms' ∧ env = [(1, i64 z), (4, .ptr (some (h.next, 0))), (0, .ptr (some (x, 0)))],
    fun env _ => match get env 1 with
      | .int _ z => z.toNat
      | _ => 0, ⟨_, Forget.cons rfl (Forget.cons rfl (Forget.cons rfl (Forget.nil _))), i, _, _, _, rfl, o0, rfl⟩, ?_⟩
  clear o0 g0 gx mx k1 k2
  rintro _ hh ⟨j, z, l', ms', rfl, o, rfl⟩
  conv => whnf
  have oj := o.lt
  have ol := o.len
  refine ⟨[0, 1, 2, 3, 4, 5, 6, 7, 8, 9, 10, 11, 12, 13, 14], [0, 1, 3, 7, 7, 23, 55, 119, 7, 263, 775, 2039, 4087, 8191, 16383], by kernel_rfl, ?_⟩
  conv => whnf
  refine br_mk (fun ha => ?_) (fun ha => ?_)
  · conv => whnf
    have ha : 0 < j := by simpa using ha
    refine ⟨_, Cells.mk o.box (Nat.le_of_ble_eq_true rfl) rfl, ?_⟩
    conv => whnf
    refine ⟨_, Cell.mk o.r.box rfl, ?_⟩
    conv => whnf
    refine ⟨by decide, ?_⟩
    conv => whnf
    have hp : IntKind.i64.wrap ((IntKind.i64.wrap ((j : Int) - 1)).tdiv 2) = (((j - 1) / 2 : Nat) : Int) := by
      rw [wrap_i64 (x := (j : Int) - 1) (by omega) (by omega), Int.tdiv_eq_ediv_of_nonneg (by omega), wrap_i64 (by omega) (by omega)]
      omega
    have hpl : (j - 1) / 2 < l'.length := by omega
    obtain ⟨i1, c, e1, k1, k2⟩ := sls_get pC_len o.r.sl.weak rfl hpl
    refine ⟨i1, c, (j - 1) / 2, e1, hp, hpl, ?_⟩
    conv => whnf
    refine ⟨_, k1, ?_⟩
    conv => whnf
    refine (ahead119 hh (atL l i) l'[(j - 1) / 2]).mono ?_
    rintro _ h3 ⟨rfl, m3⟩
    have o := o.keep m3
    clear k1 k2 m3
    conv => whnf
    refine br_mk (fun hb => ?_) (fun hb => ?_)
    · conv => whnf
      refine ⟨_, Cell.mk o.r.box rfl, ?_⟩
      conv => whnf
      refine ⟨by decide, ?_⟩
      conv => whnf
      obtain ⟨i1, c, e1, k1, k2⟩ := sls_get pC_len o.r.sl.weak rfl hpl
      refine ⟨i1, c, (j - 1) / 2, e1, hp, hpl, ?_⟩
      conv => whnf
      refine ⟨_, k1, ?_⟩
      conv => whnf
      rw [← atL_get hpl]
      refine (heapSet o.r oj (atL l' ((j - 1) / 2))).mono ?_
      rintro _ h4 ⟨rfl, r4, m4⟩
      have o := o.move hpl (by omega) r4 m4
      conv => whnf
      refine ⟨by decide, ?_⟩
      conv => whnf
      refine ⟨_, Forget.cons rfl (Forget.cons rfl (Forget.cons rfl (Forget.nil _))), ⟨(j - 1) / 2, _, _, _, hp, o, rfl⟩, ?_⟩
      show (IntKind.i64.wrap ((IntKind.i64.wrap ((j : Int) - 1)).tdiv 2)).toNat < (j : Int).toNat
      rw [hp]
      omega
    · conv => whnf
      refine ⟨_, Cells.mk o.box (Nat.le_of_ble_eq_true rfl) rfl, ?_⟩
      conv => whnf
      refine (heapSet o.r oj (atL l i)).mono ?_
      rintro _ h9 ⟨rfl, r9, m9⟩
      conv => whnf
      obtain ⟨d1, d2⟩ := o.ix.done oj
      exact ⟨rfl, ⟨_, _, r9, by rw [List.length_set]; exact ol, d1, fun w => (d2 w).trans (o.mem w)⟩, o.md.trans' m9 (fun _ _ k => k) (fun _ _ k => k)⟩
  · conv => whnf
    refine ⟨_, Cells.mk o.box (Nat.le_of_ble_eq_true rfl) rfl, ?_⟩
    conv => whnf
    refine (heapSet o.r oj (atL l i)).mono ?_
    rintro _ h9 ⟨rfl, r9, m9⟩
    conv => whnf
    obtain ⟨d1, d2⟩ := o.ix.done oj
    exact ⟨rfl, ⟨_, _, r9, by rw [List.length_set]; exact ol, d1, fun w => (d2 w).trans (o.mem w)⟩, o.md.trans' m9 (fun _ _ k => k) (fun _ _ k => k)⟩
set_option maxHeartbeats 2000000 in
theorem heapDown {h : H} {x : Nat} {p : Option (Nat × Nat)} {mi : Nat} {l ms : List (Int × Int)} (s : HpR h x p mi l ms) (hl : l.length ≤ 100000) {i : Nat} (hi : i < l.length) (ix : IxH l ms i (atL l i)) :
    ACalls Tryz.prog 108 [.ptr (some (x, 0)), i64 i] h (HeapQ h x p mi l) := by
  refine call_ Tryz.func108 rfl rfl (by kernel_rfl) ?_
  conv => whnf
  refine ⟨_, Cell.mk s.box rfl, ?_⟩
  conv => whnf
  obtain ⟨i1, c, e1, k1, k2⟩ := sls_get pC_len s.sl.weak rfl hi
  refine ⟨i1, c, i, e1, rfl, hi, ?_⟩
  conv => whnf
  refine ⟨_, k1, ?_⟩
  conv => whnf
  rw [← atL_get hi]
  obtain ⟨g0, gx, mx⟩ := lay_row (h := h) (sz := 2) [i64 0, i64 0] (pC (atL l i))
  refine ⟨_, _, g0, Nat.le_of_ble_eq_true rfl, ?_⟩
  have o0 : HoleI h _ x p mi h.next (atL l i) l i l ms := ⟨s.keep mx, hi, rfl, ix, memH_self hi, gx, fun k => absurd (s.lt k) (Nat.lt_irrefl _), mx.trans' (Mod.refl _ _) (fun _ _ k => False.elim k) (fun _ _ k => k)⟩
  conv => whnf
  refine ⟨fun env hh => ∃ (j : Nat) (z : Int) (l' ms' : List (Int × Int)), z = j ∧ HoleI h hh x p mi h.next (atL l i) l j l' ms' ∧ env = [(1, i64 z), (4, .ptr (some (h.next, 0))), (0, .ptr (some (x, 0)))],
    fun env _ => match get env 1 with
      | .int _ z => (l.length - z).toNat
      | _ => 0, ⟨_, Forget.cons rfl (Forget.cons rfl (Forget.cons rfl (Forget.nil _))), i, _, _, _, rfl, o0, rfl⟩, ?_⟩
  clear o0 g0 gx mx k1 k2
  rintro _ hh ⟨j, z, l', ms', rfl, o, rfl⟩
  conv => whnf
  have oj := o.lt
  have ol := o.len
  have e1 : IntKind.i64.wrap (IntKind.i64.wrap (2 * (j : Int)) + 1) = ((2 * j + 1 : Nat) : Int) := by
    rw [wrap_i64 (x := 2 * (j : Int)) (by omega) (by omega), wrap_i64 (by omega) (by omega)]
    omega
  have e2 : IntKind.i64.wrap (((2 * j + 1 : Nat) : Int) + 1) = ((2 * j + 2 : Nat) : Int) := by
    rw [wrap_i64 (by omega) (by omega)]
    omega
  rw [e1]
  refine ⟨[0, 1, 2, 3, 4, 5, 6, 7, 8, 9, 10, 11, 12, 13, 14, 15, 16, 17, 18, 19, 20, 21, 22, 23, 24, 25], [0, 1, 0, 4, 12, 28, 60, 127, 255, 511, 1023, 2047, 4095, 511, 8703, 32767, 65535, 511, 131583, 393727, 918015, 511, 4063743, 8258047, 16777215, 33554431], by kernel_rfl, ?_⟩
  conv => whnf
  rw [e2]
  refine ⟨_, Cell.mk o.r.box rfl, ?_⟩
  conv => whnf
  refine br_mk (fun ha => ?_) (fun ha => ?_)
  · have ha : 2 * j + 2 < l'.length := by
      have ha : ((2 * j + 2 : Nat) : Int) < (l'.length : Int) := by simpa using ha
      omega
    conv => whnf
    refine ⟨_, Cell.mk o.r.box rfl, ?_⟩
    conv => whnf
    obtain ⟨i1, c, e3, k1, k2⟩ := sls_get pC_len o.r.sl.weak rfl ha
    refine ⟨i1, c, 2 * j + 2, e3, e2, ha, ?_⟩
    conv => whnf
    refine ⟨_, k1, ?_⟩
    conv => whnf
    refine ⟨_, Cell.mk o.r.box rfl, ?_⟩
    conv => whnf
    obtain ⟨i1, c, e3, k3, k4⟩ := sls_get pC_len o.r.sl.weak rfl (show 2 * j + 1 < l'.length by omega)
    refine ⟨i1, c, 2 * j + 1, e3, rfl, by omega, ?_⟩
    conv => whnf
    refine ⟨_, k3, ?_⟩
    conv => whnf
    refine (ahead119 hh l'[2 * j + 2] l'[2 * j + 1]).mono ?_
    rintro _ h3 ⟨rfl, m3⟩
    have o := o.keep m3
    clear k1 k2 k3 k4 m3
    conv => whnf
    refine br_mk (fun hb => ?_) (fun hb => ?_)
    · conv => whnf
      rw [e2]
      refine ⟨[0, 1, 2, 3, 4, 5, 6, 7, 8, 9, 10, 11, 12, 13, 14, 15, 16, 17, 18], [0, 0, 2, 6, 14, 30, 63, 127, 255, 511, 1023, 2047, 255, 8191, 16383, 255, 65535, 131071, 262143], by kernel_rfl, ?_⟩
      conv => whnf
      refine ⟨_, Cell.mk o.r.box rfl, ?_⟩
      conv => whnf
      refine br_mk (fun hd => ?_) (fun hd => ?_)
      · conv => whnf
        refine ⟨_, Cells.mk o.box (Nat.le_of_ble_eq_true rfl) rfl, ?_⟩
        conv => whnf
        refine (heapSet o.r oj (atL l i)).mono ?_
        rintro _ h9 ⟨rfl, r9, m9⟩
        conv => whnf
        obtain ⟨d1, d2⟩ := o.ix.done oj
        exact ⟨rfl, ⟨_, _, r9, by rw [List.length_set]; exact ol, d1, fun w => (d2 w).trans (o.mem w)⟩, o.md.trans' m9 (fun _ _ k => k) (fun _ _ k => k)⟩
      have hd : 2 * j + 2 < l'.length := by
        have hd : ¬ (l'.length : Int) ≤ ((2 * j + 2 : Nat) : Int) := by simpa using hd
        omega
      conv => whnf
      refine ⟨_, Cell.mk o.r.box rfl, ?_⟩
      conv => whnf
      obtain ⟨i1, c, e5, k1, k2⟩ := sls_get pC_len o.r.sl.weak rfl hd
      refine ⟨i1, c, 2 * j + 2, e5, rfl, hd, ?_⟩
      conv => whnf
      refine ⟨_, k1, ?_⟩
      conv => whnf
      refine ⟨_, Cells.mk o.box (Nat.le_of_ble_eq_true rfl) rfl, ?_⟩
      conv => whnf
      refine (ahead119 _ l'[2 * j + 2] (atL l i)).mono ?_
      rintro _ h5 ⟨rfl, m5⟩
      have o := o.keep m5
      clear k1 k2 m5
      conv => whnf
      refine br_mk (fun he => ?_) (fun he => ?_)
      · conv => whnf
        refine ⟨_, Cells.mk o.box (Nat.le_of_ble_eq_true rfl) rfl, ?_⟩
        conv => whnf
        refine (heapSet o.r oj (atL l i)).mono ?_
        rintro _ h9 ⟨rfl, r9, m9⟩
        conv => whnf
        obtain ⟨d1, d2⟩ := o.ix.done oj
        exact ⟨rfl, ⟨_, _, r9, by rw [List.length_set]; exact ol, d1, fun w => (d2 w).trans (o.mem w)⟩, o.md.trans' m9 (fun _ _ k => k) (fun _ _ k => k)⟩
      conv => whnf
      refine ⟨_, Cell.mk o.r.box rfl, ?_⟩
      conv => whnf
      obtain ⟨i1, c, e5, k1, k2⟩ := sls_get pC_len o.r.sl.weak rfl hd
      refine ⟨i1, c, 2 * j + 2, e5, rfl, hd, ?_⟩
      conv => whnf
      refine ⟨_, k1, ?_⟩
      conv => whnf
      rw [← atL_get hd]
      refine (heapSet o.r oj (atL l' (2 * j + 2))).mono ?_
      rintro _ h6 ⟨rfl, r6, m6⟩
      have o := o.move hd (by omega) r6 m6
      conv => whnf
      refine ⟨_, Forget.cons rfl (Forget.cons rfl (Forget.cons rfl (Forget.nil _))), ⟨2 * j + 2, _, _, _, rfl, o, rfl⟩, ?_⟩
      show ((l.length : Int) - ((2 * j + 2 : Nat) : Int)).toNat < ((l.length : Int) - (j : Int)).toNat
      omega
    · conv => whnf
      refine ⟨[0, 1, 2, 3, 4, 5, 6, 7, 8, 9, 10, 11, 12, 13, 14, 15, 16, 17, 18], [0, 0, 2, 6, 14, 30, 63, 127, 255, 511, 1023, 2047, 255, 8191, 16383, 255, 65535, 131071, 262143], by kernel_rfl, ?_⟩
      conv => whnf
      refine ⟨_, Cell.mk o.r.box rfl, ?_⟩
      conv => whnf
      refine br_mk (fun hd => ?_) (fun hd => ?_)
      · conv => whnf
        refine ⟨_, Cells.mk o.box (Nat.le_of_ble_eq_true rfl) rfl, ?_⟩
        conv => whnf
        refine (heapSet o.r oj (atL l i)).mono ?_
        rintro _ h9 ⟨rfl, r9, m9⟩
        conv => whnf
        obtain ⟨d1, d2⟩ := o.ix.done oj
        exact ⟨rfl, ⟨_, _, r9, by rw [List.length_set]; exact ol, d1, fun w => (d2 w).trans (o.mem w)⟩, o.md.trans' m9 (fun _ _ k => k) (fun _ _ k => k)⟩
      have hd : 2 * j + 1 < l'.length := by
        have hd : ¬ (l'.length : Int) ≤ ((2 * j + 1 : Nat) : Int) := by simpa using hd
        omega
      conv => whnf
      refine ⟨_, Cell.mk o.r.box rfl, ?_⟩
      conv => whnf
      obtain ⟨i1, c, e5, k1, k2⟩ := sls_get pC_len o.r.sl.weak rfl hd
      refine ⟨i1, c, 2 * j + 1, e5, rfl, hd, ?_⟩
      conv => whnf
      refine ⟨_, k1, ?_⟩
      conv => whnf
      refine ⟨_, Cells.mk o.box (Nat.le_of_ble_eq_true rfl) rfl, ?_⟩
      conv => whnf
      refine (ahead119 _ l'[2 * j + 1] (atL l i)).mono ?_
      rintro _ h5 ⟨rfl, m5⟩
      have o := o.keep m5
      clear k1 k2 m5
      conv => whnf
      refine br_mk (fun he => ?_) (fun he => ?_)
      · conv => whnf
        refine ⟨_, Cells.mk o.box (Nat.le_of_ble_eq_true rfl) rfl, ?_⟩
        conv => whnf
        refine (heapSet o.r oj (atL l i)).mono ?_
        rintro _ h9 ⟨rfl, r9, m9⟩
        conv => whnf
        obtain ⟨d1, d2⟩ := o.ix.done oj
        exact ⟨rfl, ⟨_, _, r9, by rw [List.length_set]; exact ol, d1, fun w => (d2 w).trans (o.mem w)⟩, o.md.trans' m9 (fun _ _ k => k) (fun _ _ k => k)⟩
      conv => whnf
      refine ⟨_, Cell.mk o.r.box rfl, ?_⟩
      conv => whnf
      obtain ⟨i1, c, e5, k1, k2⟩ := sls_get pC_len o.r.sl.weak rfl hd
      refine ⟨i1, c, 2 * j + 1, e5, rfl, hd, ?_⟩
      conv => whnf
      refine ⟨_, k1, ?_⟩
      conv => whnf
      rw [← atL_get hd]
      refine (heapSet o.r oj (atL l' (2 * j + 1))).mono ?_
      rintro _ h6 ⟨rfl, r6, m6⟩
      have o := o.move hd (by omega) r6 m6
      conv => whnf
      refine ⟨_, Forget.cons rfl (Forget.cons rfl (Forget.cons rfl (Forget.nil _))), ⟨2 * j + 1, _, _, _, rfl, o, rfl⟩, ?_⟩
      show ((l.length : Int) - ((2 * j + 1 : Nat) : Int)).toNat < ((l.length : Int) - (j : Int)).toNat
      omega
  · conv => whnf
    refine ⟨[0, 1, 2, 3, 4, 5, 6, 7, 8, 9, 10, 11, 12, 13, 14, 15, 16, 17, 18], [0, 0, 2, 6, 14, 30, 63, 127, 255, 511, 1023, 2047, 255, 8191, 16383, 255, 65535, 131071, 262143], by kernel_rfl, ?_⟩
    conv => whnf
    refine ⟨_, Cell.mk o.r.box rfl, ?_⟩
    conv => whnf
    refine br_mk (fun hd => ?_) (fun hd => ?_)
    · conv => whnf
      refine ⟨_, Cells.mk o.box (Nat.le_of_ble_eq_true rfl) rfl, ?_⟩
      conv => whnf
      refine (heapSet o.r oj (atL l i)).mono ?_
      rintro _ h9 ⟨rfl, r9, m9⟩
      conv => whnf
      obtain ⟨d1, d2⟩ := o.ix.done oj
      exact ⟨rfl, ⟨_, _, r9, by rw [List.length_set]; exact ol, d1, fun w => (d2 w).trans (o.mem w)⟩, o.md.trans' m9 (fun _ _ k => k) (fun _ _ k => k)⟩
    have hd : 2 * j + 1 < l'.length := by
      have hd : ¬ (l'.length : Int) ≤ ((2 * j + 1 : Nat) : Int) := by simpa using hd
      omega
    conv => whnf
    refine ⟨_, Cell.mk o.r.box rfl, ?_⟩
    conv => whnf
    obtain ⟨i1, c, e5, k1, k2⟩ := sls_get pC_len o.r.sl.weak rfl hd
    refine ⟨i1, c, 2 * j + 1, e5, rfl, hd, ?_⟩
    conv => whnf
    refine ⟨_, k1, ?_⟩
    conv => whnf
    refine ⟨_, Cells.mk o.box (Nat.le_of_ble_eq_true rfl) rfl, ?_⟩
    conv => whnf
    refine (ahead119 _ l'[2 * j + 1] (atL l i)).mono ?_
    rintro _ h5 ⟨rfl, m5⟩
    have o := o.keep m5
    clear k1 k2 m5
    conv => whnf
    refine br_mk (fun he => ?_) (fun he => ?_)
    · conv => whnf
      refine ⟨_, Cells.mk o.box (Nat.le_of_ble_eq_true rfl) rfl, ?_⟩
      conv => whnf
      refine (heapSet o.r oj (atL l i)).mono ?_
      rintro _ h9 ⟨rfl, r9, m9⟩
      conv => whnf
      obtain ⟨d1, d2⟩ := o.ix.done oj
      exact ⟨rfl, ⟨_, _, r9, by rw [List.length_set]; exact ol, d1, fun w => (d2 w).trans (o.mem w)⟩, o.md.trans' m9 (fun _ _ k => k) (fun _ _ k => k)⟩
    conv => whnf
    refine ⟨_, Cell.mk o.r.box rfl, ?_⟩
    conv => whnf
    obtain ⟨i1, c, e5, k1, k2⟩ := sls_get pC_len o.r.sl.weak rfl hd
    refine ⟨i1, c, 2 * j + 1, e5, rfl, hd, ?_⟩
    conv => whnf
    refine ⟨_, k1, ?_⟩
    conv => whnf
    rw [← atL_get hd]
    refine (heapSet o.r oj (atL l' (2 * j + 1))).mono ?_
    rintro _ h6 ⟨rfl, r6, m6⟩
    have o := o.move hd (by omega) r6 m6
    conv => whnf
    refine ⟨_, Forget.cons rfl (Forget.cons rfl (Forget.cons rfl (Forget.nil _))), ⟨2 * j + 1, _, _, _, rfl, o, rfl⟩, ?_⟩
    show ((l.length : Int) - ((2 * j + 1 : Nat) : Int)).toNat < ((l.length : Int) - (j : Int)).toNat
    omega
end Go.Proofs.YteapijoibimfnaaGreat
/-! The heap: Push. -/
namespace Go.Proofs.YteapijoibimfnaaGreat
open Go Go.Ab
theorem IxOk.uniq {l ms : List (Int × Int)} (o : IxOk l ms) {j k : Nat} (hj : j < l.length) (hk : k < l.length) (e : (atL l j).1 = (atL l k).1) : j = k := by
  have h1 := o.a j hj
  rw [e, o.a k hk] at h1
  injection h1 with h1
  omega
theorem atL_app {l : List (Int × Int)} {y : Int × Int} {j : Nat} (hj : j < l.length) : atL (l ++ [y]) j = atL l j := by
  unfold atL
  rw [List.getD_eq_getElem?_getD, List.getElem?_append_left hj, List.getD_eq_getElem?_getD]
theorem atL_last (l : List (Int × Int)) (y : Int × Int) : atL (l ++ [y]) l.length = y := by
  unfold atL
  rw [List.getD_eq_getElem?_getD, List.getElem?_append_right (Nat.le_refl _)]
  simp
theorem IxOk.mem {l ms : List (Int × Int)} (o : IxOk l ms) {id k : Int} (h : (id, k) ∈ l) : ∃ j, j < l.length ∧ atL l j = (id, k) ∧ sget ms id = some (j : Int) := by
  obtain ⟨j, hj, e⟩ := mem_atL.1 h
  refine ⟨j, hj, e, ?_⟩
  have := o.a j hj
  rwa [e] at this
theorem IxOk.no {l ms : List (Int × Int)} (o : IxOk l ms) {id : Int} (h : sget ms id = none) : ∀ w ∈ l, w.1 ≠ id := fun w hw e => by
  obtain ⟨a, b⟩ := w
  obtain ⟨j, _, _, hj⟩ := o.mem hw
  rw [show a = id from e, h] at hj
  cases hj
theorem IxOk.hole_app {l ms : List (Int × Int)} (o : IxOk l ms) {y : Int × Int} (h : sget ms y.1 = none) : IxH (l ++ [y]) ms l.length y := by
  refine ⟨fun j hj hn => ?_, fun id k hk => ?_, fun j hj hn => ?_⟩
  · rw [List.length_append, List.length_singleton] at hj
    rw [atL_app (by omega)]
    exact o.a j (by omega)
  · obtain ⟨j, hj, h1, h2⟩ := o.b id k hk
    exact .inr ⟨j, by rw [List.length_append]; omega, by omega, h1, by rw [atL_app hj, h2]⟩
  · rw [List.length_append, List.length_singleton] at hj
    rw [atL_app (by omega)]
    exact o.no h _ (by rw [atL_get (show j < l.length by omega)]; exact List.getElem_mem _)
theorem IxOk.hole_set {l ms : List (Int × Int)} (o : IxOk l ms) {j : Nat} (hj : j < l.length) (key : Int) : IxH (l.set j ((atL l j).1, key)) ms j ((atL l j).1, key) := by
  refine ⟨fun i hi hn => ?_, fun id k hk => ?_, fun i hi hn => ?_⟩
  · rw [List.length_set] at hi
    rw [atL_set hi, if_neg (Ne.symm hn)]
    exact o.a i hi
  · obtain ⟨i, hi, h1, h2⟩ := o.b id k hk
    by_cases q : i = j
    · subst q
      exact .inl h2.symm
    · exact .inr ⟨i, by rw [List.length_set]; exact hi, q, h1, by rw [atL_set hi, if_neg (Ne.symm q), h2]⟩
  · rw [List.length_set] at hi
    rw [atL_set hi, if_neg (Ne.symm hn)]
    exact fun e => hn (o.uniq hi hj e)
def HpS (h : H) (x : Nat) (F : Nat → Prop) (L : List (Int × Int)) : Prop :=
  (F = one x ∧ L = [] ∧ h.obj x = some (.row true 2 [.sl none 0, .mp none])) ∨ ∃ p mi ms, F = hpF x p mi ∧ HpR h x p mi L ms ∧ IxOk L ms
theorem HpS.get {S : Nat → Prop} {h h' : H} {x : Nat} {F : Nat → Prop} {L : List (Int × Int)} (s : HpS h x F L) (m : Ab.Mod S h h') (hS : ∀ i, F i → ¬ S i) : HpS h' x F L := by
  rcases s with ⟨rfl, rfl, b⟩ | ⟨p, mi, ms, rfl, r, o⟩
  · exact .inl ⟨rfl, rfl, m.get b (.inl (hS x rfl))⟩
  · exact .inr ⟨p, mi, ms, rfl, r.get m hS, o⟩
theorem HpS.lt {h : H} {x : Nat} {F : Nat → Prop} {L : List (Int × Int)} (s : HpS h x F L) {i : Nat} (hi : F i) : i < h.next := by
  rcases s with ⟨rfl, rfl, b⟩ | ⟨p, mi, ms, rfl, r, o⟩
  · have hi : i = x := hi
    rw [hi]
    exact H.lt _ _ _ b
  · exact r.lt hi
def PushQ (h : H) (x : Nat) (F : Nat → Prop) (L : List (Int × Int)) (id key : Int) (r : V) (h' : H) : Prop :=
  (∃ b, r = .bool b) ∧ (∃ F' L', HpS h' x F' L' ∧ (∀ i, F' i → F i ∨ h.next ≤ i) ∧ HPush L id key L' ∧ L'.length ≤ L.length + 1) ∧ Ab.Mod F h h'
theorem push_set {l l' ms : List (Int × Int)} (o : IxOk l ms) {j : Nat} (hj : j < l.length) {id key : Int} (hid : (atL l j).1 = id) (hk : key < (atL l j).2) (hm : ∀ w, w ∈ l' ↔ w ∈ l.set j (id, key)) : HPush l id key l' := by
  refine .inr ⟨fun k0 h0 => ?_, fun y => ?_⟩
  · obtain ⟨i, hi, e, _⟩ := o.mem h0
    have : i = j := o.uniq hi hj (by rw [e, hid])
    subst this
    rw [e] at hk
    exact hk
  · rw [hm, mem_atL]
    constructor
    · rintro ⟨i, hi, e⟩
      rw [List.length_set] at hi
      rw [atL_set hi] at e
      by_cases q : j = i
      · rw [if_pos q] at e
        exact .inl e.symm
      · rw [if_neg q] at e
        refine .inr ⟨mem_atL.2 ⟨i, hi, e⟩, fun r => q ?_⟩
        exact (o.uniq hi hj (by rw [e, r, hid])).symm
    · rintro (rfl | ⟨h1, h2⟩)
      · exact ⟨j, by rw [List.length_set]; exact hj, by rw [atL_set hj, if_pos rfl]⟩
      · obtain ⟨i, hi, e⟩ := mem_atL.1 h1
        refine ⟨i, by rw [List.length_set]; exact hi, ?_⟩
        rw [atL_set hi, if_neg (fun q => h2 (by rw [← e, ← q, hid])), e]
theorem push_app {l l' ms : List (Int × Int)} (o : IxOk l ms) {id key : Int} (h : sget ms id = none) (hm : ∀ w, w ∈ l' ↔ w ∈ l ++ [(id, key)]) : HPush l id key l' := by
  refine .inr ⟨fun k0 h0 => absurd rfl (o.no h _ h0), fun y => ?_⟩
  rw [hm, List.mem_append, List.mem_singleton]
  constructor
  · rintro (r | r)
    · exact .inr ⟨r, o.no h y r⟩
    · exact .inl r
  · rintro (r | r)
    · exact .inr r
    · exact .inl r.1
theorem iC_two (id key : Int) : Obj.row true (T.at_ 176).size (splice (zerosV 1 (vcells (T.at_ 176).zero)) (0 * (T.at_ 176).size) (vcells (V.agg [i64 id, i64 key]))) = .row true 2 (pC (id, key)) := rfl
theorem HpR.app {hh h' : H} {x : Nat} {p p' : Option (Nat × Nat)} {mi : Nat} {l ms : List (Int × Int)} {y : Int × Int} (s : HpR hh x p mi l ms) (hs : SlIs h' p' (l.length + 1) true 2 (l.flatMap pC ++ pC y)) (hm : Ab.Mod (inSl p) hh h') (hf : isFresh hh p p') :
    ∃ _ : h'.obj x = some (.row true 2 [.sl p l.length, .mp (some mi)]), HpR (h'.set x (.row true 2 [.sl p' (l.length + 1 : Nat), .mp (some mi)])) x p' mi (l ++ [y]) ms ∧ Ab.Mod (hpF x p mi) hh (h'.set x (.row true 2 [.sl p' (l.length + 1 : Nat), .mp (some mi)])) ∧ ∀ i, inSl p' i → inSl p i ∨ hh.next ≤ i := by
  have gx : h'.obj x = _ := hm.get s.box (.inl fun k => (s.sep x k).1 rfl)
  have gm : h'.obj mi = _ := hm.get s.mp (.inl fun k => (s.sep mi k).2 rfl)
  have ms1 := Mod.set (S := one x) (ob := .row true 2 [.sl p' (l.length + 1 : Nat), .mp (some mi)]) rfl gx rfl
  have hp' : ∀ i, inSl p' i → inSl p i ∨ hh.next ≤ i := fun i ⟨o, e⟩ => (hf i o e).imp (fun q => ⟨o, by rw [← q, e]⟩) id
  have hx := s.lt (i := x) (.inl rfl)
  have hmi := s.lt (i := mi) (.inr (.inl rfl))
  have sp : ∀ i, inSl p' i → i ≠ x ∧ i ≠ mi := fun i hi => (hp' i hi).elim (s.sep i) fun k => ⟨by omega, by omega⟩
  refine ⟨gx, ⟨by rw [List.length_append]; exact H.obj_set_same gx, ?_, ms1.get gm (.inl fun k => s.ne (Eq.symm k)), s.nd, sp⟩, hm.trans' ms1 (fun _ _ k => .inr (.inr k)) (fun _ _ k => .inl k), hp'⟩
  rw [List.length_append, List.flatMap_append, List.flatMap_singleton]
  exact hs.get ms1 fun i o e => .inl fun k => (sp i ⟨o, e⟩).1 k
theorem HpR.key {hh : H} {x : Nat} {p : Option (Nat × Nat)} {mi : Nat} {l ms : List (Int × Int)} (s : HpR hh x p mi l ms) {j : Nat} (hj : j < l.length) (k : Int) :
    ∃ i c cs, p = some (i, c) ∧ hh.obj i = some (.row true 2 cs) ∧ c + j * 2 + 2 ≤ cs.length ∧ HpR (hh.set i (.row true 2 (splice cs (c + j * 2 + 1) [i64 k]))) x p mi (l.set j ((atL l j).1, k)) ms ∧ Ab.Mod (inSl p) hh (hh.set i (.row true 2 (splice cs (c + j * 2 + 1) [i64 k]))) := by
  obtain ⟨i, c, cs, e1, e2, e3, e4⟩ := own_key2 s.sl hj rfl k
  have hi := s.sep i ⟨c, e1⟩
  have ms1 := Mod.set (S := one i) (ob := .row true 2 (splice cs (c + j * 2 + 1) [i64 k])) rfl e2 rfl
  refine ⟨i, c, cs, e1, e2, e3, ⟨?_, ?_, ms1.get s.mp (.inl fun q => hi.2 (Eq.symm q)), s.nd, s.sep⟩, (Mod.refl (inSl p) hh).trans' ms1 (fun _ _ q => q) (fun i' _ q => ?_)⟩
  · rw [List.length_set]
    exact ms1.get s.box (.inl fun q => hi.1 (Eq.symm q))
  · rw [List.length_set]
    exact e4
  · have q : i' = i := q
    rw [q]
    exact ⟨c, e1⟩
set_option maxHeartbeats 2000000 in
theorem heapPush {h : H} {x : Nat} {F : Nat → Prop} {L : List (Int × Int)} (S : HpS h x F L) (hl : L.length ≤ 90000) (id key : Int) : ACalls Tryz.prog 85 [.ptr (some (x, 0)), i64 id, i64 key] h (PushQ h x F L id key) := by
  refine call_ Tryz.func85 rfl rfl (by kernel_rfl) ?_
  conv => whnf
  rcases S with ⟨rfl, rfl, gb⟩ | ⟨p, mi, ms, rfl, s, o⟩
  · refine ⟨_, Cell.mk gb rfl, ?_⟩
    conv => whnf
    have m1 := Mod.push none_ h (.map true [])
    have gb1 := m1.get gb (.inl fun k => k)
    have gm1 : (h.push (.map true [])).obj h.next = some (.map true []) := H.obj_push_new _ _
    refine ⟨_, _, gb1, Nat.le_of_ble_eq_true rfl, ?_⟩
    have hxn := H.lt _ _ _ gb
    have ms1 := Mod.set (S := one x) (ob := .row true 2 [.sl none 0, .mp (some h.next)]) rfl gb1 rfl
    have gm2 := ms1.get gm1 (.inl fun k => by
      have k : h.next = x := k
      omega)
    have mm : Ab.Mod (one x) h _ := m1.trans' ms1 (S2 := one x) (fun _ _ k => False.elim k) (fun _ _ k => k)
    have s : HpR _ x none h.next [] [] := ⟨H.obj_set_same gb1, SlIs.nil _ _ _, gm2, List.nodup_nil, fun i ⟨o, e⟩ => by cases e⟩
    have o : IxOk [] [] := ⟨fun j hj => absurd hj (Nat.not_lt_zero j), (fun id k hk => by cases hk)⟩
    clear m1 gb1 gm1 ms1 gm2
    conv => whnf
    have hF0 : ∀ i, i < h.next → hpF x none h.next i → one x i := fun i hi k => by
      rcases k with k | k | ⟨o, k⟩
      · exact k
      · omega
      · cases k
    refine ⟨_, Cell.mk s.box rfl, ?_⟩
    conv => whnf
    refine ⟨_, _, s.mp, ?_⟩
    cases hg : sget ([] : List (Int × Int)) id with
    | none =>
      rw [show mget (encM i64V ([] : List (Int × Int))) id = none by rw [mget_enc, hg]; rfl]
      conv => whnf
      refine ⟨_, rfl, ?_⟩
      conv => whnf
      refine ⟨_, rfl, ?_⟩
      conv => whnf
      refine ⟨_, Cell.mk s.box rfl, ?_⟩
      conv => whnf
      refine ⟨_, Cell.mk s.box rfl, ?_⟩
      conv => whnf
      have s1 := s.keep (Mod.push none_ _ (.row true 2 (pC (id, key))))
      have mm1 := mm.trans' (Mod.push none_ _ (.row true 2 (pC (id, key)))) (S2 := (one x)) (fun _ _ k => k) (fun _ _ k => False.elim k)
      refine ⟨_, pC (id, key), s1.sl, ⟨rfl, .inr ⟨_, 0, true, _, rfl, H.obj_push_new _ _, (fun e => by cases e), Nat.le_refl _, rfl⟩⟩, by rw [show (T.at_ 176).bytes = 16 from rfl]; simp only [List.length_nil]; omega, by simp only [List.length_nil]; omega, fun p' h' hs hm hf => ?_⟩
      obtain ⟨gx, s2, m2, hp'⟩ := s1.app hs hm hf
      conv => whnf
      refine ⟨_, _, gx, Nat.le_of_ble_eq_true rfl, ?_⟩
      conv => whnf
      refine ⟨_, Cell.mk (H.obj_set_same gx) rfl, ?_⟩
      conv => whnf
      have hn : ([] : List (Int × Int)).length < (([] : List (Int × Int)) ++ [(id, key)]).length := by rw [List.length_append]; exact Nat.lt_succ_self _
      obtain ⟨i3, c3, cs3, f1, f2, f3, s3, m3⟩ := s2.key hn key
      refine ⟨i3, c3, ([] : List (Int × Int)).length, f1, rfl, Nat.lt_succ_self _, ?_⟩
      conv => whnf
      refine ⟨_, _, f2, by rw [show (T.at_ 3).size = 1 from rfl, show (T.at_ 176).size = 2 from rfl]; omega, ?_⟩
      conv => whnf
      rw [atL_last] at s3
      have e3 : (([] : List (Int × Int)) ++ [(id, key)]).set ([] : List (Int × Int)).length (id, key) = ([] : List (Int × Int)) ++ [(id, key)] := by
        rw [List.set_append_right _ _ (Nat.le_refl _)]
        simp
      rw [e3] at s3
      refine (heapUp s3 (by rw [List.length_append, List.length_singleton]; simp only [List.length_nil]; omega) hn (by rw [atL_last]; exact o.hole_app hg)).mono ?_
      rintro _ h9 ⟨rfl, ⟨l9, ms9, r9, n9, o9, w9⟩, m9⟩
      conv => whnf
      have hnx := mm1.next
      have inF : ∀ i, i < h.next → hpF x p' h.next i → (one x) i := fun i hi k => by
        rcases k with k | k | k
        · exact hF0 i hi (.inl k)
        · exact hF0 i hi (.inr (.inl k))
        · rcases hp' i k with k | k
          · exact hF0 i hi (.inr (.inr k))
          · exact absurd (Nat.le_trans hnx k) (Nat.not_le_of_lt hi)
      refine ⟨⟨_, rfl⟩, ⟨_, l9, .inr ⟨p', h.next, ms9, rfl, r9, o9⟩, fun i k => ?_, push_app o hg w9, by rw [n9, List.length_append]; exact Nat.le_refl _⟩, ((mm1.trans' m2 (S2 := (one x)) (fun _ _ k => k) (fun i hi k => hF0 i hi k)).trans' m3 (S2 := (one x)) (fun _ _ k => k) (fun i hi k => inF i hi (.inr (.inr k)))).trans' m9 (fun _ _ k => k) (fun i hi k => inF i hi (.inr k))⟩
      rcases Nat.lt_or_ge i h.next with q | q
      · exact .inl (inF i q k)
      · exact .inr q
    | some k0 =>
      cases hg
  · refine ⟨_, Cell.mk s.box rfl, ?_⟩
    conv => whnf
    have mm : Ab.Mod (hpF x p mi) h h := Mod.refl _ _
    have hF0 : ∀ i, i < h.next → hpF x p mi i → hpF x p mi i := fun _ _ k => k
    refine ⟨_, Cell.mk s.box rfl, ?_⟩
    conv => whnf
    refine ⟨_, _, s.mp, ?_⟩
    cases hg : sget ms id with
    | none =>
      rw [show mget (encM i64V ms) id = none by rw [mget_enc, hg]; rfl]
      conv => whnf
      refine ⟨_, rfl, ?_⟩
      conv => whnf
      refine ⟨_, rfl, ?_⟩
      conv => whnf
      refine ⟨_, Cell.mk s.box rfl, ?_⟩
      conv => whnf
      refine ⟨_, Cell.mk s.box rfl, ?_⟩
      conv => whnf
      have s1 := s.keep (Mod.push none_ _ (.row true 2 (pC (id, key))))
      have mm1 := mm.trans' (Mod.push none_ _ (.row true 2 (pC (id, key)))) (S2 := (hpF x p mi)) (fun _ _ k => k) (fun _ _ k => False.elim k)
      refine ⟨_, pC (id, key), s1.sl, ⟨rfl, .inr ⟨_, 0, true, _, rfl, H.obj_push_new _ _, (fun e => by cases e), Nat.le_refl _, rfl⟩⟩, by rw [show (T.at_ 176).bytes = 16 from rfl]; omega, by omega, fun p' h' hs hm hf => ?_⟩
      obtain ⟨gx, s2, m2, hp'⟩ := s1.app hs hm hf
      conv => whnf
      refine ⟨_, _, gx, Nat.le_of_ble_eq_true rfl, ?_⟩
      conv => whnf
      refine ⟨_, Cell.mk (H.obj_set_same gx) rfl, ?_⟩
      conv => whnf
      have hn : L.length < (L ++ [(id, key)]).length := by rw [List.length_append]; exact Nat.lt_succ_self _
      obtain ⟨i3, c3, cs3, f1, f2, f3, s3, m3⟩ := s2.key hn key
      refine ⟨i3, c3, L.length, f1, rfl, Nat.lt_succ_self _, ?_⟩
      conv => whnf
      refine ⟨_, _, f2, by rw [show (T.at_ 3).size = 1 from rfl, show (T.at_ 176).size = 2 from rfl]; omega, ?_⟩
      conv => whnf
      rw [atL_last] at s3
      have e3 : (L ++ [(id, key)]).set L.length (id, key) = L ++ [(id, key)] := by
        rw [List.set_append_right _ _ (Nat.le_refl _)]
        simp
      rw [e3] at s3
      refine (heapUp s3 (by rw [List.length_append, List.length_singleton]; omega) hn (by rw [atL_last]; exact o.hole_app hg)).mono ?_
      rintro _ h9 ⟨rfl, ⟨l9, ms9, r9, n9, o9, w9⟩, m9⟩
      conv => whnf
      have hnx := mm1.next
      have inF : ∀ i, i < h.next → hpF x p' mi i → (hpF x p mi) i := fun i hi k => by
        rcases k with k | k | k
        · exact hF0 i hi (.inl k)
        · exact hF0 i hi (.inr (.inl k))
        · rcases hp' i k with k | k
          · exact hF0 i hi (.inr (.inr k))
          · exact absurd (Nat.le_trans hnx k) (Nat.not_le_of_lt hi)
      refine ⟨⟨_, rfl⟩, ⟨_, l9, .inr ⟨p', mi, ms9, rfl, r9, o9⟩, fun i k => ?_, push_app o hg w9, by rw [n9, List.length_append]; exact Nat.le_refl _⟩, ((mm1.trans' m2 (S2 := (hpF x p mi)) (fun _ _ k => k) (fun i hi k => hF0 i hi k)).trans' m3 (S2 := (hpF x p mi)) (fun _ _ k => k) (fun i hi k => inF i hi (.inr (.inr k)))).trans' m9 (fun _ _ k => k) (fun i hi k => inF i hi (.inr k))⟩
      rcases Nat.lt_or_ge i h.next with q | q
      · exact .inl (inF i q k)
      · exact .inr q
    | some k0 =>
      obtain ⟨j, hj, rfl, hid⟩ := o.b id k0 hg
      rw [show mget (encM i64V ms) id = some (V.int .i64 (j : Int)) by rw [mget_enc, hg]; rfl]
      conv => whnf
      refine ⟨_, rfl, ?_⟩
      conv => whnf
      refine ⟨_, rfl, ?_⟩
      conv => whnf
      refine ⟨_, Cell.mk s.box rfl, ?_⟩
      conv => whnf
      obtain ⟨i1, c1, e1, k1, k2⟩ := sls_get pC_len s.sl.weak rfl hj
      refine ⟨i1, c1, j, e1, rfl, hj, ?_⟩
      conv => whnf
      refine ⟨_, k2 1 (i64 (L[j]).2) rfl, ?_⟩
      conv => whnf
      refine br_mk (fun hb => ?_) (fun hb => ?_)
      · conv => whnf
        have hb : (L[j]).2 ≤ key := by simpa using hb
        refine ⟨⟨_, rfl⟩, ⟨_, L, .inr ⟨p, mi, ms, rfl, s, o⟩, fun i k => .inl k, .inl ⟨⟨(L[j]).2, ?_, hb⟩, fun y => Iff.rfl⟩, Nat.le_succ _⟩, Mod.refl _ _⟩
        rw [← hid, atL_get hj]
        exact List.getElem_mem hj
      · conv => whnf
        have hb : ¬ (L[j]).2 ≤ key := by simpa using hb
        refine ⟨_, Cell.mk s.box rfl, ?_⟩
        conv => whnf
        obtain ⟨i3, c3, cs3, f1, f2, f3, s3, m3⟩ := s.key hj key
        refine ⟨i3, c3, j, f1, rfl, hj, ?_⟩
        conv => whnf
        refine ⟨_, _, f2, by rw [show (T.at_ 3).size = 1 from rfl, show (T.at_ 176).size = 2 from rfl]; omega, ?_⟩
        conv => whnf
        rw [hid] at s3
        have hj3 : j < (L.set j (id, key)).length := by rw [List.length_set]; exact hj
        refine (heapUp s3 (by rw [List.length_set]; omega) hj3 (by rw [atL_set hj, if_pos rfl, ← hid]; exact o.hole_set hj key)).mono ?_
        rintro _ h9 ⟨rfl, ⟨l9, ms9, r9, n9, o9, w9⟩, m9⟩
        conv => whnf
        refine ⟨⟨_, rfl⟩, ⟨_, l9, .inr ⟨p, mi, ms9, rfl, r9, o9⟩, fun i k => .inl k, push_set o hj hid (by rw [atL_get hj]; omega) w9, by rw [n9, List.length_set]; exact Nat.le_succ _⟩, m3.trans' m9 (fun _ _ k => .inr (.inr k)) (fun _ _ k => .inr k)⟩
end Go.Proofs.YteapijoibimfnaaGreat
/-! The heap: Len, Pop. -/
namespace Go.Proofs.YteapijoibimfnaaGreat
open Go Go.Ab
theorem heapLen {h : H} {x : Nat} {F : Nat → Prop} {L : List (Int × Int)} (S : HpS h x F L) : ACalls Tryz.prog 86 [.ptr (some (x, 0))] h (fun r h' => h' = h ∧ r = i64 L.length) := by
  refine call_ Tryz.func86 rfl rfl (by kernel_rfl) ?_
  conv => whnf
  rcases S with ⟨rfl, rfl, gb⟩ | ⟨p, mi, ms, rfl, s, o⟩
  · refine ⟨_, Cell.mk gb rfl, ?_⟩
    conv => whnf
    exact ⟨rfl, rfl⟩
  · refine ⟨_, Cell.mk s.box rfl, ?_⟩
    conv => whnf
    exact ⟨rfl, rfl⟩
def PopQ (h : H) (x : Nat) (F : Nat → Prop) (L : List (Int × Int)) (r : V) (h' : H) : Prop :=
  ∃ y F' L', r = .tup [i64 y.1, i64 y.2, i64 0] ∧ HpS h' x F' L' ∧ (∀ i, F' i → F i ∨ h.next ≤ i) ∧ HPop L y L' ∧ L'.length + 1 = L.length ∧ Ab.Mod F h h'
theorem own_take {h : H} {p : Option (Nat × Nat)} {n m : Nat} {l : List (Int × Int)} (s : SlIs h p n true 2 (l.flatMap pC)) (hn : n = l.length) (hm : m ≤ n) (hn0 : 0 < n) : SlIs h p m true 2 ((l.take m).flatMap pC) := by
  obtain ⟨hl, hr⟩ := s
  have hf : ((l.take m).flatMap pC) = (l.flatMap pC).take (m * 2) := by
    clear hl hr hn hm hn0
    induction l generalizing m with
    | nil => simp
    | cons a l ih =>
      cases m with
      | zero => simp
      | succ m =>
        rw [List.take_succ_cons, List.flatMap_cons, List.flatMap_cons, ih, show (m + 1) * 2 = m * 2 + 1 + 1 by omega]
        rfl
  rcases hr with ⟨rfl, _⟩ | ⟨i, c, o', r, rfl, e2, e3, e4, e5⟩
  · omega
  · refine ⟨by rw [hf, List.length_take, hl]; omega, .inr ⟨i, c, o', r, rfl, e2, e3, by omega, ?_⟩⟩
    rw [hf, ← e5, List.take_take, Nat.min_eq_left (by omega)]
theorem pop_hole {l ms : List (Int × Int)} (o : IxOk l ms) (nd : (keys ms).Nodup) {n : Nat} (hn : l.length = n + 2) : IxH ((l.take (n + 1)).set 0 (atL l (n + 1))) (sdel ms (atL l 0).1) 0 (atL l (n + 1)) ∧ ∀ w, MemH ((l.take (n + 1)).set 0 (atL l (n + 1))) 0 (atL l (n + 1)) w ↔ (w ∈ l ∧ w.1 ≠ (atL l 0).1) := by
  have ht : ∀ j, j < n + 1 → atL (l.take (n + 1)) j = atL l j := fun j hj => by
    unfold atL
    rw [List.getD_eq_getElem?_getD, List.getElem?_take, if_pos hj, List.getD_eq_getElem?_getD]
  have hl : (l.take (n + 1)).length = n + 1 := by rw [List.length_take]; omega
  have hs : ∀ j, j < n + 1 → j ≠ 0 → atL ((l.take (n + 1)).set 0 (atL l (n + 1))) j = atL l j := fun j hj h0 => by
    rw [atL_set (by omega), if_neg (Ne.symm h0), ht j hj]
  have dif : ∀ j, j < l.length → j ≠ 0 → (atL l j).1 ≠ (atL l 0).1 := fun j hj h0 e => h0 (o.uniq hj (by omega) e)
  refine ⟨⟨fun j hj h0 => ?_, fun id k hk => ?_, fun j hj h0 => ?_⟩, fun w => ?_⟩
  · rw [List.length_set, hl] at hj
    rw [hs j hj h0, sdel_get _ _ nd, if_neg (dif j (by omega) h0)]
    exact o.a j (by omega)
  · rw [sdel_get _ _ nd] at hk
    split at hk
    · cases hk
    · rename_i q
      obtain ⟨j, hj, h1, h2⟩ := o.b id k hk
      have hj0 : j ≠ 0 := fun e => q (by rw [← h2, e])
      by_cases r : j = n + 1
      · exact .inl (by rw [← h2, r])
      · exact .inr ⟨j, by rw [List.length_set, hl]; omega, hj0, h1, by rw [hs j (by omega) hj0, h2]⟩
  · rw [List.length_set, hl] at hj
    rw [hs j hj h0]
    exact fun e => by have := o.uniq (j := j) (k := n + 1) (by omega) (by omega) e; omega
  · constructor
    · rintro (rfl | ⟨j, hj, h0, rfl⟩)
      · exact ⟨mem_atL.2 ⟨n + 1, by omega, rfl⟩, dif _ (by omega) (by omega)⟩
      · rw [List.length_set, hl] at hj
        rw [hs j hj h0]
        exact ⟨mem_atL.2 ⟨j, by omega, rfl⟩, dif _ (by omega) h0⟩
    · rintro ⟨h1, h2⟩
      obtain ⟨j, hj, rfl⟩ := mem_atL.1 h1
      have hj0 : j ≠ 0 := fun e => h2 (by rw [e])
      by_cases r : j = n + 1
      · exact .inl (by rw [r])
      · exact .inr ⟨j, by rw [List.length_set, hl]; omega, hj0, hs j (by omega) hj0⟩
theorem pop_one {l ms : List (Int × Int)} (o : IxOk l ms) (nd : (keys ms).Nodup) (hn : l.length = 1) : IxOk (l.take 0) (sdel ms (atL l 0).1) ∧ ∀ w, w ∈ l.take 0 ↔ (w ∈ l ∧ w.1 ≠ (atL l 0).1) := by
  refine ⟨⟨fun j hj => by simp at hj, fun id k hk => ?_⟩, fun w => ⟨fun k => by simp at k, fun k => ?_⟩⟩
  · rw [sdel_get _ _ nd] at hk
    split at hk
    · cases hk
    · rename_i q
      obtain ⟨j, hj, h1, h2⟩ := o.b id k hk
      obtain rfl : j = 0 := by omega
      exact absurd h2.symm q
  · obtain ⟨j, hj, rfl⟩ := mem_atL.1 k.1
    obtain rfl : j = 0 := by omega
    exact absurd rfl k.2
theorem two_new (h : H) {U V_ : Nat} (q : (U = h.next ∧ V_ = h.next + 1) ∨ (U = h.next + 1 ∧ V_ = h.next)) (sz : Nat) (z a b : List V) :
    ∃ _ : ((h.push (.row true sz z)).push (.row true sz z)).obj U = some (.row true sz z),
    ∃ _ : (((h.push (.row true sz z)).push (.row true sz z)).set U (.row true sz a)).obj V_ = some (.row true sz z),
    ((((h.push (.row true sz z)).push (.row true sz z)).set U (.row true sz a)).set V_ (.row true sz b)).obj U = some (.row true sz a) ∧
    ((((h.push (.row true sz z)).push (.row true sz z)).set U (.row true sz a)).set V_ (.row true sz b)).obj V_ = some (.row true sz b) ∧
    Ab.Mod none_ h (((h.push (.row true sz z)).push (.row true sz z)).set U (.row true sz a)) ∧ Ab.Mod none_ h ((((h.push (.row true sz z)).push (.row true sz z)).set U (.row true sz a)).set V_ (.row true sz b)) := by
  have m1 := Mod.push none_ h (.row true sz z)
  have m2 := Mod.push none_ (h.push (.row true sz z)) (.row true sz z)
  have o1 : ((h.push (.row true sz z)).push (.row true sz z)).obj h.next = some (.row true sz z) := m2.get (H.obj_push_new _ _) (.inl fun k => k)
  have o2 : ((h.push (.row true sz z)).push (.row true sz z)).obj (h.next + 1) = some (.row true sz z) := H.obj_push_new _ _
  have oU : ((h.push (.row true sz z)).push (.row true sz z)).obj U = some (.row true sz z) := by rcases q with ⟨rfl, rfl⟩ | ⟨rfl, rfl⟩ <;> assumption
  have oV : ((h.push (.row true sz z)).push (.row true sz z)).obj V_ = some (.row true sz z) := by rcases q with ⟨rfl, rfl⟩ | ⟨rfl, rfl⟩ <;> assumption
  have hne : V_ ≠ U := by omega
  have s1 := Mod.set (S := one U) (ob := .row true sz a) rfl oU rfl
  have oV := s1.get oV (.inl fun k => hne k)
  have oU' := H.obj_set_same oU (ob' := .row true sz a)
  have s2 := Mod.set (S := one V_) (ob := .row true sz b) rfl oV rfl
  have mA : Ab.Mod none_ h _ := (mod_none m1 m2).trans' s1 (S2 := none_) (fun _ _ k => k) (fun i hi k => by have k : i = U := k; omega)
  exact ⟨oU, oV, s2.get oU' (.inl fun k => hne (Eq.symm k)), H.obj_set_same oV, mA, mA.trans' s2 (S2 := none_) (fun _ _ k => k) (fun i hi k => by have k : i = V_ := k; omega)⟩
theorem HpR.take {hh : H} {x : Nat} {p : Option (Nat × Nat)} {mi : Nat} {l ms : List (Int × Int)} (s : HpR hh x p mi l ms) {n : Nat} (hn : n < l.length) : HpR (hh.set x (.row true 2 [.sl p n, .mp (some mi)])) x p mi (l.take n) ms ∧ Ab.Mod (one x) hh (hh.set x (.row true 2 [.sl p n, .mp (some mi)])) := by
  have ht : (l.take n).length = n := by rw [List.length_take]; omega
  have ms1 := Mod.set (S := one x) (ob := .row true 2 [.sl p n, .mp (some mi)]) rfl s.box rfl
  refine ⟨⟨by rw [ht]; exact H.obj_set_same s.box, ?_, ms1.get s.mp (.inl fun k => s.ne (Eq.symm k)), s.nd, s.sep⟩, ms1⟩
  rw [ht]
  exact (own_take s.sl rfl (Nat.le_of_lt hn) (by omega)).get ms1 fun i o e => .inl fun k => (s.sep i ⟨o, e⟩).1 k
theorem HpR.del {hh : H} {x : Nat} {p : Option (Nat × Nat)} {mi : Nat} {l ms : List (Int × Int)} (s : HpR hh x p mi l ms) (id : Int) : HpR (hh.set mi (.map true (mpE .i64 (encM i64V (sdel ms id))))) x p mi l (sdel ms id) ∧ Ab.Mod (one mi) hh (hh.set mi (.map true (mpE .i64 (encM i64V (sdel ms id))))) := by
  have ms1 := Mod.set (S := one mi) (ob := .map true (mpE .i64 (encM i64V (sdel ms id)))) rfl s.mp rfl
  exact ⟨⟨ms1.get s.box (.inl s.ne), s.sl.get ms1 fun i o e => .inl fun k => (s.sep i ⟨o, e⟩).2 k, H.obj_set_same s.mp, sdel_nodup s.nd id, s.sep⟩, ms1⟩
theorem HpR.put {hh : H} {x : Nat} {p : Option (Nat × Nat)} {mi : Nat} {l ms : List (Int × Int)} (s : HpR hh x p mi l ms) {j : Nat} (hj : j < l.length) (y : Int × Int) :
    ∃ i c cs, p = some (i, c) ∧ hh.obj i = some (.row true 2 cs) ∧ c + j * 2 + 2 ≤ cs.length ∧ HpR (hh.set i (.row true 2 (splice cs (c + j * 2) (pC y)))) x p mi (l.set j y) ms ∧ Ab.Mod (inSl p) hh (hh.set i (.row true 2 (splice cs (c + j * 2) (pC y)))) := by
  obtain ⟨i, c, cs, e1, e2, e3, e4⟩ := own_put2 s.sl hj y
  have hi := s.sep i ⟨c, e1⟩
  have ms1 := Mod.set (S := one i) (ob := .row true 2 (splice cs (c + j * 2) (pC y))) rfl e2 rfl
  refine ⟨i, c, cs, e1, e2, e3, ⟨?_, ?_, ms1.get s.mp (.inl fun q => hi.2 (Eq.symm q)), s.nd, s.sep⟩, (Mod.refl (inSl p) hh).trans' ms1 (fun _ _ q => q) (fun i' _ q => ?_)⟩
  · rw [List.length_set]
    exact ms1.get s.box (.inl fun q => hi.1 (Eq.symm q))
  · rw [List.length_set]
    exact e4
  · have q : i' = i := q
    rw [q]
    exact ⟨c, e1⟩
set_option maxHeartbeats 2000000 in
theorem heapPop {h : H} {x : Nat} {F : Nat → Prop} {L : List (Int × Int)} (S : HpS h x F L) (hl : L.length ≤ 90000) (hne : L ≠ []) : ACalls Tryz.prog 87 [.ptr (some (x, 0))] h (PopQ h x F L) := by
  refine call_ Tryz.func87 rfl rfl (by kernel_rfl) ?_
  conv => whnf
  refine (heapLen S).mono ?_
  rintro _ h1 ⟨eh, rfl⟩
  subst h1
  rcases S with ⟨rfl, rfl, gb⟩ | ⟨p, mi, ms, rfl, s, o⟩
  · exact absurd rfl hne
  obtain ⟨n, hn⟩ : ∃ n, L.length = n + 1 := ⟨L.length - 1, by have := List.length_pos_iff.2 hne; omega⟩
  conv => whnf
  refine br_mk (fun hb => ?_) (fun hb => ?_)
  · exact absurd hb (by simp; exact hne)
  conv => whnf
  have e0 : IntKind.i64.wrap ((L.length : Int) - 1) = ((n : Nat) : Int) := by
    rw [wrap_i64 (by omega) (by omega)]
    omega
  refine ⟨[], [18, 19], rfl, ⟨[0, 1, 2, 3, 4, 5, 6, 7, 8, 9, 10, 11, 12, 13, 14, 15, 16, 17, 18, 19, 20, 21], [0, 1, 3, 7, 15, 31, 0, 64, 192, 448, 0, 1024, 3072, 7168, 15360, 31744, 65472, 131008, 0, 262144, 786495, 2097151], by kernel_rfl, ?_⟩, ⟨[0, 1, 2, 3, 4, 5, 6, 7, 8, 9, 10, 11, 12, 13, 14, 15, 16, 17, 19, 18, 20, 21], [0, 1, 3, 7, 15, 31, 0, 64, 192, 448, 0, 1024, 3072, 7168, 15360, 31744, 65472, 131008, 524288, 0, 786495, 2097151], by kernel_rfl, ?_⟩⟩
  · conv => whnf
    refine ⟨_, Cell.mk s.box rfl, ?_⟩
    conv => whnf
    obtain ⟨i1, c1, e1, k1, k2⟩ := sls_get pC_len s.sl.weak rfl (show 0 < L.length by omega)
    subst e1
    refine ⟨i1, c1, 0, rfl, rfl, by omega, ?_⟩
    conv => whnf
    refine ⟨_, k1, ?_⟩
    conv => whnf
    refine ⟨_, Cell.mk s.box rfl, ?_⟩
    conv => whnf
    refine ⟨_, Cell.mk s.box rfl, ?_⟩
    conv => whnf
    obtain ⟨i2, c2, e2, k3, k4⟩ := sls_get pC_len s.sl.weak rfl (show n < L.length by omega)
    refine ⟨i2, c2, n, e2, e0, by omega, ?_⟩
    conv => whnf
    refine ⟨_, k3, ?_⟩
    conv => whnf
    obtain ⟨gU, gV, fU, fV, mA, mB⟩ := two_new h (U := h.next) (V_ := h.next + 1) (.inl ⟨rfl, rfl⟩) 2 [i64 0, i64 0] (pC L[0]) (pC L[n])
    refine ⟨_, _, gU, Nat.le_of_ble_eq_true rfl, ?_⟩
    conv => whnf
    have sA := s.keep mA
    refine ⟨?_, ?_⟩
    · conv => whnf
      obtain ⟨i3, c3, e3, k5, k6⟩ := sls_get pC_len sA.sl.weak rfl (show n < L.length by omega)
      injection e2 with e2
      injection e2 with e2 e2'
      injection e3 with e3
      injection e3 with e3 e3'
      subst e2 e2' e3 e3'
      exact ⟨_, k5, rfl⟩
    refine ⟨?_, ?_⟩
    · conv => whnf
      exact ⟨_, Cell.mk sA.box rfl, rfl⟩
    refine ⟨?_, ?_⟩
    · conv => whnf
      exact ⟨_, Cell.mk sA.box rfl, rfl⟩
    conv => whnf
    refine ⟨_, _, gV, Nat.le_of_ble_eq_true rfl, ?_⟩
    have s0 := s
    have s := s.keep mB
    clear sA gU gV mA k1 k2 k3 k4
    conv => whnf
    refine ⟨[0, 1, 2, 3, 4, 5, 6, 7, 8, 9, 10, 11, 12, 13, 14], [0, 0, 2, 6, 14, 0, 32, 96, 224, 480, 992, 2046, 4095, 8191, 16383], by kernel_rfl, ?_⟩
    conv => whnf
    refine ⟨_, Cell.mk s.box rfl, ?_⟩
    conv => whnf
    refine ⟨_, Cell.mk s.box rfl, ?_⟩
    conv => whnf
    refine ⟨⟨_, s.sl.weak⟩, ?_⟩
    conv => whnf
    refine ⟨n, e0, Nat.zero_le _, by omega, ?_⟩
    conv => whnf
    have hU : h.next ≠ x ∧ h.next ≠ mi ∧ ¬ inSl (some (i1, c1)) (h.next) := by
      have h1 := s0.lt (i := x) (.inl rfl)
      have h2 := s0.lt (i := mi) (.inr (.inl rfl))
      exact ⟨by omega, by omega, fun k => by have := s0.lt (.inr (.inr k)); omega⟩
    have hV : h.next + 1 ≠ x ∧ h.next + 1 ≠ mi := by
      have h1 := s0.lt (i := x) (.inl rfl)
      have h2 := s0.lt (i := mi) (.inr (.inl rfl))
      exact ⟨by omega, by omega⟩
    obtain ⟨s2, m2⟩ := s.take (n := n) (by omega)
    refine ⟨_, _, s.box, Nat.le_of_ble_eq_true rfl, ?_⟩
    have ht : (L.take n).length = n := by rw [List.length_take]; omega
    have b2 := H.obj_set_same s.box (ob' := .row true 2 [.sl (some (i1, c1)) n, .mp (some mi)])
    have fU := m2.get fU (.inl hU.1)
    have fV := m2.get fV (.inl hV.1)
    conv => whnf
    refine ⟨[0, 1, 2, 3, 4, 5, 6], [0, 1, 3, 7, 0, 16, 63], by kernel_rfl, ?_⟩
    conv => whnf
    refine ⟨_, Cell.mk b2 rfl, ?_⟩
    conv => whnf
    refine ⟨_, Cell.mk fU rfl, ?_⟩
    conv => whnf
    obtain ⟨s3, m3⟩ := s2.del (L[0]).1
    refine .inl ⟨_, s2.mp, ?_⟩
    rw [mdel_enc]
    have b3 := m3.get b2 (.inl s2.ne)
    have fU := m3.get fU (.inl hU.2.1)
    have fV := m3.get fV (.inl hV.2)
    conv => whnf
    refine ⟨_, Cell.mk b3 rfl, ?_⟩
    conv => whnf
    have mC := (mB.trans' m2 (S2 := hpF x (some (i1, c1)) mi) (fun _ _ k => False.elim k) (fun _ _ k => .inl k)).trans' m3 (S2 := hpF x (some (i1, c1)) mi) (fun _ _ k => k) (fun _ _ k => .inr (.inl k))
    have h0 : atL L 0 = L[0] := atL_get (by omega)
    refine br_mk (fun hc => ?_) (fun hc => ?_)
    · have hc : 0 < n := by simpa using hc
      obtain ⟨m, rfl⟩ : ∃ m, n = m + 1 := ⟨n - 1, by omega⟩
      conv => whnf
      refine ⟨[0, 1, 2, 3, 4, 5, 6], [0, 1, 3, 7, 0, 31, 63], by kernel_rfl, ?_⟩
      conv => whnf
      refine ⟨_, Cell.mk b3 rfl, ?_⟩
      conv => whnf
      refine ⟨_, Cells.mk fV (Nat.le_of_ble_eq_true rfl) rfl, ?_⟩
      conv => whnf
      obtain ⟨i4, c4, cs4, d1, d2, d3, s4, m4⟩ := s3.put (j := 0) (by omega) L[m + 1]
      refine ⟨i4, c4, 0, d1, rfl, hc, ?_⟩
      conv => whnf
      refine ⟨_, _, d2, d3, ?_⟩
      have fU := m4.get fU (.inl hU.2.2)
      have hl1 : atL L (m + 1) = L[m + 1] := atL_get (by omega)
      obtain ⟨ix, mem⟩ := pop_hole o s0.nd hn
      rw [h0, hl1] at ix mem
      have hlen : ((L.take (m + 1)).set 0 L[m + 1]).length = m + 1 := by rw [List.length_set, ht]
      have ha : atL ((L.take (m + 1)).set 0 L[m + 1]) 0 = L[m + 1] := by rw [atL_set (by omega), if_pos rfl]
      conv => whnf
      refine (heapDown s4 (by omega) (i := 0) (by omega) (by rw [ha]; exact ix)).mono ?_
      rintro _ h9 ⟨rfl, ⟨l9, ms9, r9, n9, o9, w9⟩, m9⟩
      have fU := m9.get fU (.inl fun k => k.elim hU.2.1 hU.2.2)
      conv => whnf
      refine ⟨[0, 1, 2, 3, 4, 5, 6], [0, 1, 0, 4, 3, 31, 63], by kernel_rfl, ?_⟩
      conv => whnf
      refine ⟨_, Cell.mk fU rfl, ?_⟩
      conv => whnf
      refine ⟨_, Cell.mk fU rfl, ?_⟩
      conv => whnf
      refine ⟨L[0], _, l9, rfl, .inr ⟨_, mi, ms9, rfl, r9, o9⟩, fun i k => .inl k, ⟨List.getElem_mem _, fun y => ?_⟩, by rw [n9, hlen, hn], (mC.trans' m4 (S2 := hpF x (some (i1, c1)) mi) (fun _ _ k => k) (fun _ _ k => .inr (.inr k))).trans' m9 (fun _ _ k => k) (fun _ _ k => .inr k)⟩
      have hm := memH_self (l := (L.take (m + 1)).set 0 L[m + 1]) (i := 0) (by omega) y
      rw [ha] at hm
      exact (w9 y).trans (hm.symm.trans (mem y))
    · have hc : ¬ 0 < n := by simpa using hc
      obtain rfl : n = 0 := by omega
      conv => whnf
      refine ⟨[0, 1, 2, 3, 4, 5, 6], [0, 1, 0, 4, 3, 31, 63], by kernel_rfl, ?_⟩
      conv => whnf
      refine ⟨_, Cell.mk fU rfl, ?_⟩
      conv => whnf
      refine ⟨_, Cell.mk fU rfl, ?_⟩
      conv => whnf
      obtain ⟨o9, w9⟩ := pop_one o s0.nd hn
      rw [h0] at o9 w9
      exact ⟨L[0], _, L.take 0, rfl, .inr ⟨_, mi, _, rfl, s3, o9⟩, fun i k => .inl k, ⟨List.getElem_mem _, w9⟩, by rw [hn]; rfl, mC⟩
  · conv => whnf
    refine ⟨_, Cell.mk s.box rfl, ?_⟩
    conv => whnf
    obtain ⟨i1, c1, e1, k1, k2⟩ := sls_get pC_len s.sl.weak rfl (show 0 < L.length by omega)
    subst e1
    refine ⟨i1, c1, 0, rfl, rfl, by omega, ?_⟩
    conv => whnf
    refine ⟨_, k1, ?_⟩
    conv => whnf
    refine ⟨_, Cell.mk s.box rfl, ?_⟩
    conv => whnf
    refine ⟨_, Cell.mk s.box rfl, ?_⟩
    conv => whnf
    obtain ⟨i2, c2, e2, k3, k4⟩ := sls_get pC_len s.sl.weak rfl (show n < L.length by omega)
    refine ⟨i2, c2, n, e2, e0, by omega, ?_⟩
    conv => whnf
    refine ⟨_, k3, ?_⟩
    conv => whnf
    obtain ⟨gU, gV, fU, fV, mA, mB⟩ := two_new h (U := h.next + 1) (V_ := h.next) (.inr ⟨rfl, rfl⟩) 2 [i64 0, i64 0] (pC L[0]) (pC L[n])
    refine ⟨_, _, gU, Nat.le_of_ble_eq_true rfl, ?_⟩
    conv => whnf
    have sA := s.keep mA
    refine ⟨?_, ?_⟩
    · conv => whnf
      obtain ⟨i3, c3, e3, k5, k6⟩ := sls_get pC_len sA.sl.weak rfl (show n < L.length by omega)
      injection e2 with e2
      injection e2 with e2 e2'
      injection e3 with e3
      injection e3 with e3 e3'
      subst e2 e2' e3 e3'
      exact ⟨_, k5, rfl⟩
    refine ⟨?_, ?_⟩
    · conv => whnf
      exact ⟨_, Cell.mk sA.box rfl, rfl⟩
    refine ⟨?_, ?_⟩
    · conv => whnf
      exact ⟨_, Cell.mk sA.box rfl, rfl⟩
    conv => whnf
    refine ⟨_, _, gV, Nat.le_of_ble_eq_true rfl, ?_⟩
    have s0 := s
    have s := s.keep mB
    clear sA gU gV mA k1 k2 k3 k4
    conv => whnf
    refine ⟨[0, 1, 2, 3, 4, 5, 6, 7, 8, 9, 10, 11, 12, 13, 14], [0, 0, 2, 6, 14, 0, 32, 96, 224, 480, 992, 2046, 4095, 8191, 16383], by kernel_rfl, ?_⟩
    conv => whnf
    refine ⟨_, Cell.mk s.box rfl, ?_⟩
    conv => whnf
    refine ⟨_, Cell.mk s.box rfl, ?_⟩
    conv => whnf
    refine ⟨⟨_, s.sl.weak⟩, ?_⟩
    conv => whnf
    refine ⟨n, e0, Nat.zero_le _, by omega, ?_⟩
    conv => whnf
    have hU : h.next + 1 ≠ x ∧ h.next + 1 ≠ mi ∧ ¬ inSl (some (i1, c1)) (h.next + 1) := by
      have h1 := s0.lt (i := x) (.inl rfl)
      have h2 := s0.lt (i := mi) (.inr (.inl rfl))
      exact ⟨by omega, by omega, fun k => by have := s0.lt (.inr (.inr k)); omega⟩
    have hV : h.next ≠ x ∧ h.next ≠ mi := by
      have h1 := s0.lt (i := x) (.inl rfl)
      have h2 := s0.lt (i := mi) (.inr (.inl rfl))
      exact ⟨by omega, by omega⟩
    obtain ⟨s2, m2⟩ := s.take (n := n) (by omega)
    refine ⟨_, _, s.box, Nat.le_of_ble_eq_true rfl, ?_⟩
    have ht : (L.take n).length = n := by rw [List.length_take]; omega
    have b2 := H.obj_set_same s.box (ob' := .row true 2 [.sl (some (i1, c1)) n, .mp (some mi)])
    have fU := m2.get fU (.inl hU.1)
    have fV := m2.get fV (.inl hV.1)
    conv => whnf
    refine ⟨[0, 1, 2, 3, 4, 5, 6], [0, 1, 3, 7, 0, 16, 63], by kernel_rfl, ?_⟩
    conv => whnf
    refine ⟨_, Cell.mk b2 rfl, ?_⟩
    conv => whnf
    refine ⟨_, Cell.mk fU rfl, ?_⟩
    conv => whnf
    obtain ⟨s3, m3⟩ := s2.del (L[0]).1
    refine .inl ⟨_, s2.mp, ?_⟩
    rw [mdel_enc]
    have b3 := m3.get b2 (.inl s2.ne)
    have fU := m3.get fU (.inl hU.2.1)
    have fV := m3.get fV (.inl hV.2)
    conv => whnf
    refine ⟨_, Cell.mk b3 rfl, ?_⟩
    conv => whnf
    have mC := (mB.trans' m2 (S2 := hpF x (some (i1, c1)) mi) (fun _ _ k => False.elim k) (fun _ _ k => .inl k)).trans' m3 (S2 := hpF x (some (i1, c1)) mi) (fun _ _ k => k) (fun _ _ k => .inr (.inl k))
    have h0 : atL L 0 = L[0] := atL_get (by omega)
    refine br_mk (fun hc => ?_) (fun hc => ?_)
    · have hc : 0 < n := by simpa using hc
      obtain ⟨m, rfl⟩ : ∃ m, n = m + 1 := ⟨n - 1, by omega⟩
      conv => whnf
      refine ⟨[0, 1, 2, 3, 4, 5, 6], [0, 1, 3, 7, 0, 31, 63], by kernel_rfl, ?_⟩
      conv => whnf
      refine ⟨_, Cell.mk b3 rfl, ?_⟩
      conv => whnf
      refine ⟨_, Cells.mk fV (Nat.le_of_ble_eq_true rfl) rfl, ?_⟩
      conv => whnf
      obtain ⟨i4, c4, cs4, d1, d2, d3, s4, m4⟩ := s3.put (j := 0) (by omega) L[m + 1]
      refine ⟨i4, c4, 0, d1, rfl, hc, ?_⟩
      conv => whnf
      refine ⟨_, _, d2, d3, ?_⟩
      have fU := m4.get fU (.inl hU.2.2)
      have hl1 : atL L (m + 1) = L[m + 1] := atL_get (by omega)
      obtain ⟨ix, mem⟩ := pop_hole o s0.nd hn
      rw [h0, hl1] at ix mem
      have hlen : ((L.take (m + 1)).set 0 L[m + 1]).length = m + 1 := by rw [List.length_set, ht]
      have ha : atL ((L.take (m + 1)).set 0 L[m + 1]) 0 = L[m + 1] := by rw [atL_set (by omega), if_pos rfl]
      conv => whnf
      refine (heapDown s4 (by omega) (i := 0) (by omega) (by rw [ha]; exact ix)).mono ?_
      rintro _ h9 ⟨rfl, ⟨l9, ms9, r9, n9, o9, w9⟩, m9⟩
      have fU := m9.get fU (.inl fun k => k.elim hU.2.1 hU.2.2)
      conv => whnf
      refine ⟨[0, 1, 2, 3, 4, 5, 6], [0, 1, 0, 4, 3, 31, 63], by kernel_rfl, ?_⟩
      conv => whnf
      refine ⟨_, Cell.mk fU rfl, ?_⟩
      conv => whnf
      refine ⟨_, Cell.mk fU rfl, ?_⟩
      conv => whnf
      refine ⟨L[0], _, l9, rfl, .inr ⟨_, mi, ms9, rfl, r9, o9⟩, fun i k => .inl k, ⟨List.getElem_mem _, fun y => ?_⟩, by rw [n9, hlen, hn], (mC.trans' m4 (S2 := hpF x (some (i1, c1)) mi) (fun _ _ k => k) (fun _ _ k => .inr (.inr k))).trans' m9 (fun _ _ k => k) (fun _ _ k => .inr k)⟩
      have hm := memH_self (l := (L.take (m + 1)).set 0 L[m + 1]) (i := 0) (by omega) y
      rw [ha] at hm
      exact (w9 y).trans (hm.symm.trans (mem y))
    · have hc : ¬ 0 < n := by simpa using hc
      obtain rfl : n = 0 := by omega
      conv => whnf
      refine ⟨[0, 1, 2, 3, 4, 5, 6], [0, 1, 0, 4, 3, 31, 63], by kernel_rfl, ?_⟩
      conv => whnf
      refine ⟨_, Cell.mk fU rfl, ?_⟩
      conv => whnf
      refine ⟨_, Cell.mk fU rfl, ?_⟩
      conv => whnf
      obtain ⟨o9, w9⟩ := pop_one o s0.nd hn
      rw [h0] at o9 w9
      exact ⟨L[0], _, L.take 0, rfl, .inr ⟨_, mi, _, rfl, s3, o9⟩, fun i k => .inl k, ⟨List.getElem_mem _, w9⟩, by rw [hn]; rfl, mC⟩
end Go.Proofs.YteapijoibimfnaaGreat
