/- Datagrams: what the document fixes; the law GramTells. -/
import Derived.Test.YtnpfdppmpmnhbaaS46
import Derived.Test.YtnpfdppmpmnhbaaM5
set_option linter.unusedVariables false
namespace Go.Proofs.Ytnpfdppmpmnhbaa
open Go Go.Ab
theorem GDec.yes {b body : List Int} {kd : Int} {m m1 : Grm} {e : Int} (a : GDec b m1 e) (hu : unV b = (kd, body, 0)) (he : EncG body kd m) : e = 0 ∧ eqG m m1 ∧ EncG body kd m1 := by
  unfold GDec at a
  rw [hu] at a
  rcases a with ⟨a0, _⟩ | ⟨_, ⟨e0, a1, a2⟩ | ⟨_, _, a2⟩⟩
  · exact absurd rfl a0
  · exact ⟨e0, a2 m he, a1⟩
  · exact absurd he (a2 m)
theorem GDec.bad {b body : List Int} {kd er : Int} {m1 : Grm} {e : Int} (a : GDec b m1 e) (hu : unV b = (kd, body, er)) (h0 : er ≠ 0) : e = er ∧ m1 = grm0 := by
  unfold GDec at a
  rw [hu] at a
  rcases a with ⟨_, a1, a2⟩ | ⟨a0, _⟩
  · exact ⟨a1, a2⟩
  · exact absurd a0 h0
theorem layG {h : H} (m : Grm) : ∃ gm : (h.push (.row true 6 grm0.cells)).obj h.next = some (.row true 6 grm0.cells), ((h.push (.row true 6 grm0.cells)).set h.next (.row true 6 m.cells)).obj h.next = some (.row true 6 m.cells) ∧ Ab.Mod none_ h ((h.push (.row true 6 grm0.cells)).set h.next (.row true 6 m.cells)) := by
  have mp := Mod.push none_ h (.row true 6 grm0.cells)
  have gm : (h.push (.row true 6 grm0.cells)).obj h.next = some (.row true 6 grm0.cells) := H.obj_push_new _ _
  refine ⟨gm, H.obj_set_same gm, ?_⟩
  have ms := Mod.set (S := one h.next) (ob := .row true 6 m.cells) rfl gm rfl
  exact mp.trans' ms (S2 := none_) (fun _ _ k => k) (fun i hi k => absurd hi (by unfold one at k; omega))
def grmA : Grm := ⟨1, 3, 0, 0, 1, none, []⟩
def grmB : Grm := ⟨0, 4, 0, 0, 0, none, []⟩
theorem okg_nil {h : H} {cn k sq ak cd : Int} : Grm.ok h ⟨cn, k, sq, ak, cd, none, []⟩ := ⟨SlIs.nil _ _ _, fun _ k => (by cases k), Nat.zero_le _⟩
theorem encGA : gOk grmA = true ∧ (encG grmA).length = 14 := by decide +kernel
theorem encGB : gOk grmB = false := by decide +kernel
theorem un_nil : unV [] = (0, [], 2) := rfl
theorem awake48 (h : H) : ACalls Try.prog 48 [] h (fun r h' => r = .bool true ∧ Ab.Mod none_ h h') := by
  refine call_ Try.func48 rfl rfl (by kernel_rfl) ?_
  conv => whnf
  refine (genc49 grmA okg_nil).mono ?_
  rintro _ h1 ⟨q1, rfl, o1, m1⟩
  have bA := encG_bts (m := grmA) (fun _ k => by cases k)
  have uA := un_encG encGA.1
  have cA := canonG_enc encGA.1
  have lA := encGA.2
  rw [encGA.1]
  generalize encG grmA = b at *
  rw [lA] at o1 ⊢
  conv => whnf
  refine ⟨_, rfl, ?_⟩
  conv => whnf
  refine ⟨_, rfl, ?_⟩
  conv => whnf
  refine (gdec51 o1.is bA (by decide)).mono ?_
  rintro _ h2 ⟨mA, eA, rfl, kA, m2, dA⟩
  obtain ⟨rfl, eqA, _⟩ := dA.yes uA cA
  conv => whnf
  refine ⟨_, rfl, ?_⟩
  conv => whnf
  refine ⟨_, rfl, ?_⟩
  conv => whnf
  obtain ⟨g0, gA, m3⟩ := layG (h := h2) mA
  refine ⟨_, _, g0, Nat.le_of_ble_eq_true rfl, ?_⟩
  conv => whnf
  have mm := mod_none (mod_none m1 m2) m3
  refine (gdec51 (b := []) (SlIs.nil _ false 1) (fun _ k => by cases k) (by decide)).mono ?_
  rintro _ h4 ⟨mB, eB, rfl, kB, m4, dB⟩
  obtain ⟨rfl, rfl⟩ := dB.bad un_nil (by decide)
  conv => whnf
  refine ⟨_, rfl, ?_⟩
  conv => whnf
  refine ⟨_, rfl, ?_⟩
  conv => whnf
  obtain ⟨g0', _, m5⟩ := layG (h := h4) grm0
  refine ⟨_, _, g0', Nat.le_of_ble_eq_true rfl, ?_⟩
  conv => whnf
  have gA := m5.get (m4.get gA (.inl (fun k => k))) (.inl (fun k => k))
  have mm := mod_none (mod_none mm m4) m5
  refine (genc49 grmB okg_nil).mono ?_
  rintro _ h6 ⟨q6, rfl, o6, m6⟩
  rw [encGB]
  conv => whnf
  refine ⟨_, rfl, ?_⟩
  conv => whnf
  refine ⟨_, rfl, ?_⟩
  conv => whnf
  have gA := m6.get gA (.inl (fun k => k))
  refine ⟨_, Cell.mk gA rfl, ?_⟩
  have hc : mA.cd = 1 := by rw [eqA]; rfl
  have hn : mA.cn = 1 := by rw [eqA]; rfl
  rw [hc]
  conv => whnf
  refine ⟨_, Cell.mk gA rfl, ?_⟩
  rw [hn]
  conv => whnf
  exact ⟨rfl, mod_none mm m6⟩
theorem gtells14 {h : H} {p1 p2 : Option (Nat × Nat)} {n1 n2 : Nat} {b body : List Int} (m : Grm) (sm : SlIs h m.bp m.bd.length false 1 (ints .u8 m.bd)) (bm : Bts m.bd) (o1 : Oct h p1 n1 b) (b1 : Bts b) (kd : Int) (o2 : Oct h p2 n2 body) (b2 : Bts body) :
    ACalls Try.prog 14 [.agg m.cells, .sl p1 n1, i64 kd, .sl p2 n2] h (fun r _ => r = .bool true) := by
  have hl := o1.len
  subst hl
  have hl := o2.len
  subst hl
  refine call_ Try.func14 rfl rfl (by kernel_rfl) ?_
  conv => whnf
  have mm := Mod.push none_ h (.row true 6 m.cells)
  have g1 : (h.push (.row true 6 m.cells)).obj h.next = some (.row true 6 m.cells) := H.obj_push_new _ _
  refine ⟨_, Cell.mk g1 rfl, ?_⟩
  conv => whnf
  refine br_mk (fun ha => ?_) (fun ha => ?_)
  · conv => whnf
    refine (awake48 _).mono ?_
    rintro _ h' ⟨rfl, _⟩
    conv => whnf
  conv => whnf
  refine br_mk (fun hb => ?_) (fun hb => ?_)
  · conv => whnf
    refine (awake48 _).mono ?_
    rintro _ h' ⟨rfl, _⟩
    conv => whnf
  conv => whnf
  refine br_mk (fun hc => ?_) (fun hc => ?_)
  · conv => whnf
    refine (awake48 _).mono ?_
    rintro _ h' ⟨rfl, _⟩
    conv => whnf
  conv => whnf
  simp at ha hb hc
  have km : m.ok (h.push (.row true 6 m.cells)) := ⟨SlIs.old sm mm (fun _ _ k => k), bm, by omega⟩
  refine ⟨m.cells, Cells.mk g1 (Nat.le_of_ble_eq_true rfl) rfl, ?_⟩
  conv => whnf
  refine (genc49 m km).mono ?_
  rintro _ h3 ⟨q3, rfl, o3, m3⟩
  conv => whnf
  refine ⟨_, rfl, ?_⟩
  conv => whnf
  refine ⟨_, rfl, ?_⟩
  conv => whnf
  have km := km.old m3 (fun _ _ k => k)
  have g1 := m3.get g1 (.inl (fun k => k))
  have mm := mod_none mm m3
  refine ⟨m.cells, Cells.mk g1 (Nat.le_of_ble_eq_true rfl) rfl, ?_⟩
  conv => whnf
  refine (gref50 m km).mono ?_
  rintro _ h4 ⟨q4, rfl, o4, m4⟩
  conv => whnf
  refine ⟨_, rfl, ?_⟩
  conv => whnf
  refine ⟨_, rfl, ?_⟩
  conv => whnf
  have o3 := o3.get m4
  have mm := mod_none mm m4
  refine ⟨_, o3.is, encG_bts bm, ?_⟩
  conv => whnf
  refine ⟨_, o4.is, encG_bts bm, ?_⟩
  conv => whnf
  refine br_mk (fun hh => absurd hh (by simp)) (fun _ => ?_)
  conv => whnf
  refine br_mk (fun hh => absurd hh (by simp)) (fun _ => ?_)
  conv => whnf
  refine (round33 (m := 6) (by decide) (by decide) kd h4).mono ?_
  rintro _ h' ⟨eh, rfl⟩
  subst h'
  conv => whnf
  refine (wrap37 (SlIs.old o2.is mm (fun _ _ k => k)) (by unfold maxLen; omega) (kd % 6)).mono ?_
  rintro _ h5 ⟨q5, rfl, o5, m5⟩
  conv => whnf
  refine ⟨_, rfl, ?_⟩
  conv => whnf
  refine ⟨_, rfl, ?_⟩
  conv => whnf
  have mm := mod_none mm m5
  have o1 := o1.get mm
  have lw := wrV_len (x := kd % 6) (xs := body)
  have bw := wrV_bts (x := kd % 6) b2
  generalize wrV (kd % 6) body = w at *
  refine ⟨fun env hh => ∃ (a : Nat) (z : Int) (pp : Option (Nat × Nat)) (cs : List Int), a ≤ 2 ∧ z = a ∧ Oct hh pp cs.length cs ∧ Bts cs ∧ cs.length ≤ 400 ∧ Oct hh q5 w.length w ∧ env = [(15, i64 z), (13, .sl q5 w.length), (1, .sl pp cs.length)],
    fun env _ => match get env 15 with
      | .int _ z => (2 - z).toNat
      | _ => 0, ⟨_, Forget.cons rfl (Forget.cons rfl (Forget.cons rfl (Forget.nil _))), 0, _, p1, b, Nat.zero_le _, rfl, o1, b1, by omega, o5, rfl⟩, ?_⟩
  rintro _ h6 ⟨a, z, pp, cs, ha2, rfl, oc, bc, lc, o5, rfl⟩
  conv => whnf
  refine br_mk (fun hd => ?_) (fun hd => ?_)
  rotate_left
  · conv => whnf
    refine (awake48 _).mono ?_
    rintro _ h' ⟨rfl, _⟩
    conv => whnf
  simp at hd
  conv => whnf
  refine (gdec51 oc.is bc (by omega)).mono ?_
  rintro _ h7 ⟨u, eu, rfl, ku, m7, du⟩
  conv => whnf
  refine ⟨_, rfl, ?_⟩
  conv => whnf
  refine ⟨_, rfl, ?_⟩
  conv => whnf
  obtain ⟨g0, gu, m8⟩ := layG (h := h7) u
  refine ⟨_, _, g0, Nat.le_of_ble_eq_true rfl, ?_⟩
  conv => whnf
  have m78 := mod_none m7 m8
  have ku := ku.old m8 (fun _ _ k => k)
  refine (gdec52 (oc.get m78).is bc (by omega)).mono ?_
  rintro _ h9 ⟨v, ev, rfl, kv, m9, dv⟩
  conv => whnf
  refine ⟨_, rfl, ?_⟩
  conv => whnf
  refine ⟨_, rfl, ?_⟩
  conv => whnf
  obtain ⟨g0', gv, m10⟩ := layG (h := h9) v
  refine ⟨_, _, g0', Nat.le_of_ble_eq_true rfl, ?_⟩
  conv => whnf
  have m910 := mod_none m9 m10
  have ku := ku.old m910 (fun _ _ k => k)
  have gu := m910.get gu (.inl (fun k => k))
  have kv := kv.old m10 (fun _ _ k => k)
  obtain ⟨ee, suv⟩ := du.alike dv
  subst ee
  refine ⟨u.cells, Cells.mk gu (Nat.le_of_ble_eq_true rfl) rfl, ?_⟩
  conv => whnf
  refine ⟨v.cells, Cells.mk gv (Nat.le_of_ble_eq_true rfl) rfl, ?_⟩
  conv => whnf
  refine (same53 u v ku kv).mono ?_
  rintro _ h11 ⟨rfl, m11⟩
  rw [suv]
  conv => whnf
  refine br_mk (fun hh => absurd hh (by simp)) (fun _ => ?_)
  conv => whnf
  have o5 := (o5.get (mod_none m78 m910)).get m11
  have hs2 := succ_i64 (j := a) (n := 2) (by omega) (by omega)
  refine ⟨_, Forget.cons rfl (Forget.cons rfl (Forget.cons rfl (Forget.nil _))), ⟨a + 1, _, q5, w, by omega, hs2, o5, bw, by omega, o5, rfl⟩, ?_⟩
  show ((2 : Int) - IntKind.i64.wrap ((a : Int) + 1)).toNat < ((2 : Int) - (a : Int)).toNat
  rw [hs2]
  omega
theorem rd_grm {D : Type} {h : H} {d : DataW D} {c : List V} (r : RD T h 21 87 d c) : ∃ m : Grm, c = m.cells ∧ RoSl h m.bp m.bd.length 1 (ints .u8 m.bd) ∧ Bts m.bd := by
  obtain ⟨ds, css, rfl, q⟩ := rd_st (T := T) (n := 20) (fs := [(3, 0), (3, 1), (3, 2), (3, 3), (3, 4), (26, 5)]) rfl r
  obtain ⟨d1, c1, _, _, rfl, r1, q⟩ := rdf_cons q
  obtain ⟨d2, c2, _, _, rfl, r2, q⟩ := rdf_cons q
  obtain ⟨d3, c3, _, _, rfl, r3, q⟩ := rdf_cons q
  obtain ⟨d4, c4, _, _, rfl, r4, q⟩ := rdf_cons q
  obtain ⟨d5, c5, _, _, rfl, r5, q⟩ := rdf_cons q
  obtain ⟨d6, c6, _, _, rfl, r6, q⟩ := rdf_cons q
  obtain rfl := rdf_nil q
  obtain ⟨x1, rfl, _⟩ := rd_int (T := T) (n := 19) (k := .i64) rfl r1
  obtain ⟨x2, rfl, _⟩ := rd_int (T := T) (n := 19) (k := .i64) rfl r2
  obtain ⟨x3, rfl, _⟩ := rd_int (T := T) (n := 19) (k := .i64) rfl r3
  obtain ⟨x4, rfl, _⟩ := rd_int (T := T) (n := 19) (k := .i64) rfl r4
  obtain ⟨x5, rfl, _⟩ := rd_int (T := T) (n := 19) (k := .i64) rfl r5
  obtain ⟨p6, n6, vs, rfl, _, o6, b6⟩ := rd_slice_ints (T := T) (n := 18) (e := 5) (k := .u8) rfl rfl rfl r6
  have e6 : n6 = vs.length := by
    have := o6.1
    rw [ints_length] at this
    omega
  subst e6
  exact ⟨⟨x1, x2, x3, x4, x5, p6, vs⟩, rfl, o6, bts_of b6⟩
end Go.Proofs.Ytnpfdppmpmnhbaa
