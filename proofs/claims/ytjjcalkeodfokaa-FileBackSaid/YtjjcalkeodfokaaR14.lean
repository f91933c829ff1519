/- Files: what the document fixes; the law FileTells. -/
import Derived.Test.YtjjcalkeodfokaaR13
set_option linter.unusedVariables false
namespace Go.Proofs.Ytjjcalkeodfokaa
open Go Go.Ab
theorem encF_nil (g : Gra) : ¬ EncF [] g := fun e => by
  have h := e.is
  have := congrArg List.length h
  rw [List.length_append, sum4_length] at this
  simp at this
theorem DecFA.yes {b : List Int} {g g1 : Gra} {ok : Bool} (a : DecFA b g1 ok) (e : EncF b g) : ok = true ∧ eqG g g1 := by
  rcases a with ⟨rfl, _, a2⟩ | ⟨rfl, _, a2⟩
  · exact ⟨rfl, a2 g e⟩
  · exact absurd e (a2 g)
theorem DecFA.no {b : List Int} {g1 : Gra} {ok : Bool} (a : DecFA b g1 ok) (e : ∀ g, ¬ EncF b g) : ok = false ∧ g1 = gra0 := by
  rcases a with ⟨rfl, a1, _⟩ | ⟨rfl, a1, _⟩
  · exact absurd a1 (e _)
  · exact ⟨rfl, a1⟩
theorem sameG_refl (g : Gra) : sameG g g = true := sameG_iff.2 ⟨rfl, rfl, rfl⟩
theorem DecFA.alike {b : List Int} {g1 g2 : Gra} {o1 o2 : Bool} (a : DecFA b g1 o1) (c : DecFA b g2 o2) : o1 = o2 ∧ sameG g1 g2 = true := by
  rcases a with ⟨rfl, a1, a2⟩ | ⟨rfl, rfl, a2⟩
  · obtain ⟨rfl, e⟩ := c.yes a1
    exact ⟨rfl, sameG_iff.2 e⟩
  · obtain ⟨rfl, rfl⟩ := c.no a2
    exact ⟨rfl, sameG_refl _⟩
def graA (p : Option (Nat × Nat)) : Gra := ⟨p, [(258, 0)], none, [], none, []⟩
theorem graA_kn (p : Option (Nat × Nat)) : mayG (graA p) = true ∧ (encF (graA p)).length = 18 ∧ (encF (graA p)).take 12 = [77, 73, 76, 69, 0, 1, 0, 0, 0, 0, 1, 2] := by
  have h1 : mayG (graA p) = mayG (graA none) := rfl
  have h2 : encF (graA p) = encF (graA none) := rfl
  rw [h1, h2]
  decide +kernel
theorem gra0_kn : mayG gra0 = false := by decide +kernel
theorem laid {h : H} (g : Gra) : ∃ gm : (h.push (.row true 3 gra0.cells)).obj h.next = some (.row true 3 gra0.cells), ((h.push (.row true 3 gra0.cells)).set h.next (.row true 3 g.cells)).obj h.next = some (.row true 3 g.cells) ∧ Ab.Mod none_ h ((h.push (.row true 3 gra0.cells)).set h.next (.row true 3 g.cells)) := lay_row _ _
set_option maxHeartbeats 1000000 in
theorem awake7 (h : H) : ACalls Try.prog 7 [] h (fun r h' => r = .bool true ∧ Ab.Mod none_ h h') := by
  refine call_ Try.func7 rfl rfl (by kernel_rfl) ?_
  conv => whnf
  have mp := Mod.push none_ h (.row true 2 [i64 258, i64 0])
  have okA : (graA (some (h.next, 0))).ok (h.push (.row true 2 [i64 258, i64 0])) := ⟨(SlIs.row (n := 1) (cs := pC (258, 0)) (H.obj_push_new _ _) rfl).weak, SlIs.nil _ _ _, SlIs.nil _ _ _, Nat.le_of_ble_eq_true rfl, Nat.le_of_ble_eq_true rfl, Nat.le_of_ble_eq_true rfl⟩
  refine (encode9 (graA (some (h.next, 0))) okA).mono ?_
  rintro _ h1 ⟨q1, rfl, o1, m1⟩
  obtain ⟨k1, k2, k3⟩ := graA_kn (some (h.next, 0))
  have bA := encF_bts (graA (some (h.next, 0)))
  have eA := encF_iff k1 rfl
  rw [k1]
  generalize encF (graA (some (h.next, 0))) = b at *
  rw [k2] at o1 ⊢
  have mm := mod_none mp m1
  conv => whnf
  refine ⟨_, rfl, ?_⟩
  conv => whnf
  refine ⟨_, rfl, ?_⟩
  conv => whnf
  refine (decode11 o1.is bA (by decide)).mono ?_
  rintro _ h2 ⟨gA, okk, rfl, kA, m2, dA⟩
  obtain ⟨rfl, eqA⟩ := dA.yes eA
  conv => whnf
  refine ⟨_, rfl, ?_⟩
  conv => whnf
  refine ⟨_, rfl, ?_⟩
  conv => whnf
  obtain ⟨g0, lA, m3⟩ := laid (h := h2) gA
  refine ⟨_, _, g0, Nat.le_of_ble_eq_true rfl, ?_⟩
  conv => whnf
  have mm := mod_none (mod_none mm m2) m3
  have o1 := (o1.get m2).get m3
  have kA := kA.old m3 (fun _ _ k => k)
  refine (decode11 (b := []) (SlIs.nil _ false 1) (fun _ k => by cases k) (by decide)).mono ?_
  rintro _ h4 ⟨gB, okB, rfl, kB, m4, dB⟩
  obtain ⟨rfl, rfl⟩ := dB.no encF_nil
  conv => whnf
  refine ⟨_, rfl, ?_⟩
  conv => whnf
  refine ⟨_, rfl, ?_⟩
  conv => whnf
  obtain ⟨g0', _, m5⟩ := laid (h := h4) gra0
  refine ⟨_, _, g0', Nat.le_of_ble_eq_true rfl, ?_⟩
  conv => whnf
  have lA := m5.get (m4.get lA (.inl (fun k => k))) (.inl (fun k => k))
  have mm := mod_none (mod_none mm m4) m5
  have o1 := (o1.get m4).get m5
  have kA := (kA.old m4 (fun _ _ k => k)).old m5 (fun _ _ k => k)
  refine (encode9 gra0 (gra0_ok _)).mono ?_
  rintro _ h6 ⟨q6, rfl, o6, m6⟩
  rw [gra0_kn]
  conv => whnf
  refine ⟨_, rfl, ?_⟩
  conv => whnf
  refine ⟨_, rfl, ?_⟩
  conv => whnf
  have lA := m6.get lA (.inl (fun k => k))
  have o1 := o1.get m6
  have kA := kA.old m6 (fun _ _ k => k)
  have mm := mod_none mm m6
  refine ⟨⟨_, o1.is⟩, ?_⟩
  conv => whnf
  refine ⟨12, rfl, Nat.zero_le _, by omega, ?_⟩
  conv => whnf
  have oc := o1.cut (l := 0) (m := 12) (by omega) (by omega)
  refine ⟨_, oc.is, fun x hx => bA x (List.mem_of_mem_drop (List.mem_of_mem_take hx)), ?_⟩
  rw [show (b.drop 0).take (12 - 0) = b.take 12 from rfl, k3]
  conv => whnf
  have hn : gA.ns = [(258, 0)] := eqA.1
  have hl : gA.ns.length = 1 := by rw [hn]; rfl
  refine ⟨_, Cell.mk lA rfl, ?_⟩
  rw [hl]
  conv => whnf
  refine ⟨_, Cell.mk lA rfl, ?_⟩
  conv => whnf
  obtain ⟨i, c, e1, _, kc⟩ := sls_get pC_len kA.n rfl (j := 0) (by omega)
  refine ⟨i, c, 0, e1, rfl, by omega, ?_⟩
  conv => whnf
  have e2 : gA.ns[0] = (258, 0) := by simp only [hn]; rfl
  refine ⟨_, kc 0 (i64 258) (by rw [e2]; rfl), ?_⟩
  conv => whnf
  exact ⟨rfl, mm⟩
theorem SlIs.ro_weak {h : H} {p : Option (Nat × Nat)} {n sz : Nat} {cs : List V} (s : SlIs h p n false sz cs) (i : Nat) : SlIs (h.ro i) p n false sz cs := by
  obtain ⟨h1, h2⟩ := s
  refine ⟨h1, ?_⟩
  rcases h2 with h2 | ⟨j, o, o', r, e1, e2, e3, e4⟩
  · exact .inl h2
  · by_cases k : j = i
    · subst k
      exact .inr ⟨j, o, false, r, e1, H.ro_same e2, (fun k => (by cases k)), e4⟩
    · exact .inr ⟨j, o, o', r, e1, by rw [H.ro_ne _ k, e2], e3, e4⟩
theorem Gra.ok.ro {h : H} {g : Gra} (o : g.ok h) (i : Nat) : g.ok (h.ro i) := ⟨SlIs.ro_weak o.n i, SlIs.ro_weak o.e i, SlIs.ro_weak o.b i, o.ln, o.le, o.lb⟩
/-- Encode; and what b holds is not turned any more -/
theorem encode9f {h : H} (g : Gra) (ok : g.ok h) {p : Option (Nat × Nat)} {n bx : Nat} {b : List Int} (s : SlIs h p n false 1 (ints .u8 b)) (gb : h.obj bx = some (.row true 3 g.cells)) (hp : ∀ c, p = some (bx, c) → n = 0) :
    ACalls Try.prog 9 [.agg g.cells] h (fun r h' => (∃ q, r = .tup [.sl q (encF g).length, i64 (if mayG g then 0 else 1)] ∧ Oct h' q (encF g).length (encF g)) ∧ Oct h' p n b ∧ h'.obj bx = some (.row true 3 g.cells) ∧ g.ok h') := by
  refine ACalls.ro (encode9 g ok) ?_
  rintro r h' ⟨q, e, o, m⟩
  have s := SlIs.old s m (fun _ _ k => k)
  have gb := m.get gb (.inl (fun k => k))
  have ok := ok.old m (fun _ _ k => k)
  have hlt := h'.lt _ _ gb
  by_cases hn : n = 0
  · refine ⟨h'.next, ⟨q, e, RoSl.ro o _⟩, ⟨s.1, .inl hn⟩, ?_, ok.ro _⟩
    rw [H.ro_ne _ (by omega), gb]
  obtain ⟨i, hi, k⟩ := SlIs.freeze s
  refine ⟨i, ⟨q, e, RoSl.ro o i⟩, k, ?_, ok.ro i⟩
  rw [H.ro_ne _ (fun e => ?_), gb]
  subst e
  rcases hi with ⟨c, hi⟩ | hi
  · exact hn (hp c hi)
  · omega
set_option maxHeartbeats 1000000 in
theorem ftells3 {h : H} (g : Gra) (on : SlIs h g.np g.ns.length false 2 (g.ns.flatMap pC)) (oe : SlIs h g.ep g.es.length false 3 (g.es.flatMap eC)) (ob : SlIs h g.bp g.bs.length false 2 (g.bs.flatMap pC)) {p : Option (Nat × Nat)} {n : Nat} {b : List Int} (o : Oct h p n b) (bb : Bts b) (fix : Bool) :
    ACalls Try.prog 3 [.agg g.cells, .sl p n, .bool fix] h (fun r _ => r = .bool true) := by
  have hl := o.len
  subst hl
  refine call_ Try.func3 rfl rfl (by kernel_rfl) ?_
  conv => whnf
  have mm := Mod.push none_ h (.row true 3 g.cells)
  have gb : (h.push (.row true 3 g.cells)).obj h.next = some (.row true 3 g.cells) := H.obj_push_new _ _
  refine ⟨_, Cells.mk gb (Nat.le_of_ble_eq_true rfl) rfl, ?_⟩
  conv => whnf
  refine (few6 g).mono ?_
  rintro _ h1 ⟨rfl, m1⟩
  have gb := m1.get gb (.inl (fun k => k))
  have mm := mod_none mm m1
  clear m1
  conv => whnf
  refine br_mk (fun ha => ?_) (fun ha => ?_)
  · conv => whnf
    refine (awake7 _).mono ?_
    rintro _ h' ⟨rfl, _⟩
    conv => whnf
  conv => whnf
  have ha : fewG g = true := by simpa using ha
  refine br_mk (fun hb => ?_) (fun hb => ?_)
  · conv => whnf
    refine (awake7 _).mono ?_
    rintro _ h' ⟨rfl, _⟩
    conv => whnf
  conv => whnf
  simp at hb
  simp only [fewG, Bool.and_eq_true, decide_eq_true_eq] at ha
  have ok : g.ok h1 := ⟨SlIs.old on mm (fun _ _ k => k), SlIs.old oe mm (fun _ _ k => k), SlIs.old ob mm (fun _ _ k => k), by omega, by omega, by omega⟩
  have o0 := o
  have o := o.get mm
  have hp1 : ∀ c, p = some (h.next, c) → b.length = 0 := by
    rintro c rfl
    rcases o0.2 with k | ⟨i, c', r, e, k, _⟩
    · exact k
    · injection e with e
      injection e with e
      subst e
      exact absurd (h.lt _ _ k) (Nat.lt_irrefl _)
  have hn1 : h.next < h1.next := h1.lt _ _ gb
  refine br_mk (fun hc => ?_) (fun hc => ?_)
  conv => whnf
  refine br_mk (fun hd => ?_) (fun hd => ?_)
  conv => whnf
  simp at hd
  obtain ⟨N, hN⟩ : ∃ N, b.length = N + 4 := ⟨b.length - 4, by omega⟩
  have e4 : IntKind.i64.wrap ((b.length : Int) - 4) = (N : Int) := by
    rw [wrap_i64 (by omega) (by omega)]
    omega
  rw [e4]
  refine ⟨⟨_, o.is⟩, ?_⟩
  conv => whnf
  refine ⟨N, rfl, Nat.zero_le _, by omega, ?_⟩
  conv => whnf
  have oc : Oct h1 (slp p 0) (N - 0) (b.take N) := o.cut (Nat.zero_le N) (by omega)
  refine (sum35 oc.is (by omega)).mono ?_
  rintro _ h' ⟨eh, rfl⟩
  subst h'
  conv => whnf
  have w0 := NewS.empty h1 .u8
  have o := o.get w0.2.2
  have oc := oc.get w0.2.2
  refine ⟨⟨_, o.is⟩, ?_⟩
  conv => whnf
  refine ⟨N, rfl, Nat.zero_le _, by omega, ?_⟩
  conv => whnf
  refine ⟨_, _, w0.1, oc.is, by rw [T5b]; omega, by omega, fun p3 h3 hs3 hm3 hf3 => ?_⟩
  have w3 := w0.app hs3 hm3 hf3
  rw [List.nil_append] at w3
  clear hs3 hm3 hf3
  conv => whnf
  refine ⟨by decide, ?_⟩
  conv => whnf
  refine ⟨by decide, ?_⟩
  conv => whnf
  refine ⟨by decide, ?_⟩
  conv => whnf
  have w4 := w3.keep (Mod.push none_ h3 (.row true 1 (ints .u8 (sum4 (sumV (b.take N))))))
  refine ⟨_, ints .u8 (sum4 (sumV (b.take N))), w4.1, (SlIs.row (n := 4) (H.obj_push_new h3 (.row true 1 (ints .u8 (sum4 (sumV (b.take N)))))) rfl).weak, by rw [T5b]; omega, by omega, fun p5 h5 hs5 hm5 hf5 => ?_⟩
  have w5 := w4.app hs5 hm5 hf5
  clear hs5 hm5 hf5
  conv => whnf
  have m8 := w5.2.2
  have b3 : Bts (b.take N ++ sum4 (sumV (b.take N))) := (bts_take bb N).append (sum4_bts _)
  have hp8 : ∀ c, p5 = some (h.next, c) → 0 + (N - 0) + 4 = 0 := fun c e => by
    have := w5.2.1 _ _ e
    omega
  have w8 := w5.1.weak
  have l8 : 0 + (N - 0) + 4 ≤ 1600 := by omega
  have ok := ok.old m8 (fun _ _ k => k)
  have gb := m8.get gb (.inl (fun k => k))
  clear w0 w3 w4 w5 o oc o0
  generalize b.take N ++ sum4 (sumV (b.take N)) = b' at *
  generalize 0 + (N - 0) + 4 = n' at *
  generalize p5 = p' at *
  rotate_left
  conv => whnf
  obtain ⟨b', hb'⟩ : ∃ b', b' = b := ⟨_, rfl⟩
  have b3 : Bts b' := hb' ▸ bb
  have w8 : SlIs h1 p b.length false 1 (ints .u8 b') := hb' ▸ o.is
  have l8 : b.length ≤ 1600 := by omega
  have hp8 := hp1
  generalize b.length = n' at *
  generalize p = p' at *
  rotate_left
  conv => whnf
  obtain ⟨b', hb'⟩ : ∃ b', b' = b := ⟨_, rfl⟩
  have b3 : Bts b' := hb' ▸ bb
  have w8 : SlIs h1 p b.length false 1 (ints .u8 b') := hb' ▸ o.is
  have l8 : b.length ≤ 1600 := by omega
  have hp8 := hp1
  generalize b.length = n' at *
  generalize p = p' at *
  rotate_left
  all_goals
    refine ⟨_, Cells.mk gb (Nat.le_of_ble_eq_true rfl) rfl, ?_⟩
    conv => whnf
    refine (encode9f g ok w8 gb hp8).mono ?_
    rintro _ h9 ⟨⟨q9, rfl, o9⟩, o8, gb, ok⟩
    conv => whnf
    refine ⟨_, rfl, ?_⟩
    conv => whnf
    refine ⟨_, rfl, ?_⟩
    conv => whnf
    refine ⟨_, Cells.mk gb (Nat.le_of_ble_eq_true rfl) rfl, ?_⟩
    conv => whnf
    refine (file10 g ok).mono ?_
    rintro _ h10 ⟨q10, rfl, o10, m10⟩
    conv => whnf
    refine ⟨_, rfl, ?_⟩
    conv => whnf
    refine ⟨_, rfl, ?_⟩
    conv => whnf
    have o9 := o9.get m10
    have o8 := o8.get m10
    refine (decode11 o8.is b3 (by omega)).mono ?_
    rintro _ h11 ⟨g1, ok1, rfl, k1, m11, d1⟩
    conv => whnf
    refine ⟨_, rfl, ?_⟩
    conv => whnf
    refine ⟨_, rfl, ?_⟩
    conv => whnf
    obtain ⟨g0, l1, m12⟩ := laid (h := h11) g1
    refine ⟨_, _, g0, Nat.le_of_ble_eq_true rfl, ?_⟩
    conv => whnf
    have o9 := (o9.get m11).get m12
    have o10 := (o10.get m11).get m12
    have o8 := (o8.get m11).get m12
    have k1 := k1.old m12 (fun _ _ k => k)
    refine (read12 o8 b3 (by omega)).mono ?_
    rintro _ h13 ⟨g2, ok2, rfl, k2, m13, d2⟩
    conv => whnf
    refine ⟨_, rfl, ?_⟩
    conv => whnf
    refine ⟨_, rfl, ?_⟩
    conv => whnf
    obtain ⟨g0', l2, m14⟩ := laid (h := h13) g2
    refine ⟨_, _, g0', Nat.le_of_ble_eq_true rfl, ?_⟩
    conv => whnf
    have o9 := (o9.get m13).get m14
    have o10 := (o10.get m13).get m14
    have k1 := (k1.old m13 (fun _ _ k => k)).old m14 (fun _ _ k => k)
    have k2 := k2.old m14 (fun _ _ k => k)
    have l1 := m14.get (m13.get l1 (.inl (fun k => k))) (.inl (fun k => k))
    obtain ⟨rfl, hs⟩ := d1.alike d2
    refine ⟨_, o9.is, encF_bts g, ?_⟩
    conv => whnf
    refine ⟨_, o10.is, encF_bts g, ?_⟩
    conv => whnf
    rw [show (encF g == encF g) = true from beq_self_eq_true _]
    cases hm : mayG g <;> cases ok1 <;> conv => whnf
    all_goals
      refine ⟨_, Cells.mk l1 (Nat.le_of_ble_eq_true rfl) rfl, ?_⟩
      conv => whnf
      refine ⟨_, Cells.mk l2 (Nat.le_of_ble_eq_true rfl) rfl, ?_⟩
      conv => whnf
      refine (same13 g1 g2 k1 k2).mono ?_
      rintro _ h15 ⟨rfl, m15⟩
      rw [hs]
      conv => whnf
      refine (awake7 _).mono ?_
      rintro _ h' ⟨rfl, _⟩
      conv => whnf
end Go.Proofs.Ytjjcalkeodfokaa
