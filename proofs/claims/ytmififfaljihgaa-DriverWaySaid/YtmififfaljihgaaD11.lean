/- The driver: Report. -/
import Derived.Test.YtmififfaljihgaaD10
set_option linter.unusedVariables false
namespace Go.Proofs.Ytmififfaljihgaa
open Go Go.Ab
def repM (p : Int) : Msg := ⟨2, p, 0, none, [], 0, 0, 0, 0, 0⟩
theorem repM_ok (h : H) (p : Int) : (repM p).ok h := ⟨SlIs.nil _ _ _, (by decide : (-9223372036854775808 : Int) ≤ 0), (by decide : (0 : Int) ≤ 9223372036854775807), Nat.zero_le _⟩
/-- the way behind a place that was told -/
def repD (v : DV) (p : Int) : DV :=
  if v.has = true ∧ v.way.head? = some p then { v with way := v.way.tail, pos := p }
  else if p ≠ v.pos then { v with way := [], has := false, pos := p } else { v with pos := p }
def ReportQ (h : H) (di : Nat) (d : CId) (po : Option (Nat × Nat)) (v : DV) (R : (List GV × Int) × CV) (p : Int) (r : V) (h' : H) : Prop :=
  (v.live = false ∧ r = .tup [.sl none 0, i64 4] ∧ h' = h) ∨
  (v.live = true ∧ inR p 0 65535 = false ∧ r = .tup [.sl none 0, i64 1] ∧ h' = h) ∨
  (v.live = true ∧ inR p 0 65535 = true ∧ ∃ q po' out v', r = .tup [.sl q out.length, i64 R.1.2] ∧ Rws h' q out ∧ DrS h' di d po' v' R.2 ∧ (∀ i, inSl po' i → inSl po i ∨ h.next ≤ i) ∧ Ab.Mod (drAll di d po) h h' ∧
    ((R.1.2 ≠ 0 ∧ out = [] ∧ v' = v) ∨ (R.1.2 = 0 ∧ out = R.1.1.map encV ∧ v' = repD v p)))
theorem DrS.set {h : H} {di : Nat} {d : CId} {po : Option (Nat × Nat)} {v : DV} {cv : CV} (s : DrS h di d po v cv) {cs : List V} (b : h.obj di = some (.row true 13 cs)) {v' : DV} {pw' : Option (Nat × Nat)} (w : RoSl h pw' v'.way.length 1 (ints .i64 v'.way)) :
    DrS (h.set di (.row true 13 (drow v' (.ptr (some (d.c, 0))) pw'))) di d po v' cv ∧ Ab.Mod (one di) h (h.set di (.row true 13 (drow v' (.ptr (some (d.c, 0))) pw'))) ∧ (h.set di (.row true 13 (drow v' (.ptr (some (d.c, 0))) pw'))).obj di = some (.row true 13 (drow v' (.ptr (some (d.c, 0))) pw')) ∧ RoSl (h.set di (.row true 13 (drow v' (.ptr (some (d.c, 0))) pw'))) pw' v'.way.length 1 (ints .i64 v'.way) := by
  have mS : Ab.Mod (one di) h (h.set di (.row true 13 (drow v' (.ptr (some (d.c, 0))) pw'))) := Mod.set rfl b rfl
  exact ⟨⟨⟨pw', H.obj_set_same b, w.get mS⟩, s.ch.get mS (fun i hi k => s.sep (by have : i = di := k; rw [← this]; exact hi)), s.sep⟩, mS, H.obj_set_same b, w.get mS⟩
set_option maxHeartbeats 1000000 in
theorem dReport {h : H} {di : Nat} {d : CId} {po : Option (Nat × Nat)} {v : DV} {cv : CV} (s : DrS h di d po v cv) (g : CG cv) (hN : cv.cnt ≤ 1000000) {now : Int} (hn0 : -1000000000 ≤ now) (hn1 : now ≤ 1000000000) (p : Int) (hl : (encB (repM p)).length ≤ 100000) (hf : ∀ b : List Int, (pushV cv now b).1.1.length ≤ 100000) :
    ACalls Try.prog 19 [.ptr (some (di, 0)), i64 now, i64 p] h (ReportQ h di d po v (pushV cv now (encB (repM p))) p) := by
  refine call_ Try.func19 rfl rfl (by kernel_rfl) ?_
  conv => whnf
  refine (dLive s.b).mono ?_
  rintro _ h1 ⟨eh, rfl⟩
  subst eh
  cases el : v.live with
  | false =>
    conv => whnf
    exact .inl ⟨el, rfl, rfl⟩
  | true =>
  conv => whnf
  refine (within27 _ p).mono ?_
  rintro _ h2 ⟨eh, rfl⟩
  subst eh
  cases e1 : inR p 0 65535 with
  | false =>
    conv => whnf
    exact .inr (.inl ⟨el, e1, rfl, rfl⟩)
  | true =>
  conv => whnf
  refine (dPush s g hN hn0 hn1 (repM p) (repM_ok _ p) hl hf).mono ?_
  rintro _ h3 ⟨q3, po3, rfl, rw3, s3, hp3, m3⟩
  generalize pushV cv now (encB (repM p)) = R at *
  conv => whnf
  refine ⟨_, rfl, ?_⟩
  conv => whnf
  refine ⟨_, rfl, ?_⟩
  conv => whnf
  refine br_mk (fun he => ?_) (fun he => ?_)
  · have he : ¬ R.1.2 = 0 := by simpa using he
    conv => whnf
    exact .inr (.inr ⟨el, e1, none, po3, [], v, rfl, rws_nil _, s3, hp3, m3.mono (fun _ _ k => .inr k), .inl ⟨he, rfl, rfl⟩⟩)
  have he : R.1.2 = 0 := by simpa using he
  obtain ⟨pw, b1, b2⟩ := s3.box
  conv => whnf
  refine ⟨_, Cell.mk b1 rfl, ?_⟩
  have hsl := slo_len b2.is
  cases eh : v.has with
  | false =>
    conv => whnf
    have hno : ¬ (v.has = true ∧ v.way.head? = some p) := fun q => by rw [eh] at q; cases q.1
    refine ⟨_, Cell.mk b1 rfl, ?_⟩
    conv => whnf
    refine br_mk (fun hy => ?_) (fun hy => ?_)
    · have hy : p ≠ v.pos := by simpa using hy
      have ed : repD v p = { v with way := [], has := false, pos := p } := by rw [repD, if_neg hno, if_pos hy]
      conv => whnf
      refine ⟨_, _, b1, Nat.le_of_ble_eq_true rfl, ?_⟩
      conv => whnf
      obtain ⟨s4, m4, b4, w4⟩ := s3.set b1 (v' := { v with way := [] }) (pw' := none) ⟨rfl, .inl rfl⟩
      refine ⟨_, _, b4, Nat.le_of_ble_eq_true rfl, ?_⟩
      conv => whnf
      obtain ⟨s5, m5, b5, w5⟩ := s4.set b4 (v' := { v with way := [], has := false }) (pw' := none) w4
      refine ⟨_, _, b5, Nat.le_of_ble_eq_true rfl, ?_⟩
      conv => whnf
      obtain ⟨s6, m6, b6, w6⟩ := s5.set b5 (v' := { v with way := [], has := false, pos := p }) (pw' := none) w5
      have mm := (m4.trans' m5 (S2 := one di) (fun _ _ k => k) (fun _ _ k => k)).trans' m6 (S2 := one di) (fun _ _ k => k) (fun _ _ k => k)
      exact .inr (.inr ⟨el, e1, q3, po3, _, _, by rw [he], rw3.get mm, s6, hp3, m3.trans' mm (fun _ _ k => .inr k) (fun _ _ k => .inl k), .inr ⟨he, rfl, ed.symm⟩⟩)
    · have hy : ¬ p ≠ v.pos := by simpa using hy
      have ed : repD v p = { v with pos := p } := by rw [repD, if_neg hno, if_neg hy]
      conv => whnf
      refine ⟨_, _, b1, Nat.le_of_ble_eq_true rfl, ?_⟩
      conv => whnf
      obtain ⟨s6, m6, b6, w6⟩ := s3.set b1 (v' := { v with pos := p }) (pw' := pw) b2
      exact .inr (.inr ⟨el, e1, q3, po3, _, _, by rw [he], rw3.get m6, s6, hp3, m3.trans' m6 (fun _ _ k => .inr k) (fun _ _ k => .inl k), .inr ⟨he, rfl, ed.symm⟩⟩)
  | true =>
    conv => whnf
    refine ⟨_, Cell.mk b1 rfl, ?_⟩
    conv => whnf
    by_cases hw : v.way.length = 0
    · rw [decide_eq_false (show ¬ ((v.way.length : Int) > 0) by omega)]
      conv => whnf
      have hno : ¬ (v.has = true ∧ v.way.head? = some p) := fun q => by
        rw [List.length_eq_zero_iff.1 hw] at q
        cases q.2
      refine ⟨_, Cell.mk b1 rfl, ?_⟩
      conv => whnf
      refine br_mk (fun hy => ?_) (fun hy => ?_)
      · have hy : p ≠ v.pos := by simpa using hy
        have ed : repD v p = { v with way := [], has := false, pos := p } := by rw [repD, if_neg hno, if_pos hy]
        conv => whnf
        refine ⟨_, _, b1, Nat.le_of_ble_eq_true rfl, ?_⟩
        conv => whnf
        obtain ⟨s4, m4, b4, w4⟩ := s3.set b1 (v' := { v with way := [] }) (pw' := none) ⟨rfl, .inl rfl⟩
        refine ⟨_, _, b4, Nat.le_of_ble_eq_true rfl, ?_⟩
        conv => whnf
        obtain ⟨s5, m5, b5, w5⟩ := s4.set b4 (v' := { v with way := [], has := false }) (pw' := none) w4
        refine ⟨_, _, b5, Nat.le_of_ble_eq_true rfl, ?_⟩
        conv => whnf
        obtain ⟨s6, m6, b6, w6⟩ := s5.set b5 (v' := { v with way := [], has := false, pos := p }) (pw' := none) w5
        have mm := (m4.trans' m5 (S2 := one di) (fun _ _ k => k) (fun _ _ k => k)).trans' m6 (S2 := one di) (fun _ _ k => k) (fun _ _ k => k)
        exact .inr (.inr ⟨el, e1, q3, po3, _, _, by rw [he], rw3.get mm, s6, hp3, m3.trans' mm (fun _ _ k => .inr k) (fun _ _ k => .inl k), .inr ⟨he, rfl, ed.symm⟩⟩)
      · have hy : ¬ p ≠ v.pos := by simpa using hy
        have ed : repD v p = { v with pos := p } := by rw [repD, if_neg hno, if_neg hy]
        conv => whnf
        refine ⟨_, _, b1, Nat.le_of_ble_eq_true rfl, ?_⟩
        conv => whnf
        obtain ⟨s6, m6, b6, w6⟩ := s3.set b1 (v' := { v with pos := p }) (pw' := pw) b2
        exact .inr (.inr ⟨el, e1, q3, po3, _, _, by rw [he], rw3.get m6, s6, hp3, m3.trans' m6 (fun _ _ k => .inr k) (fun _ _ k => .inl k), .inr ⟨he, rfl, ed.symm⟩⟩)
    rw [decide_eq_true (show ((v.way.length : Int) > 0) by omega)]
    conv => whnf
    refine ⟨_, Cell.mk b1 rfl, ?_⟩
    obtain ⟨i1, c1, f1, f2⟩ := slo_get b2.is (show 0 < v.way.length by omega)
    conv => whnf
    refine ⟨i1, c1, 0, f1, rfl, by omega, ?_⟩
    conv => whnf
    refine ⟨_, f2, ?_⟩
    conv => whnf
    have hh : v.way.head? = some (v.way.getD 0 0) := by
      cases hq : v.way with
      | nil => rw [hq] at hw; exact absurd rfl hw
      | cons a l => rfl
    refine br_mk (fun hx => ?_) (fun hx => ?_)
    rotate_left
    · conv => whnf
      have hx : ¬ v.way.getD 0 0 = p := by simpa using hx
      have hno : ¬ (v.has = true ∧ v.way.head? = some p) := fun q => hx (by rw [hh] at q; exact Option.some.inj q.2)
      refine ⟨_, Cell.mk b1 rfl, ?_⟩
      conv => whnf
      refine br_mk (fun hy => ?_) (fun hy => ?_)
      · have hy : p ≠ v.pos := by simpa using hy
        have ed : repD v p = { v with way := [], has := false, pos := p } := by rw [repD, if_neg hno, if_pos hy]
        conv => whnf
        refine ⟨_, _, b1, Nat.le_of_ble_eq_true rfl, ?_⟩
        conv => whnf
        obtain ⟨s4, m4, b4, w4⟩ := s3.set b1 (v' := { v with way := [] }) (pw' := none) ⟨rfl, .inl rfl⟩
        refine ⟨_, _, b4, Nat.le_of_ble_eq_true rfl, ?_⟩
        conv => whnf
        obtain ⟨s5, m5, b5, w5⟩ := s4.set b4 (v' := { v with way := [], has := false }) (pw' := none) w4
        refine ⟨_, _, b5, Nat.le_of_ble_eq_true rfl, ?_⟩
        conv => whnf
        obtain ⟨s6, m6, b6, w6⟩ := s5.set b5 (v' := { v with way := [], has := false, pos := p }) (pw' := none) w5
        have mm := (m4.trans' m5 (S2 := one di) (fun _ _ k => k) (fun _ _ k => k)).trans' m6 (S2 := one di) (fun _ _ k => k) (fun _ _ k => k)
        exact .inr (.inr ⟨el, e1, q3, po3, _, _, by rw [he], rw3.get mm, s6, hp3, m3.trans' mm (fun _ _ k => .inr k) (fun _ _ k => .inl k), .inr ⟨he, rfl, ed.symm⟩⟩)
      · have hy : ¬ p ≠ v.pos := by simpa using hy
        have ed : repD v p = { v with pos := p } := by rw [repD, if_neg hno, if_neg hy]
        conv => whnf
        refine ⟨_, _, b1, Nat.le_of_ble_eq_true rfl, ?_⟩
        conv => whnf
        obtain ⟨s6, m6, b6, w6⟩ := s3.set b1 (v' := { v with pos := p }) (pw' := pw) b2
        exact .inr (.inr ⟨el, e1, q3, po3, _, _, by rw [he], rw3.get m6, s6, hp3, m3.trans' m6 (fun _ _ k => .inr k) (fun _ _ k => .inl k), .inr ⟨he, rfl, ed.symm⟩⟩)
    · conv => whnf
      have hx : v.way.getD 0 0 = p := by simpa using hx
      have ed : repD v p = { v with way := v.way.tail, pos := p } := by rw [repD, if_pos ⟨eh, by rw [hh, hx]⟩]
      refine ⟨_, Cell.mk b1 rfl, ?_⟩
      conv => whnf
      refine ⟨⟨_, b2.is⟩, 1, rfl, by omega, Nat.le_refl _, ?_⟩
      conv => whnf
      have wt : RoSl h3 (slp pw (1 * 1)) v.way.tail.length 1 (ints .i64 v.way.tail) := by
        have := b2.cut (show 1 ≤ v.way.length by omega) (Nat.le_refl _)
        have e : ((ints .i64 v.way).drop (1 * 1)).take ((v.way.length - 1) * 1) = ints .i64 v.way.tail := by
          rw [ints_drop, List.take_of_length_le (by rw [ints_length, List.length_drop]; omega)]
          simp
        rw [e] at this
        rw [List.length_tail]
        exact this
      rw [show v.way.length - 1 = v.way.tail.length from List.length_tail.symm]
      refine ⟨_, _, b1, Nat.le_of_ble_eq_true rfl, ?_⟩
      conv => whnf
      obtain ⟨s4, m4, b4, w4⟩ := s3.set b1 (v' := { v with way := v.way.tail }) (pw' := slp pw (1 * 1)) wt
      refine ⟨_, _, b4, Nat.le_of_ble_eq_true rfl, ?_⟩
      conv => whnf
      obtain ⟨s5, m5, b5, w5⟩ := s4.set b4 (v' := { v with way := v.way.tail, pos := p }) (pw' := slp pw (1 * 1)) w4
      have mm := m4.trans' m5 (S2 := one di) (fun _ _ k => k) (fun _ _ k => k)
      exact .inr (.inr ⟨el, e1, q3, po3, _, _, by rw [he], rw3.get mm, s5, hp3, m3.trans' mm (fun _ _ k => .inr k) (fun _ _ k => .inl k), .inr ⟨he, rfl, ed.symm⟩⟩)
end Go.Proofs.Ytmififfaljihgaa
