/- The document's driver: Report, Follow, Stop, Tick; the program's Stop. -/
import Derived.Test.YtmififfaljihgaaGreatG10
set_option linter.unusedVariables false
namespace Go.Proofs.YtmififfaljihgaaGreat
open Go Go.Ab
theorem RDrS.set {h : H} {ri : Nat} {d : RCId} {v : DV} {cv : CV} (s : RDrS h ri d v cv) {cs : List V} (b : h.obj ri = some (.row true 13 cs)) {v' : DV} {pw' : Option (Nat × Nat)} (w : RoSl h pw' v'.way.length 1 (ints .i64 v'.way)) :
    RDrS (h.set ri (.row true 13 (rdrow v' (.ptr (some (d.c, 0))) pw'))) ri d v' cv ∧ Ab.Mod (one ri) h (h.set ri (.row true 13 (rdrow v' (.ptr (some (d.c, 0))) pw'))) ∧ (h.set ri (.row true 13 (rdrow v' (.ptr (some (d.c, 0))) pw'))).obj ri = some (.row true 13 (rdrow v' (.ptr (some (d.c, 0))) pw')) ∧ RoSl (h.set ri (.row true 13 (rdrow v' (.ptr (some (d.c, 0))) pw'))) pw' v'.way.length 1 (ints .i64 v'.way) := by
  have mS : Ab.Mod (one ri) h (h.set ri (.row true 13 (rdrow v' (.ptr (some (d.c, 0))) pw'))) := Mod.set rfl b rfl
  exact ⟨⟨⟨pw', H.obj_set_same b, w.get mS⟩, s.ch.get mS (fun i hi k => s.sep (by have : i = ri := k; rw [← this]; exact hi)), s.sep⟩, mS, H.obj_set_same b, w.get mS⟩
def RTickQ (h : H) (ri : Nat) (d : RCId) (v : DV) (cv : CV) (now : Int) (r : V) (h' : H) : Prop :=
  (v.live = false ∧ r = .sl none 0 ∧ h' = h) ∨
  (v.live = true ∧ ∃ q, r = .sl q (tickO cv now).length ∧ Rws h' q (tickO cv now) ∧ RDrS h' ri d (tickD v cv now) (passV cv now).2 ∧ Ab.Mod (rdAll ri d) h h')
theorem rdTick0 {h : H} {ri : Nat} {v : DV} (s : RDrB h ri v) (el : v.live = false) (now : Int) : ACalls Tryz.prog 17 [.ptr (some (ri, 0)), i64 now] h (fun r h' => r = .sl none 0 ∧ h' = h) := by
  obtain ⟨ch, pw, b, _⟩ := s
  refine call_ Tryz.func17 rfl rfl (by kernel_rfl) ?_
  conv => whnf
  refine ⟨_, Cell.mk b rfl, ?_⟩
  rw [el]
  conv => whnf
  exact ⟨rfl, rfl⟩
set_option maxHeartbeats 1000000 in
theorem rdTick {h : H} {ri : Nat} {d : RCId} {v : DV} {cv : CV} (s : RDrS h ri d v cv) (g : CG cv) (hN : cv.cnt ≤ 1000000) {now : Int} (hn0 : -1000000000 ≤ now) (hn1 : now ≤ 1000000000) (hf : (passV cv now).1.1.length ≤ 100000) :
    ACalls Tryz.prog 17 [.ptr (some (ri, 0)), i64 now] h (RTickQ h ri d v cv now) := by
  obtain ⟨pw, b1, b2⟩ := s.box
  refine call_ Tryz.func17 rfl rfl (by kernel_rfl) ?_
  conv => whnf
  refine ⟨_, Cell.mk b1 rfl, ?_⟩
  cases el : v.live with
  | false =>
    conv => whnf
    exact .inl ⟨el, rfl, rfl⟩
  | true =>
  conv => whnf
  refine ⟨_, Cell.mk b1 rfl, ?_⟩
  conv => whnf
  have hcnt : cv.s.N + cv.O.length ≤ 1000000 := hN
  refine (rPass s.ch g.ok (by omega) hn0 hn1).mono ?_
  rintro _ h3 ⟨q3, rfl, gr, c3, m3⟩
  have b3 := m3.get b1 (.inl s.sep)
  have w3 := b2.get m3
  have s3 : RDrS h3 ri d v (passV cv now).2 := ⟨⟨pw, b3, w3⟩, c3, s.sep⟩
  have ms3 : Ab.Mod (rdAll ri d) h h3 := m3.mono (fun _ _ k => .inr k)
  conv => whnf
  refine ⟨_, rfl, ?_⟩
  conv => whnf
  refine ⟨_, rfl, ?_⟩
  conv => whnf
  refine br_mk (fun he => ?_) (fun he => ?_)
  · have he : ¬ (passV cv now).1.2 = 0 := by simpa using he
    have eO : tickO cv now = [] := if_neg he
    have eD : tickD v cv now = { v with live := false, why := 0 } := if_neg he
    conv => whnf
    refine ⟨_, _, b3, Nat.le_of_ble_eq_true rfl, ?_⟩
    obtain ⟨s4, m4, b4, w4⟩ := s3.set (cs := rdrow v (.ptr (some (d.c, 0))) pw) b3 (v' := { v with live := false }) (pw' := pw) w3
    conv => whnf
    refine ⟨_, _, b4, Nat.le_of_ble_eq_true rfl, ?_⟩
    obtain ⟨s5, m5, b5, w5⟩ := RDrS.set s4 (cs := rdrow { v with live := false } (.ptr (some (d.c, 0))) pw) b4 (v' := { v with live := false, why := 0 }) (pw' := pw) w4
    conv => whnf
    have m45 := m4.trans' m5 (S2 := one ri) (fun _ _ k => k) (fun _ _ k => k)
    refine .inr ⟨el, none, by rw [eO]; rfl, by rw [eO]; exact rws_nil _, ?_, ms3.trans' m45 (fun _ _ k => k) (fun _ _ k => .inl k)⟩
    rw [eD]
    exact s5
  · have he : (passV cv now).1.2 = 0 := by simpa using he
    have eO : tickO cv now = (passV cv now).1.1.map encV := if_pos he
    have eD : tickD v cv now = v := if_pos he
    have pov := pass_ov g.ok g.ov (by omega) now
    conv => whnf
    refine (rBytes gr (fun x hx => go_body (pov.2.1 x hx)) hf).mono ?_
    rintro _ h4 ⟨q4, rfl, rw4, m4⟩
    conv => whnf
    refine .inr ⟨el, q4, by rw [eO, List.length_map], by rw [eO]; exact rw4, ?_, ms3.trans' m4 (fun _ _ k => k) (fun _ _ k => k.elim)⟩
    rw [eD]
    exact s3.old m4
def byeM : Msg := ⟨3, 0, 0, none, [], 0, 0, 0, 0, 0⟩
theorem byeM_ok (h : H) : byeM.ok h := ⟨SlIs.nil _ _ _, (by decide : (-9223372036854775808 : Int) ≤ 0), (by decide : (0 : Int) ≤ 9223372036854775807), Nat.zero_le _⟩
theorem byeM_len : (encB byeM).length ≤ 100000 := by decide +kernel
def StopQ (h : H) (di : Nat) (d : CId) (po : Option (Nat × Nat)) (v : DV) (R : (List GV × Int) × CV) (r : V) (h' : H) : Prop :=
  (v.live = false ∧ r = .tup [.sl none 0, i64 4] ∧ h' = h) ∨
  (v.live = true ∧ DPushQ h di d po v R r h')
theorem dStop0 {h : H} {di : Nat} {v : DV} (s : DrB h di v) (el : v.live = false) (now : Int) : ACalls Tryz.prog 14 [.ptr (some (di, 0)), i64 now] h (fun r h' => r = .tup [.sl none 0, i64 4] ∧ h' = h) := by
  refine call_ Tryz.func14 rfl rfl (by kernel_rfl) ?_
  conv => whnf
  refine (dLive s).mono ?_
  rintro _ h1 ⟨eh, rfl⟩
  subst eh
  rw [el]
  conv => whnf
  exact ⟨rfl, rfl⟩
theorem dStop {h : H} {di : Nat} {d : CId} {po : Option (Nat × Nat)} {v : DV} {cv : CV} (s : DrS h di d po v cv) (g : CG cv) (hN : cv.cnt ≤ 1000000) {now : Int} (hn0 : -1000000000 ≤ now) (hn1 : now ≤ 1000000000) (hf : ∀ b : List Int, (pushV cv now b).1.1.length ≤ 100000) :
    ACalls Tryz.prog 14 [.ptr (some (di, 0)), i64 now] h (StopQ h di d po v (pushV cv now (encB byeM))) := by
  refine call_ Tryz.func14 rfl rfl (by kernel_rfl) ?_
  conv => whnf
  refine (dLive s.b).mono ?_
  rintro _ h1 ⟨eh, rfl⟩
  rw [eh]
  clear eh h1
  cases el : v.live with
  | false =>
    conv => whnf
    exact .inl ⟨el, rfl, rfl⟩
  | true =>
  conv => whnf
  refine (dPush s g hN hn0 hn1 byeM (byeM_ok _) byeM_len hf).mono ?_
  rintro _ h3 ⟨q3, po3, rfl, rw3, s3, hp3, m3⟩
  conv => whnf
  refine ⟨_, rfl, ?_⟩
  conv => whnf
  refine ⟨_, rfl, ?_⟩
  conv => whnf
  exact .inr ⟨el, q3, po3, rfl, rw3, s3, hp3, m3⟩
def RStopQ (h : H) (ri : Nat) (d : RCId) (v : DV) (R : (List GV × Int) × CV) (r : V) (h' : H) : Prop :=
  (v.live = false ∧ r = .tup [.sl none 0, i64 4] ∧ h' = h) ∨
  (v.live = true ∧ RDPushQ h ri d v R r h')
theorem rdStop0 {h : H} {ri : Nat} {v : DV} (s : RDrB h ri v) (el : v.live = false) (now : Int) : ACalls Tryz.prog 15 [.ptr (some (ri, 0)), i64 now] h (fun r h' => r = .tup [.sl none 0, i64 4] ∧ h' = h) := by
  obtain ⟨ch, pw, b, _⟩ := s
  refine call_ Tryz.func15 rfl rfl (by kernel_rfl) ?_
  conv => whnf
  refine ⟨_, Cell.mk b rfl, ?_⟩
  rw [el]
  conv => whnf
  exact ⟨rfl, rfl⟩
theorem rdStop {h : H} {ri : Nat} {d : RCId} {v : DV} {cv : CV} (s : RDrS h ri d v cv) (g : CG cv) (hN : cv.cnt ≤ 1000000) {now : Int} (hn0 : -1000000000 ≤ now) (hn1 : now ≤ 1000000000) (hf : ∀ b : List Int, (pushV cv now b).1.1.length ≤ 100000) :
    ACalls Tryz.prog 15 [.ptr (some (ri, 0)), i64 now] h (RStopQ h ri d v (pushV cv now (encB byeM))) := by
  obtain ⟨pw, b1, b2⟩ := s.box
  refine call_ Tryz.func15 rfl rfl (by kernel_rfl) ?_
  conv => whnf
  refine ⟨_, Cell.mk b1 rfl, ?_⟩
  cases el : v.live with
  | false =>
    conv => whnf
    exact .inl ⟨el, rfl, rfl⟩
  | true =>
  conv => whnf
  refine (rdPush s g hN hn0 hn1 byeM (byeM_ok _) byeM_len hf).mono ?_
  rintro _ h3 ⟨q3, rfl, rw3, s3, m3⟩
  conv => whnf
  refine ⟨_, rfl, ?_⟩
  conv => whnf
  refine ⟨_, rfl, ?_⟩
  conv => whnf
  exact .inr ⟨el, q3, rfl, rw3, s3, m3⟩
def RReportQ (h : H) (ri : Nat) (d : RCId) (v : DV) (R : (List GV × Int) × CV) (p : Int) (r : V) (h' : H) : Prop :=
  (v.live = false ∧ r = .tup [.sl none 0, i64 4] ∧ h' = h) ∨
  (v.live = true ∧ inR p 0 65535 = false ∧ r = .tup [.sl none 0, i64 1] ∧ h' = h) ∨
  (v.live = true ∧ inR p 0 65535 = true ∧ ∃ q out v', r = .tup [.sl q out.length, i64 R.1.2] ∧ Rws h' q out ∧ RDrS h' ri d v' R.2 ∧ Ab.Mod (rdAll ri d) h h' ∧
    ((R.1.2 ≠ 0 ∧ out = [] ∧ v' = v) ∨ (R.1.2 = 0 ∧ out = R.1.1.map encV ∧ v' = repD v p)))
theorem rdReport0 {h : H} {ri : Nat} {v : DV} (s : RDrB h ri v) (el : v.live = false) (now p : Int) : ACalls Tryz.prog 11 [.ptr (some (ri, 0)), i64 now, i64 p] h (fun r h' => r = .tup [.sl none 0, i64 4] ∧ h' = h) := by
  obtain ⟨ch, pw, b, _⟩ := s
  refine call_ Tryz.func11 rfl rfl (by kernel_rfl) ?_
  conv => whnf
  refine ⟨_, Cell.mk b rfl, ?_⟩
  rw [el]
  conv => whnf
  exact ⟨rfl, rfl⟩
set_option maxHeartbeats 2000000 in
theorem rdReport {h : H} {ri : Nat} {d : RCId} {v : DV} {cv : CV} (s : RDrS h ri d v cv) (g : CG cv) (hN : cv.cnt ≤ 1000000) {now : Int} (hn0 : -1000000000 ≤ now) (hn1 : now ≤ 1000000000) (p : Int) (hl : (encB (repM p)).length ≤ 100000) (hf : ∀ b : List Int, (pushV cv now b).1.1.length ≤ 100000) (hW : v.has = false → v.way = []) :
    ACalls Tryz.prog 11 [.ptr (some (ri, 0)), i64 now, i64 p] h (RReportQ h ri d v (pushV cv now (encB (repM p))) p) := by
  obtain ⟨pw0, b0, w0⟩ := s.box
  refine call_ Tryz.func11 rfl rfl (by kernel_rfl) ?_
  conv => whnf
  refine ⟨_, Cell.mk b0 rfl, ?_⟩
  cases el : v.live with
  | false =>
    conv => whnf
    exact .inl ⟨el, rfl, rfl⟩
  | true =>
  conv => whnf
  refine (rWithin _ p 0 65535).mono ?_
  rintro _ h2 ⟨eh, rfl⟩
  rw [eh]
  clear eh h2
  cases e1 : inR p 0 65535 with
  | false =>
    conv => whnf
    exact .inr (.inl ⟨el, e1, rfl, rfl⟩)
  | true =>
  conv => whnf
  refine (rdPush s g hN hn0 hn1 (repM p) (repM_ok _ p) hl hf).mono ?_
  rintro _ h3 ⟨q3, rfl, rw3, s3, m3⟩
  generalize pushV cv now (encB (repM p)) = R at *
  have ms3 : Ab.Mod (rdAll ri d) h h3 := m3.mono (fun _ _ k => .inr k)
  conv => whnf
  refine ⟨_, rfl, ?_⟩
  conv => whnf
  refine ⟨_, rfl, ?_⟩
  conv => whnf
  refine br_mk (fun he => ?_) (fun he => ?_)
  · have he : ¬ R.1.2 = 0 := by simpa using he
    conv => whnf
    exact .inr (.inr ⟨el, e1, none, [], v, rfl, rws_nil _, s3, ms3, .inl ⟨he, rfl, rfl⟩⟩)
  have he : R.1.2 = 0 := by simpa using he
  obtain ⟨pw, b1, b2⟩ := s3.box
  conv => whnf
  refine ⟨_, Cell.mk b1 rfl, ?_⟩
  cases eh : v.has with
  | false =>
    have hno : ¬ (v.has = true ∧ v.way.head? = some p) := fun q => by rw [eh] at q; cases q.1
    conv => whnf
    refine ⟨_, Cell.mk b1 rfl, ?_⟩
    rw [eh]
    conv => whnf
    refine ⟨_, _, b1, Nat.le_of_ble_eq_true rfl, ?_⟩
    obtain ⟨s4, m4, b4, w4⟩ := s3.set (cs := rdrow v (.ptr (some (d.c, 0))) pw) b1 (v' := { v with way := [] }) (pw' := none) ⟨rfl, .inl rfl⟩
    conv => whnf
    refine ⟨_, _, b4, Nat.le_of_ble_eq_true rfl, ?_⟩
    obtain ⟨s5, m5, b5, w5⟩ := RDrS.set s4 (cs := rdrow { v with way := [] } (.ptr (some (d.c, 0))) none) b4 (v' := { v with way := [], has := false }) (pw' := none) w4
    have m35 := m4.trans' m5 (S2 := one ri) (fun _ _ k => k) (fun _ _ k => k)
    conv => whnf
    have ev : repD v p = { v with way := [], has := false, pos := p } := by
      rw [repD, if_neg hno]
      split
      · rfl
      · obtain ⟨a1, a2, a3, a4, a5, a6, a7⟩ := v
        simp only at eh hW ⊢
        subst eh
        rw [hW rfl]
    refine ⟨_, _, b5, Nat.le_of_ble_eq_true rfl, ?_⟩
    obtain ⟨s6, m6, b6, w6⟩ := RDrS.set s5 (cs := rdrow { v with way := [], has := false } (.ptr (some (d.c, 0))) none) b5 (v' := { { v with way := [], has := false } with pos := p }) (pw' := none) w5
    conv => whnf
    have mF := ms3.trans' (m35.trans' m6 (S2 := one ri) (fun _ _ k => k) (fun _ _ k => k)) (S2 := rdAll ri d) (fun _ _ k => k) (fun _ _ k => .inl k)
    exact .inr (.inr ⟨el, e1, q3, R.1.1.map encV, repD v p, by rw [he], rw3.get (m35.trans' m6 (S2 := one ri) (fun _ _ k => k) (fun _ _ k => k)), by rw [ev]; exact s6, mF, .inr ⟨he, rfl, rfl⟩⟩)
  | true =>
    conv => whnf
    refine ⟨_, Cell.mk b1 rfl, ?_⟩
    conv => whnf
    by_cases hw : v.way.length = 0
    · rw [decide_eq_false (show ¬ ((v.way.length : Int) > 0) by omega)]
      conv => whnf
      have hno : ¬ (v.has = true ∧ v.way.head? = some p) := fun q => by
        rw [List.length_eq_zero_iff.1 hw] at q
        cases q.2
      refine ⟨_, Cell.mk b1 rfl, ?_⟩
      rw [eh]
      conv => whnf
      refine ⟨_, Cell.mk b1 rfl, ?_⟩
      conv => whnf
      refine br_mk (fun hp => ?_) (fun hp => ?_)
      · conv => whnf
        have hp : p = v.pos := by simpa using hp
        have ev : repD v p = { v with pos := p } := by rw [repD, if_neg hno, if_neg (fun k => k hp)]
        have b5 := b1
        have s5 := s3
        have w5 := b2
        have m35 := mod_refl (one ri) h3
        refine ⟨_, _, b5, Nat.le_of_ble_eq_true rfl, ?_⟩
        obtain ⟨s6, m6, b6, w6⟩ := RDrS.set s5 (cs := rdrow v (.ptr (some (d.c, 0))) pw) b5 (v' := { v with pos := p }) (pw' := pw) w5
        conv => whnf
        have mF := ms3.trans' (m35.trans' m6 (S2 := one ri) (fun _ _ k => k) (fun _ _ k => k)) (S2 := rdAll ri d) (fun _ _ k => k) (fun _ _ k => .inl k)
        exact .inr (.inr ⟨el, e1, q3, R.1.1.map encV, repD v p, by rw [he], rw3.get (m35.trans' m6 (S2 := one ri) (fun _ _ k => k) (fun _ _ k => k)), by rw [ev]; exact s6, mF, .inr ⟨he, rfl, rfl⟩⟩)
      · conv => whnf
        have hp : ¬ p = v.pos := by simpa using hp
        have ev : repD v p = { v with way := [], has := false, pos := p } := by rw [repD, if_neg hno, if_pos hp]
        refine ⟨_, _, b1, Nat.le_of_ble_eq_true rfl, ?_⟩
        obtain ⟨s4, m4, b4, w4⟩ := s3.set (cs := rdrow v (.ptr (some (d.c, 0))) pw) b1 (v' := { v with way := [] }) (pw' := none) ⟨rfl, .inl rfl⟩
        conv => whnf
        refine ⟨_, _, b4, Nat.le_of_ble_eq_true rfl, ?_⟩
        obtain ⟨s5, m5, b5, w5⟩ := RDrS.set s4 (cs := rdrow { v with way := [] } (.ptr (some (d.c, 0))) none) b4 (v' := { v with way := [], has := false }) (pw' := none) w4
        have m35 := m4.trans' m5 (S2 := one ri) (fun _ _ k => k) (fun _ _ k => k)
        conv => whnf
        refine ⟨_, _, b5, Nat.le_of_ble_eq_true rfl, ?_⟩
        obtain ⟨s6, m6, b6, w6⟩ := RDrS.set s5 (cs := rdrow { v with way := [], has := false } (.ptr (some (d.c, 0))) none) b5 (v' := { { v with way := [], has := false } with pos := p }) (pw' := none) w5
        conv => whnf
        have mF := ms3.trans' (m35.trans' m6 (S2 := one ri) (fun _ _ k => k) (fun _ _ k => k)) (S2 := rdAll ri d) (fun _ _ k => k) (fun _ _ k => .inl k)
        exact .inr (.inr ⟨el, e1, q3, R.1.1.map encV, repD v p, by rw [he], rw3.get (m35.trans' m6 (S2 := one ri) (fun _ _ k => k) (fun _ _ k => k)), by rw [ev]; exact s6, mF, .inr ⟨he, rfl, rfl⟩⟩)
    rw [decide_eq_true (show ((v.way.length : Int) > 0) by omega)]
    conv => whnf
    refine ⟨_, Cell.mk b1 rfl, ?_⟩
    obtain ⟨i1, c1, f1, f2⟩ := slo_get b2.is (show 0 < v.way.length by omega)
    conv => whnf
    refine ⟨i1, c1, 0, f1, rfl, by omega, ?_⟩
    conv => whnf
    refine ⟨_, f2, ?_⟩
    conv => whnf
    have hh : v.way.head? = some (v.way.getD 0 0) := by
      cases hq : v.way with
      | nil => rw [hq] at hw; exact absurd rfl hw
      | cons a l => rfl
    refine br_mk (fun hx => ?_) (fun hx => ?_)
    rotate_left
    · conv => whnf
      have hx : ¬ v.way.getD 0 0 = p := by simpa using hx
      have hno : ¬ (v.has = true ∧ v.way.head? = some p) := fun q => hx (by rw [hh] at q; exact Option.some.inj q.2)
      refine ⟨_, Cell.mk b1 rfl, ?_⟩
      rw [eh]
      conv => whnf
      refine ⟨_, Cell.mk b1 rfl, ?_⟩
      conv => whnf
      refine br_mk (fun hp => ?_) (fun hp => ?_)
      · conv => whnf
        have hp : p = v.pos := by simpa using hp
        have ev : repD v p = { v with pos := p } := by rw [repD, if_neg hno, if_neg (fun k => k hp)]
        have b5 := b1
        have s5 := s3
        have w5 := b2
        have m35 := mod_refl (one ri) h3
        refine ⟨_, _, b5, Nat.le_of_ble_eq_true rfl, ?_⟩
        obtain ⟨s6, m6, b6, w6⟩ := RDrS.set s5 (cs := rdrow v (.ptr (some (d.c, 0))) pw) b5 (v' := { v with pos := p }) (pw' := pw) w5
        conv => whnf
        have mF := ms3.trans' (m35.trans' m6 (S2 := one ri) (fun _ _ k => k) (fun _ _ k => k)) (S2 := rdAll ri d) (fun _ _ k => k) (fun _ _ k => .inl k)
        exact .inr (.inr ⟨el, e1, q3, R.1.1.map encV, repD v p, by rw [he], rw3.get (m35.trans' m6 (S2 := one ri) (fun _ _ k => k) (fun _ _ k => k)), by rw [ev]; exact s6, mF, .inr ⟨he, rfl, rfl⟩⟩)
      · conv => whnf
        have hp : ¬ p = v.pos := by simpa using hp
        have ev : repD v p = { v with way := [], has := false, pos := p } := by rw [repD, if_neg hno, if_pos hp]
        refine ⟨_, _, b1, Nat.le_of_ble_eq_true rfl, ?_⟩
        obtain ⟨s4, m4, b4, w4⟩ := s3.set (cs := rdrow v (.ptr (some (d.c, 0))) pw) b1 (v' := { v with way := [] }) (pw' := none) ⟨rfl, .inl rfl⟩
        conv => whnf
        refine ⟨_, _, b4, Nat.le_of_ble_eq_true rfl, ?_⟩
        obtain ⟨s5, m5, b5, w5⟩ := RDrS.set s4 (cs := rdrow { v with way := [] } (.ptr (some (d.c, 0))) none) b4 (v' := { v with way := [], has := false }) (pw' := none) w4
        have m35 := m4.trans' m5 (S2 := one ri) (fun _ _ k => k) (fun _ _ k => k)
        conv => whnf
        refine ⟨_, _, b5, Nat.le_of_ble_eq_true rfl, ?_⟩
        obtain ⟨s6, m6, b6, w6⟩ := RDrS.set s5 (cs := rdrow { v with way := [], has := false } (.ptr (some (d.c, 0))) none) b5 (v' := { { v with way := [], has := false } with pos := p }) (pw' := none) w5
        conv => whnf
        have mF := ms3.trans' (m35.trans' m6 (S2 := one ri) (fun _ _ k => k) (fun _ _ k => k)) (S2 := rdAll ri d) (fun _ _ k => k) (fun _ _ k => .inl k)
        exact .inr (.inr ⟨el, e1, q3, R.1.1.map encV, repD v p, by rw [he], rw3.get (m35.trans' m6 (S2 := one ri) (fun _ _ k => k) (fun _ _ k => k)), by rw [ev]; exact s6, mF, .inr ⟨he, rfl, rfl⟩⟩)
    · conv => whnf
      have hx : v.way.getD 0 0 = p := by simpa using hx
      have ev : repD v p = { v with way := v.way.tail, pos := p } := by rw [repD, if_pos ⟨eh, by rw [hh, hx]⟩]
      refine ⟨_, Cell.mk b1 rfl, ?_⟩
      conv => whnf
      refine ⟨⟨_, b2.is⟩, 1, rfl, by omega, Nat.le_refl _, ?_⟩
      conv => whnf
      have wt : RoSl h3 (slp pw (1 * 1)) v.way.tail.length 1 (ints .i64 v.way.tail) := by
        have := b2.cut (show 1 ≤ v.way.length by omega) (Nat.le_refl _)
        have e : ((ints .i64 v.way).drop (1 * 1)).take ((v.way.length - 1) * 1) = ints .i64 v.way.tail := by
          rw [ints_drop, List.take_of_length_le (by rw [ints_length, List.length_drop]; omega)]
          simp
        rw [e] at this
        rw [List.length_tail]
        exact this
      refine ⟨_, _, b1, Nat.le_of_ble_eq_true rfl, ?_⟩
      obtain ⟨s5, m35, b5, w5⟩ := s3.set (cs := rdrow v (.ptr (some (d.c, 0))) pw) b1 (v' := { v with way := v.way.tail }) (pw' := slp pw (1 * 1)) wt
      have elen : v.way.length - 1 = v.way.tail.length := by rw [List.length_tail]
      rw [elen]
      conv => whnf
      refine ⟨_, _, b5, Nat.le_of_ble_eq_true rfl, ?_⟩
      obtain ⟨s6, m6, b6, w6⟩ := RDrS.set s5 (cs := rdrow { v with way := v.way.tail } (.ptr (some (d.c, 0))) (slp pw (1 * 1))) b5 (v' := { { v with way := v.way.tail } with pos := p }) (pw' := (slp pw (1 * 1))) w5
      conv => whnf
      have mF := ms3.trans' (m35.trans' m6 (S2 := one ri) (fun _ _ k => k) (fun _ _ k => k)) (S2 := rdAll ri d) (fun _ _ k => k) (fun _ _ k => .inl k)
      exact .inr (.inr ⟨el, e1, q3, R.1.1.map encV, repD v p, by rw [he], rw3.get (m35.trans' m6 (S2 := one ri) (fun _ _ k => k) (fun _ _ k => k)), by rw [ev]; exact s6, mF, .inr ⟨he, rfl, rfl⟩⟩)
end Go.Proofs.YtmififfaljihgaaGreat
