/- Channels: a new one; what is pushed. -/
import Derived.Test.YtoljllfbabahpaaU25
set_option linter.unusedVariables false
namespace Go.Proofs.Ytoljllfbabahpaa
open Go Go.Ab
structure Cfg where
  sess : Int
  win : Int
  retry : Int
  base : Int
  cap : Int
  idle : Int
def Cfg.cells (c : Cfg) : List V := [i64 c.sess, i64 c.win, i64 c.retry, i64 c.base, i64 c.cap, i64 c.idle]
def okCfg (c : Cfg) : Bool := inR c.sess 1 16 && inR c.win 1 16 && inR c.retry 0 20 && inR c.base 1 1000 && inR c.cap c.base 1000 && inR c.idle 1 1000
theorem within66 (h : H) (x lo hi : Int) : ACalls Try.prog 66 [i64 x, i64 lo, i64 hi] h (fun r h' => h' = h ∧ r = .bool (inR x lo hi)) := by
  refine call_ Try.func66 rfl rfl (by kernel_rfl) ?_
  conv => whnf
  refine br_mk (fun ha => ?_) (fun ha => ?_)
  · conv => whnf
    have ha : lo ≤ x := by simpa using ha
    exact ⟨rfl, by rw [inR, decide_eq_true ha, Bool.true_and]⟩
  · conv => whnf
    have ha : ¬ lo ≤ x := by simpa using ha
    exact ⟨rfl, by rw [inR, decide_eq_false ha, Bool.false_and]⟩
theorem cCheck (h : H) (c : Cfg) : ACalls Try.prog 56 [.agg c.cells] h (fun r h' => r = i64 (if okCfg c then 0 else 1) ∧ Ab.Mod none_ h h') := by
  have mP := Mod.push none_ h (.row true 6 c.cells)
  have gm : (h.push (.row true 6 c.cells)).obj h.next = some (.row true 6 c.cells) := H.obj_push_new _ _
  refine call_ Try.func56 rfl rfl (by kernel_rfl) ?_
  conv => whnf
  refine ⟨_, Cell.mk gm rfl, ?_⟩
  conv => whnf
  refine (within66 _ c.sess 1 16).mono ?_
  rintro _ h1 ⟨eh, rfl⟩
  subst eh
  cases e1 : inR c.sess 1 16 with
  | false =>
    conv => whnf
    exact ⟨by rw [okCfg, e1]; simp, mP⟩
  | true =>
  conv => whnf
  refine ⟨_, Cell.mk gm rfl, ?_⟩
  conv => whnf
  refine (within66 _ c.win 1 16).mono ?_
  rintro _ h2 ⟨eh, rfl⟩
  subst eh
  cases e2 : inR c.win 1 16 with
  | false =>
    conv => whnf
    exact ⟨by rw [okCfg, e2]; simp, mP⟩
  | true =>
  conv => whnf
  refine ⟨_, Cell.mk gm rfl, ?_⟩
  conv => whnf
  refine (within66 _ c.retry 0 20).mono ?_
  rintro _ h3 ⟨eh, rfl⟩
  subst eh
  cases e3 : inR c.retry 0 20 with
  | false =>
    conv => whnf
    exact ⟨by rw [okCfg, e3]; simp, mP⟩
  | true =>
  conv => whnf
  refine ⟨_, Cell.mk gm rfl, ?_⟩
  conv => whnf
  refine (within66 _ c.base 1 1000).mono ?_
  rintro _ h4 ⟨eh, rfl⟩
  subst eh
  cases e4 : inR c.base 1 1000 with
  | false =>
    conv => whnf
    exact ⟨by rw [okCfg, e4]; simp, mP⟩
  | true =>
  conv => whnf
  refine ⟨_, Cell.mk gm rfl, ?_⟩
  conv => whnf
  refine ⟨_, Cell.mk gm rfl, ?_⟩
  conv => whnf
  refine (within66 _ c.cap c.base 1000).mono ?_
  rintro _ h5 ⟨eh, rfl⟩
  subst eh
  cases e5 : inR c.cap c.base 1000 with
  | false =>
    conv => whnf
    exact ⟨by rw [okCfg, e5]; simp, mP⟩
  | true =>
  conv => whnf
  refine ⟨_, Cell.mk gm rfl, ?_⟩
  conv => whnf
  refine (within66 _ c.idle 1 1000).mono ?_
  rintro _ h6 ⟨eh, rfl⟩
  subst eh
  cases e6 : inR c.idle 1 1000 with
  | false =>
    conv => whnf
    exact ⟨by rw [okCfg, e6]; simp, mP⟩
  | true =>
  conv => whnf
  exact ⟨by rw [okCfg, e1, e2, e3, e4, e5, e6]; rfl, mP⟩
def okCh (c : Cfg) (conn : Int) : Bool := okCfg c && inR conn 1 2147483648
def CV.new (c : Cfg) (conn : Int) : CV := ⟨⟨c.win, 0, false, [], c.base, c.cap, c.retry, []⟩, 0, [], conn, []⟩
def NewCQ (c : Cfg) (conn : Int) (h : H) (r : V) (h' : H) : Prop :=
  (okCh c conn = false ∧ r = .tup [.ptr none, i64 1] ∧ Ab.Mod none_ h h') ∨ (okCh c conn = true ∧ ∃ d, r = .tup [.ptr (some (d.c, 0)), i64 0] ∧ ChS h' d none (CV.new c conn) ∧ (∀ i, d.all i → h.next ≤ i) ∧ Ab.Mod none_ h h')
theorem inR_iff {x lo hi : Int} : inR x lo hi = true ↔ lo ≤ x ∧ x ≤ hi := by
  rw [inR]
  simp
theorem cNew (h : H) (c : Cfg) (conn : Int) : ACalls Try.prog 16 [.agg c.cells, i64 conn] h (fun r h' => NewCQ c conn h r h') := by
  have mP := Mod.push none_ h (.row true 6 c.cells)
  have gm : (h.push (.row true 6 c.cells)).obj h.next = some (.row true 6 c.cells) := H.obj_push_new _ _
  refine call_ Try.func16 rfl rfl (by kernel_rfl) ?_
  conv => whnf
  refine ⟨c.cells, Cells.mk gm (Nat.le_of_ble_eq_true rfl) rfl, ?_⟩
  conv => whnf
  refine (cCheck _ c).mono ?_
  rintro _ h1 ⟨rfl, m1⟩
  have g1 := m1.get gm (.inl (fun k => k))
  have mo1 := mod_none mP m1
  cases ec : okCfg c with
  | false =>
    conv => whnf
    exact .inl ⟨by rw [okCh, ec]; rfl, rfl, mo1⟩
  | true =>
  conv => whnf
  refine (within66 _ conn 1 2147483648).mono ?_
  rintro _ h2 ⟨eh, rfl⟩
  subst eh
  cases en : inR conn 1 2147483648 with
  | false =>
    conv => whnf
    exact .inl ⟨by rw [okCh, ec, en]; rfl, rfl, mo1⟩
  | true =>
  simp only [okCfg, Bool.and_eq_true] at ec
  obtain ⟨⟨⟨⟨⟨c1, c2⟩, c3⟩, c4⟩, c5⟩, c6⟩ := ec
  have okc : okCh c conn = true := by
    rw [okCh, okCfg, c1, c2, c3, c4, c5, c6, en]
    rfl
  have b3 := inR_iff.1 c3
  have b4 := inR_iff.1 c4
  have b5 := inR_iff.1 c5
  have okt : okT c.base c.cap c.retry = true := by
    rw [okT_iff]
    omega
  conv => whnf
  refine ⟨_, Cell.mk g1 rfl, ?_⟩
  conv => whnf
  refine ⟨_, Cell.mk g1 rfl, ?_⟩
  conv => whnf
  refine ⟨_, Cell.mk g1 rfl, ?_⟩
  conv => whnf
  refine (new22 _ c.base c.cap c.retry).mono ?_
  rintro _ h3 q
  obtain ⟨tg, tmi, rfl, t1, ht1, ht2, m3⟩ := newT_yes q okt
  clear q
  have g3 := m3.get g1 (.inl (fun k => k))
  conv => whnf
  refine ⟨_, rfl, ?_⟩
  conv => whnf
  refine ⟨_, rfl, ?_⟩
  conv => whnf
  refine ⟨_, Cell.mk g3 rfl, ?_⟩
  conv => whnf
  have t1lt := t1.lt
  refine (sNew t1 c.win).mono ?_
  rintro _ h4 q
  obtain ⟨d, hd1, hd2, rfl, s1, hg0, hm0, m4⟩ := newS_yes q c2
  clear q
  have g4 := m4.get g3 (.inl (fun k => k))
  have hdl : ∀ i, d.all i → i < h4.next := fun i hi => s1.lt hi
  have hdg : ∀ i, d.all i → h.next ≤ i := fun i hi => by
    have e1 := mo1.next
    have e3 := m3.next
    rcases hi with hi | hi | hi | hi <;> omega
  conv => whnf
  refine ⟨_, rfl, ?_⟩
  conv => whnf
  refine ⟨_, rfl, ?_⟩
  conv => whnf
  refine ⟨_, Cell.mk g4 rfl, ?_⟩
  conv => whnf
  refine (new27 _ c.win).mono ?_
  rintro _ h5 q
  obtain ⟨t, tm, rfl, k1, hk1, hk2, m5⟩ := newK_yes q c2
  clear q
  have k1lt := k1.lt
  have s5 := s1.old m5
  conv => whnf
  refine ⟨_, rfl, ?_⟩
  conv => whnf
  refine ⟨_, rfl, ?_⟩
  conv => whnf
  have m6 := Mod.push none_ h5 (.row true 4 [.ptr (some (d.g, 0)), i64 conn, .ptr (some (t, 0)), .sl none 0])
  have e1 := mo1.next
  have e3 := m3.next
  have e4 := m4.next
  have e5 := m5.next
  refine .inr ⟨okc, ⟨d, h5.next, t, tm⟩, rfl, ⟨H.obj_push_new _ _, s5.old m6, ⟨[], k1.old m6, rfl⟩, ⟨[], SlIs.nil _ _ _, (fun x hx => by cases hx), rfl⟩, (fun i ⟨o, e⟩ => by cases e), ?_⟩, fun i hi => ?_, mod_none (mod_none (mod_none (mod_none mo1 m3) m4) m5) m6⟩
  · refine ⟨fun k => ?_, fun k => ?_, fun k => ?_, ?_, ?_⟩
    · have := hdl _ k
      have : h5.next < h4.next := this
      omega
    · have := hdl _ k
      have : t < h4.next := this
      omega
    · have := hdl _ k
      have : tm < h4.next := this
      omega
    · show h5.next ≠ t
      omega
    · show h5.next ≠ tm
      omega
  · rcases hi with hi | hi | hi | hi
    · exact hdg i hi
    · have : i = h5.next := hi
      omega
    · have : i = t := hi
      omega
    · have : i = tm := hi
      omega
theorem new_cok {c : Cfg} {conn : Int} (ok : okCh c conn = true) : COk (CV.new c conn) := by
  simp only [okCh, okCfg, Bool.and_eq_true] at ok
  obtain ⟨⟨⟨⟨⟨⟨c1, c2⟩, c3⟩, c4⟩, c5⟩, c6⟩, c7⟩ := ok
  have b3 := inR_iff.1 c3
  have b4 := inR_iff.1 c4
  have b5 := inR_iff.1 c5
  have okt : okT c.base c.cap c.retry = true := by
    rw [okT_iff]
    omega
  exact ⟨new_ok c2 okt, OkH.nil _ _, Int.le_refl _, Nat.zero_le _, fun b hb => by cases hb⟩
theorem cOwed {h : H} {d : CId} {po : Option (Nat × Nat)} {v : CV} (s : ChS h d po v) : ACalls Try.prog 18 [.ptr (some (d.c, 0))] h (fun r h' => h' = h ∧ r = i64 v.O.length) := by
  refine call_ Try.func18 rfl rfl (by kernel_rfl) ?_
  conv => whnf
  refine ⟨_, Cell.mk s.box rfl, ?_⟩
  conv => whnf
  exact ⟨rfl, rfl⟩
theorem cConn {h : H} {d : CId} {po : Option (Nat × Nat)} {v : CV} (s : ChS h d po v) : ACalls Try.prog 65 [.ptr (some (d.c, 0))] h (fun r h' => h' = h ∧ r = i64 v.conn) := by
  refine call_ Try.func65 rfl rfl (by kernel_rfl) ?_
  conv => whnf
  refine ⟨_, Cell.mk s.box rfl, ?_⟩
  conv => whnf
  exact ⟨rfl, rfl⟩
theorem hOver {h : H} {d : CId} {po : Option (Nat × Nat)} {v : CV} (s : ChS h d po v) : ACalls Try.prog 68 [.ptr (some (d.c, 0))] h (fun r h' => h' = h ∧ r = .bool v.s.ov) := by
  refine call_ Try.func68 rfl rfl (by kernel_rfl) ?_
  conv => whnf
  refine ⟨_, Cell.mk s.box rfl, ?_⟩
  conv => whnf
  refine (cOver s.sd).mono ?_
  rintro _ h1 ⟨eh, rfl⟩
  subst eh
  conv => whnf
  exact ⟨rfl, rfl⟩
theorem hOver0 (h : H) : ACalls Try.prog 68 [.ptr none] h (fun r h' => h' = h ∧ r = .bool true) := by
  refine call_ Try.func68 rfl rfl (by kernel_rfl) ?_
  conv => whnf
  exact ⟨rfl, rfl⟩
end Go.Proofs.Ytoljllfbabahpaa
