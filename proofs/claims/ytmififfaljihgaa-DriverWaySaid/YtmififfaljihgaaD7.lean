/- The driver: what lies in memory; a message that is pushed. -/
import Derived.Test.YtmififfaljihgaaD6
set_option linter.unusedVariables false
namespace Go.Proofs.Ytmififfaljihgaa
open Go Go.Ab
structure DV where
  c : Cfg
  conn : Int
  live : Bool
  why : Int
  pos : Int
  way : List Int
  has : Bool
abbrev drow (v : DV) (ch : V) (pw : Option (Nat × Nat)) : List V := [i64 v.c.sess, i64 v.c.win, i64 v.c.retry, i64 v.c.base, i64 v.c.cap, i64 v.c.idle, ch, i64 v.conn, .bool v.live, i64 v.why, i64 v.pos, .sl pw v.way.length, .bool v.has]
/-- a driver that has a channel -/
structure DrS (h : H) (di : Nat) (d : CId) (po : Option (Nat × Nat)) (v : DV) (cv : CV) : Prop where
  box : ∃ pw, h.obj di = some (.row true 13 (drow v (.ptr (some (d.c, 0))) pw)) ∧ RoSl h pw v.way.length 1 (ints .i64 v.way)
  ch : ChS h d po cv
  sep : ¬ chAll d po di
/-- a driver that never started -/
def DrN (h : H) (di : Nat) (v : DV) : Prop := ∃ pw, h.obj di = some (.row true 13 (drow v (.ptr none) pw)) ∧ RoSl h pw v.way.length 1 (ints .i64 v.way)
def drAll (di : Nat) (d : CId) (po : Option (Nat × Nat)) : Nat → Prop := fun i => i = di ∨ chAll d po i
section
variable {h h' : H} {di : Nat} {d : CId} {po : Option (Nat × Nat)} {v : DV} {cv : CV}
theorem DrS.get {Z : Nat → Prop} (s : DrS h di d po v cv) (m : Ab.Mod Z h h') (hz : ∀ i, drAll di d po i → ¬ Z i) : DrS h' di d po v cv := by
  obtain ⟨⟨pw, h1, h2⟩, h3, h4⟩ := s
  exact ⟨⟨pw, m.get h1 (.inl (hz _ (.inl rfl))), h2.get m⟩, h3.get m (fun i hi => hz i (.inr hi)), h4⟩
theorem DrS.old (s : DrS h di d po v cv) (m : Ab.Mod none_ h h') : DrS h' di d po v cv := s.get m (fun _ _ k => k)
theorem DrS.lt (s : DrS h di d po v cv) {i : Nat} (hi : drAll di d po i) : i < h.next := by
  obtain ⟨⟨pw, h1, h2⟩, h3, h4⟩ := s
  rcases hi with rfl | hi
  · exact h.lt _ _ h1
  · exact h3.lt hi
end
/-- what a channel must be for what is sent to be bytes -/
structure CG (cv : CV) : Prop where
  ok : COk cv
  ov : OV cv
  ln : ∀ x ∈ cv.C, x.2.length ≤ 100000
theorem oct_bts {xs : List Int} (o : Oct xs) : Bts xs := fun x hx => by
  have := o x hx
  omega
theorem go_body {g : GV} (o : GO g) : bodyOk g := ⟨oct_bts o.oct, o.len⟩
def DPushQ (h : H) (di : Nat) (d : CId) (po : Option (Nat × Nat)) (v : DV) (R : (List GV × Int) × CV) (r : V) (h' : H) : Prop :=
  ∃ q po', r = .tup [.sl q (R.1.1.map encV).length, i64 R.1.2] ∧ Rws h' q (R.1.1.map encV) ∧ DrS h' di d po' v R.2 ∧ (∀ i, inSl po' i → inSl po i ∨ h.next ≤ i) ∧ Ab.Mod (chAll d po) h h'
theorem within27 (h : H) (x : Int) : ACalls Try.prog 27 [i64 x] h (fun r h' => h' = h ∧ r = .bool (inR x 0 65535)) := by
  refine call_ Try.func27 rfl rfl (by kernel_rfl) ?_
  conv => whnf
  refine br_mk (fun ha => ?_) (fun ha => ?_)
  · conv => whnf
    have ha : 0 ≤ x := by simpa using ha
    exact ⟨rfl, by rw [inR, decide_eq_true ha, Bool.true_and]⟩
  · conv => whnf
    have ha : ¬ 0 ≤ x := by simpa using ha
    exact ⟨rfl, by rw [inR, decide_eq_false ha, Bool.false_and]⟩
theorem encB_oct (m : Msg) : Oct (encB m) := fun x hx => by
  rw [encB] at hx
  split at hx
  · have := bytesP_bts _ x hx
    omega
  · cases hx
set_option maxHeartbeats 1000000 in
theorem dPush {h : H} {di : Nat} {d : CId} {po : Option (Nat × Nat)} {v : DV} {cv : CV} (s : DrS h di d po v cv) (g : CG cv) (hN : cv.cnt ≤ 1000000) {now : Int} (hn0 : -1000000000 ≤ now) (hn1 : now ≤ 1000000000) (m : Msg) (ok : m.ok h) (hl : (encB m).length ≤ 100000) (hf : ∀ b : List Int, (pushV cv now b).1.1.length ≤ 100000) :
    ACalls Try.prog 29 [.ptr (some (di, 0)), i64 now, .agg m.cells] h (DPushQ h di d po v (pushV cv now (encB m))) := by
  refine call_ Try.func29 rfl rfl (by kernel_rfl) ?_
  conv => whnf
  have mb := Mod.push none_ h (.row true 9 m.cells)
  have gb : (h.push (.row true 9 m.cells)).obj h.next = some (.row true 9 m.cells) := H.obj_push_new _ _
  refine ⟨m.cells, Cells.mk gb (Nat.le_of_ble_eq_true rfl) rfl, ?_⟩
  conv => whnf
  refine (enc41 m (ok.old mb (fun _ _ k => k))).mono ?_
  rintro _ h2 ⟨q2, rfl, o2, m2⟩
  have mo := mod_none mb m2
  have s2 := s.old mo
  conv => whnf
  refine ⟨_, rfl, ?_⟩
  conv => whnf
  refine ⟨_, rfl, ?_⟩
  conv => whnf
  obtain ⟨pw, b1, b2⟩ := s2.box
  refine ⟨_, Cell.mk b1 rfl, ?_⟩
  conv => whnf
  have hcnt : cv.s.N + cv.O.length ≤ 1000000 := hN
  refine (cPush s2.ch g.ok (by omega) hn0 hn1 (show SlIs h2 q2 (encB m).length false 1 (ints .u8 (encB m)) from o2.is) hl).mono ?_
  rintro _ h3 ⟨q3, po3, rfl, gr, c3, hp3, m3⟩
  conv => whnf
  refine ⟨_, rfl, ?_⟩
  conv => whnf
  refine ⟨_, rfl, ?_⟩
  conv => whnf
  have pov := push_ov g.ok g.ov (by omega) now (encB_oct m) hl
  refine (dgrams41 gr (fun x hx => go_body (pov.2.1 x hx)) (hf _)).mono ?_
  rintro _ h4 ⟨q4, rfl, rw4, m4⟩
  conv => whnf
  have sepd : ∀ i, chAll d po3 i → i ≠ di := fun i hi e => by
    rcases hi with hi | hi
    · exact s.sep (.inl (e ▸ hi))
    · rcases hp3 i hi with k | k
      · exact s.sep (.inr (e ▸ k))
      · have := s2.lt (i := di) (.inl rfl)
        omega
  have b3 := (m3.get b1 (.inl s.sep))
  have b4 := m4.get b3 (.inl (fun k => k))
  refine ⟨q4, po3, by rw [List.length_map], rw4, ⟨⟨pw, b4, (b2.get m3).get m4⟩, c3.old m4, fun k => sepd _ k rfl⟩, fun i hi => ?_, mo.trans' (m3.trans' m4 (S2 := chAll d po) (fun _ _ k => k) (fun _ _ k => k.elim)) (fun _ _ k => k.elim) (fun _ _ k => k)⟩
  rcases hp3 i hi with k | k
  · exact .inl k
  · exact .inr (Nat.le_trans mo.next k)
end Go.Proofs.Ytmififfaljihgaa
