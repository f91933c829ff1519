/- The driver: what it tells; a new one. -/
import Derived.Test.YtmififfaljihgaaD7
set_option linter.unusedVariables false
namespace Go.Proofs.Ytmififfaljihgaa
open Go Go.Ab
def DrB (h : H) (di : Nat) (v : DV) : Prop := ∃ ch pw, h.obj di = some (.row true 13 (drow v ch pw)) ∧ RoSl h pw v.way.length 1 (ints .i64 v.way)
theorem DrS.b {h : H} {di : Nat} {d : CId} {po : Option (Nat × Nat)} {v : DV} {cv : CV} (s : DrS h di d po v cv) : DrB h di v := by
  obtain ⟨pw, h1, h2⟩ := s.box
  exact ⟨_, pw, h1, h2⟩
theorem DrN.b {h : H} {di : Nat} {v : DV} (s : DrN h di v) : DrB h di v := by
  obtain ⟨pw, h1, h2⟩ := s
  exact ⟨_, pw, h1, h2⟩
theorem DrN.get {Z : Nat → Prop} {h h' : H} {di : Nat} {v : DV} (s : DrN h di v) (m : Ab.Mod Z h h') (hz : ¬ Z di) : DrN h' di v := by
  obtain ⟨pw, h1, h2⟩ := s
  exact ⟨pw, m.get h1 (.inl hz), h2.get m⟩
theorem dConn {h : H} {di : Nat} {v : DV} (s : DrB h di v) : ACalls Try.prog 11 [.ptr (some (di, 0))] h (fun r h' => h' = h ∧ r = i64 v.conn) := by
  obtain ⟨ch, pw, b, _⟩ := s
  refine call_ Try.func11 rfl rfl (by kernel_rfl) ?_
  conv => whnf
  refine ⟨_, Cell.mk b rfl, ?_⟩
  conv => whnf
  exact ⟨rfl, rfl⟩
theorem dLive {h : H} {di : Nat} {v : DV} (s : DrB h di v) : ACalls Try.prog 12 [.ptr (some (di, 0))] h (fun r h' => h' = h ∧ r = .bool v.live) := by
  obtain ⟨ch, pw, b, _⟩ := s
  refine call_ Try.func12 rfl rfl (by kernel_rfl) ?_
  conv => whnf
  refine ⟨_, Cell.mk b rfl, ?_⟩
  conv => whnf
  exact ⟨rfl, rfl⟩
theorem dLive0 (h : H) : ACalls Try.prog 12 [.ptr none] h (fun r h' => h' = h ∧ r = .bool false) := by
  refine call_ Try.func12 rfl rfl (by kernel_rfl) ?_
  conv => whnf
  exact ⟨rfl, rfl⟩
theorem dAt {h : H} {di : Nat} {v : DV} (s : DrB h di v) : ACalls Try.prog 13 [.ptr (some (di, 0))] h (fun r h' => h' = h ∧ r = i64 v.pos) := by
  obtain ⟨ch, pw, b, _⟩ := s
  refine call_ Try.func13 rfl rfl (by kernel_rfl) ?_
  conv => whnf
  refine ⟨_, Cell.mk b rfl, ?_⟩
  conv => whnf
  exact ⟨rfl, rfl⟩
theorem dAt0 (h : H) : ACalls Try.prog 13 [.ptr none] h (fun r h' => h' = h ∧ r = i64 (-1)) := by
  refine call_ Try.func13 rfl rfl (by kernel_rfl) ?_
  conv => whnf
  exact ⟨rfl, rfl⟩
theorem dWhy {h : H} {di : Nat} {v : DV} (s : DrB h di v) : ACalls Try.prog 18 [.ptr (some (di, 0))] h (fun r h' => h' = h ∧ r = i64 v.why) := by
  obtain ⟨ch, pw, b, _⟩ := s
  refine call_ Try.func18 rfl rfl (by kernel_rfl) ?_
  conv => whnf
  refine ⟨_, Cell.mk b rfl, ?_⟩
  conv => whnf
  exact ⟨rfl, rfl⟩
def DV.new (c : Cfg) : DV := ⟨c, 0, false, 0, -1, [], false⟩
theorem dNew (h : H) (c : Cfg) : ACalls Try.prog 7 [.agg c.cells] h (fun r h' => (okCfg c = false ∧ r = .tup [.ptr none, i64 1] ∧ Ab.Mod none_ h h') ∨ (okCfg c = true ∧ ∃ di, r = .tup [.ptr (some (di, 0)), i64 0] ∧ DrN h' di (DV.new c) ∧ h.next ≤ di ∧ Ab.Mod none_ h h')) := by
  refine call_ Try.func7 rfl rfl (by kernel_rfl) ?_
  conv => whnf
  have mP := Mod.push none_ h (.row true 6 c.cells)
  have gm : (h.push (.row true 6 c.cells)).obj h.next = some (.row true 6 c.cells) := H.obj_push_new _ _
  refine ⟨c.cells, Cells.mk gm (Nat.le_of_ble_eq_true rfl) rfl, ?_⟩
  conv => whnf
  refine (cCheck _ c).mono ?_
  rintro _ h1 ⟨rfl, m1⟩
  have gm := m1.get gm (.inl (fun k => k))
  have mo := mod_none mP m1
  cases ok : okCfg c with
  | false =>
    conv => whnf
    exact .inl ⟨rfl, rfl, mo⟩
  | true =>
    conv => whnf
    refine ⟨c.cells, Cells.mk gm (Nat.le_of_ble_eq_true rfl) rfl, ?_⟩
    conv => whnf
    have q4 := Mod.push none_ h1 (.row true 13 (drow (DV.new c) (.ptr none) none))
    exact .inr ⟨rfl, h1.next, rfl, ⟨none, H.obj_push_new h1 _, ⟨rfl, .inl rfl⟩⟩, mo.next, mod_none mo q4⟩
end Go.Proofs.Ytmififfaljihgaa
