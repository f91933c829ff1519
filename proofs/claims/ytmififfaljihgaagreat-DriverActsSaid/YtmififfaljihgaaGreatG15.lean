/- DriverActs: what goes out is bytes; acts, as they lie. -/
import Derived.Test.YtmififfaljihgaaGreatG14
set_option linter.unusedVariables false
namespace Go.Proofs.YtmififfaljihgaaGreat
open Go Go.Ab
abbrev OutOk (X : List (List Int)) : Prop := (∀ x ∈ X, Bts x) ∧ X.length ≤ 100000
theorem out_nil : OutOk [] := ⟨fun x hx => (by cases hx), Nat.zero_le _⟩
theorem out_map {L : List GV} (h : ∀ g ∈ L, GO g) (hl : L.length ≤ 100000) : OutOk (L.map encV) := by
  refine ⟨fun x hx => ?_, by rw [List.length_map]; exact hl⟩
  obtain ⟨g, hg, rfl⟩ := List.mem_map.1 hx
  exact encG_bts (m := toG g none) (go_body (h g hg)).1
theorem VI.startX {v : DV} {oc : Option CV} {K : Int} (i : VI v oc K) (now a n : Int) : OutOk (stStart (v, oc) now a n).1.1 := by
  rw [stStart]
  split
  · rw [startR_one i.ok]
    refine out_map (fun g hg => ?_) (show 1 ≤ 100000 by decide)
    have hg : g = ⟨v.conn + 1, 1, 0, 0, 0, encB (openM a n)⟩ := by simpa using hg
    subst hg
    exact ⟨encB_oct _, i64_in (show (-1000000000 : Int) ≤ 0 by decide) (show (0 : Int) ≤ 1000000000 by decide), openM_len a n⟩
  · exact out_nil
section
variable {v : DV} {oc : Option CV} {K : Int} (i : VI v oc K) (hK0 : 0 ≤ K) (hK : K ≤ 100) (now : Int)
include i hK0 hK
theorem VI.pushX {cv : CV} (e : oc = some cv) {m : Msg} (hl : (encB m).length ≤ 100000) : OutOk ((pushV cv now (encB m)).1.1.map encV) := by
  obtain ⟨g, c1, c2⟩ := i.cg cv e
  exact out_map (push_ov g.ok g.ov (by omega) now (encB_oct m) hl).2.1 (push_len g.ok _ _)
theorem VI.reportX (p : Int) : OutOk (stReport (v, oc) now p).1.1 := by
  rw [stReport]
  split
  · exact out_nil
  · split
    · exact out_nil
    · split
      · exact out_nil
      · rename_i cv e
        have e : oc = some cv := e
        split
        · exact i.pushX hK0 hK now e (repM_len p)
        · exact out_nil
theorem VI.followX : OutOk (stFollow (v, oc) now).1.1 := by
  rw [stFollow]
  split
  · exact out_nil
  · exact i.reportX hK0 hK now _
theorem VI.stopX : OutOk (stStop (v, oc) now).1.1 := by
  rw [stStop]
  split
  · exact out_nil
  · split
    · exact out_nil
    · rename_i cv e
      have e : oc = some cv := e
      exact i.pushX hK0 hK now e byeM_len
theorem VI.tickX : OutOk (stTick (v, oc) now).1 := by
  rw [stTick]
  split
  · exact out_nil
  · split
    · exact out_nil
    · rename_i cv e
      have e : oc = some cv := e
      obtain ⟨g, c1, c2⟩ := i.cg cv e
      show OutOk (tickO cv now)
      unfold tickO
      split
      · exact out_map (pass_ov g.ok g.ov (by omega) now).2.1 (pass_len g.ok _)
      · exact out_nil
theorem VI.recvXX {b : List Int} (bb : Bts b) : OutOk (stRecv (v, oc) now (gOf b)).1.1 := by
  rw [stRecv]
  split
  · exact out_nil
  · rename_i cv e
    have e : oc = some cv := e
    obtain ⟨g, c1, c2⟩ := i.cg cv e
    show OutOk (rcvO v cv now (gOf b)).1
    cases eg : gOf b with
    | none => exact out_nil
    | some gg =>
      rw [rcvO]
      split
      · exact out_map (recv_ov g.ok g.ov (by omega) now (gOf_go bb eg)).2.2.1 (recv_len g.ok _ _)
      · exact out_nil
theorem VI.gotN {b : List Int} (bb : Bts b) : (stRecv (v, oc) now (gOf b)).1.2.length ≤ 100000 := by
  rw [stRecv]
  split
  · exact Nat.zero_le _
  · rename_i cv e
    have e : oc = some cv := e
    obtain ⟨g, c1, c2⟩ := i.cg cv e
    show (rcvO v cv now (gOf b)).2.length ≤ 100000
    cases eg : gOf b with
    | none => exact Nat.zero_le _
    | some gg =>
      rw [rcvO]
      split
      · have h1 := (recv_ov g.ok g.ov (by omega) now (gOf_go bb eg)).2.2.2.2.2.2
        have h2 : (gotV (recvV cv now gg).1.1).length ≤ (recvV cv now gg).1.1.length := List.length_filterMap_le _ _
        show (gotV (recvV cv now gg).1.1).length ≤ 100000
        omega
      · exact Nat.zero_le _
end
/-- an act -/
structure ActV where
  k : Int
  n : Int
  m : Int
  s : Int
  w : Msg
  rp : Option (Nat × Nat)
  raw : List Int
def ActV.cells (a : ActV) : List V := [i64 a.k, i64 a.n, i64 a.m, i64 a.s, i64 a.w.k, i64 a.w.p, i64 a.w.d, .sl a.w.ep a.w.es.length, i64 a.w.w, i64 a.w.c, i64 a.w.e, i64 a.w.f, i64 a.w.l, .sl a.rp a.raw.length]
theorem ActV.cells_len (a : ActV) : a.cells.length = 14 := rfl
structure ActOk (h : H) (a : ActV) : Prop where
  es : RoSl h a.w.ep a.w.es.length 1 (ints .i64 a.w.es)
  e : -9223372036854775808 ≤ a.w.e ∧ a.w.e ≤ 9223372036854775807
  raw : RoSl h a.rp a.raw.length 1 (ints .u8 a.raw)
  bts : Bts a.raw
theorem ActOk.get {Z : Nat → Prop} {h h' : H} {a : ActV} (o : ActOk h a) (m : Ab.Mod Z h h') : ActOk h' a := ⟨o.es.get m, o.e, o.raw.get m, o.bts⟩
structure ActL (h : H) (p : Option (Nat × Nat)) (L : List ActV) : Prop where
  row : RoSl h p L.length 14 (L.flatMap ActV.cells)
  all : ∀ a ∈ L, ActOk h a
theorem ActL.get {Z : Nat → Prop} {h h' : H} {p : Option (Nat × Nat)} {L : List ActV} (o : ActL h p L) (m : Ab.Mod Z h h') : ActL h' p L := ⟨o.row.get m, fun a ha => (o.all a ha).get m⟩
theorem Msg.cells_len (m : Msg) : m.cells.length = 9 := rfl
/-- the j-th messages of two rows that are alike -/
theorem Msgs.two {h : H} {lo1 lo2 : Nat} {q1 q2 : Option (Nat × Nat)} {Y : List Msg} (a : Msgs h lo1 q1 Y) (b : Msgs h lo2 q2 Y) {j : Nat} (hj : j < Y.length) :
    ∃ i1 c1 i2 c2 m1 m2, q1 = some (i1, c1) ∧ Cells h i1 (c1 + j * 9) 9 (Msg.cells m1) ∧ m1.ok h ∧ q2 = some (i2, c2) ∧ Cells h i2 (c2 + j * 9) 9 (Msg.cells m2) ∧ m2.ok h ∧ sameM m1 m2 = true := by
  obtain ⟨G1, r1, o1, e1⟩ := a
  obtain ⟨G2, r2, o2, e2⟩ := b
  have l1 : Y.length = G1.length := by rw [← e1, List.length_map]
  have l2 : Y.length = G2.length := by rw [← e2, List.length_map]
  obtain ⟨i1, c1, p1, f1, _⟩ := sls_get Msg.cells_len r1.is l1 (j := j) (by omega)
  obtain ⟨i2, c2, p2, f2, _⟩ := sls_get Msg.cells_len r2.is l2 (j := j) (by omega)
  have h1 : j < G1.length := by omega
  have h2 : j < G2.length := by omega
  refine ⟨i1, c1, i2, c2, G1[j], G2[j], p1, f1, (o1 _ (List.getElem_mem h1)).1, p2, f2, (o2 _ (List.getElem_mem h2)).1, ?_⟩
  have eb : G1[j].bare = G2[j].bare := by
    have x1 : (G1.map Msg.bare)[j]'(by rw [List.length_map]; omega) = G1[j].bare := List.getElem_map _
    have x2 : (G2.map Msg.bare)[j]'(by rw [List.length_map]; omega) = G2[j].bare := List.getElem_map _
    rw [← x1, ← x2]
    congr 1
    rw [e1, e2]
  have s1 : eqM G1[j].bare G1[j] := by
    rw [eqM, Msg.bare]
  have s2 : eqM G1[j].bare G2[j] := by
    rw [eb, eqM, Msg.bare]
  exact s1.same s2
theorem Msgs.get {Z : Nat → Prop} {h h' : H} {lo : Nat} {q : Option (Nat × Nat)} {Y : List Msg} (a : Msgs h lo q Y) (m : Ab.Mod Z h h') (hz : ∀ i, Z i → i < lo) : Msgs h' lo q Y := by
  obtain ⟨G, r, o, e⟩ := a
  exact ⟨G, r.get m, fun x hx => ⟨(o x hx).1.by m (fun i c k => .inr (fun k2 => by
    have := (o x hx).2 i c k
    have := hz i k2
    omega)), (o x hx).2⟩, e⟩
end Go.Proofs.YtmififfaljihgaaGreat
