/- ME: several texts in one. -/
import Derived.Test.YteapijoibimfnaaGreatMD
set_option linter.unusedVariables false
set_option linter.unusedSimpArgs false
/-! The document's server without a wire: what it is in memory; telling, hints, asking for a way. -/
namespace Go.Proofs.YteapijoibimfnaaGreat
open Go Go.Ab
structure Part where
  F : Nat → Prop
  P : H → Prop
  lt : ∀ {h : H} {i : Nat}, P h → F i → i < h.next
  get : ∀ {h h' : H} {Z : Nat → Prop}, P h → Ab.Mod Z h h' → (∀ i, F i → ¬ Z i) → P h'
def Sep (h : H) (ps : Nat → Part) : Prop := (∀ n, (ps n).P h) ∧ ∃ tg : Nat → Nat, ∀ n i, (ps n).F i → tg i = n
def upd {α : Type} (ps : Nat → α) (n : Nat) (q : α) : Nat → α := fun m => if m = n then q else ps m
theorem upd_same {α : Type} (ps : Nat → α) (n : Nat) (q : α) : upd ps n q n = q := if_pos rfl
theorem upd_ne {α : Type} (ps : Nat → α) {n m : Nat} (q : α) (h : m ≠ n) : upd ps n q m = ps m := if_neg h
theorem Sep.turn {h h' : H} {ps : Nat → Part} (s : Sep h ps) (n : Nat) {q : Part} (hq : q.P h') (m : Ab.Mod (ps n).F h h') (hF : ∀ i, q.F i → (ps n).F i ∨ h.next ≤ i) : Sep h' (upd ps n q) := by
  obtain ⟨s1, tg, s2⟩ := s
  refine ⟨fun k => ?_, fun i => if h.next ≤ i then n else tg i, fun k i hi => ?_⟩
  · by_cases e : k = n
    · subst e
      rw [upd_same]
      exact hq
    · rw [upd_ne _ _ e]
      exact (ps k).get (s1 k) m (fun i hi hz => e ((s2 k i hi).symm.trans (s2 n i hz)))
  · by_cases e : k = n
    · subst e
      rw [upd_same] at hi
      show (if h.next ≤ i then k else tg i) = k
      by_cases hn : h.next ≤ i
      · rw [if_pos hn]
      · rw [if_neg hn]
        rcases hF i hi with q | q
        · exact s2 k i q
        · exact absurd q hn
    · rw [upd_ne _ _ e] at hi
      have := (ps k).lt (s1 k) hi
      show (if h.next ≤ i then n else tg i) = k
      rw [if_neg (by omega)]
      exact s2 k i hi
theorem Sep.get {h h' : H} {ps : Nat → Part} (s : Sep h ps) {Z : Nat → Prop} (m : Ab.Mod Z h h') (hz : ∀ n i, (ps n).F i → ¬ Z i) : Sep h' ps :=
  ⟨fun k => (ps k).get (s.1 k) m (hz k), s.2⟩
theorem Sep.old {h h' : H} {ps : Nat → Part} (s : Sep h ps) (m : Ab.Mod none_ h h') : Sep h' ps := s.get m (fun _ _ _ k => k)
theorem Sep.lt {h : H} {ps : Nat → Part} (s : Sep h ps) {n i : Nat} (hi : (ps n).F i) : i < h.next := (ps n).lt (s.1 n) hi
theorem Sep.ne {h : H} {ps : Nat → Part} (s : Sep h ps) {n m i : Nat} (hi : (ps n).F i) (hj : (ps m).F i) : n = m := by
  obtain ⟨_, tg, s2⟩ := s
  rw [← s2 n i hi, ← s2 m i hj]
def noP : Part := ⟨fun _ => False, fun _ => True, fun _ h => h.elim, fun _ _ _ => trivial⟩
def cellP (i : Nat) (ob : Ab.Obj) : Part := ⟨one i, fun h => h.obj i = some ob, fun {h j} p e => by
    have : j = i := e
    rw [this]
    exact h.lt i ob p, fun p m hz => m.get p (.inl (hz i rfl))⟩
structure SpB (h : H) (B t x : Nat) (g : Gra) (ps : Nat → Part) : Prop where
  tu : TuS h B t x g
  hB : B ≤ h.next
  sp : Sep h ps
  lo : ∀ n i, (ps n).F i → B ≤ i
def StpP (h : H) (ps : Nat → Part) (h' : H) (ps' : Nat → Part) : Prop := Ab.Mod (fun i => ∃ n, (ps n).F i) h h' ∧ ∀ n i, (ps' n).F i → (∃ m, (ps m).F i) ∨ h.next ≤ i
theorem StpP.trans {h h1 h2 : H} {ps ps1 ps2 : Nat → Part} (a : StpP h ps h1 ps1) (b : StpP h1 ps1 h2 ps2) : StpP h ps h2 ps2 :=
  ⟨a.1.trans' b.1 (fun _ _ k => k) fun i hi ⟨n, k⟩ => (a.2 n i k).elim id fun q => absurd q (by omega), fun n i k => (b.2 n i k).elim (fun ⟨m, k⟩ => a.2 m i k) fun q => .inr (Nat.le_trans a.1.next q)⟩
theorem StpP.old {h h' : H} {ps : Nat → Part} (m : Ab.Mod none_ h h') : StpP h ps h' ps := ⟨m.mono fun _ _ k => k.elim, fun n i k => .inl ⟨n, k⟩⟩
theorem StpP.same {h h' : H} {ps ps' : Nat → Part} (m : Ab.Mod none_ h h') (e : ps' = ps) : StpP h ps h' ps' := by
  subst e
  exact .old m
theorem SpB.old {h h' : H} {B t x : Nat} {g : Gra} {ps : Nat → Part} (s : SpB h B t x g ps) (m : Ab.Mod none_ h h') : SpB h' B t x g ps :=
  ⟨s.tu.get m (fun _ _ k => k), Nat.le_trans s.hB m.next, s.sp.old m, s.lo⟩
theorem SpB.turn {h h' : H} {B t x : Nat} {g : Gra} {ps : Nat → Part} (s : SpB h B t x g ps) (n : Nat) {q : Part} (hq : q.P h') (m : Ab.Mod (ps n).F h h') (hF : ∀ i, q.F i → (ps n).F i ∨ h.next ≤ i) : SpB h' B t x g (upd ps n q) ∧ StpP h ps h' (upd ps n q) := by
  refine ⟨⟨s.tu.get m fun i hi k => by have := s.lo n i k; omega, Nat.le_trans s.hB m.next, s.sp.turn n hq m hF, fun k i hi => ?_⟩, m.mono fun i _ k => ⟨n, k⟩, fun k i hi => ?_⟩
  · by_cases e : k = n
    · subst e
      rw [upd_same] at hi
      exact (hF i hi).elim (s.lo k i) fun q => Nat.le_trans s.hB q
    · rw [upd_ne _ _ e] at hi
      exact s.lo k i hi
  · by_cases e : k = n
    · subst e
      rw [upd_same] at hi
      exact (hF i hi).imp (fun q => ⟨k, q⟩) id
    · rw [upd_ne _ _ e] at hi
      exact .inl ⟨k, hi⟩
/-- what is apart from it all stays -/
theorem StpP.get {h h' : H} {ps ps' : Nat → Part} (s : StpP h ps h' ps') {b : Nat} {ob : Ab.Obj} (k : h.obj b = some ob) (hb : ∀ n, ¬ (ps n).F b) : h'.obj b = some ob := s.1.get k (.inl fun ⟨n, q⟩ => hb n q)
theorem StpP.far {h h' : H} {ps ps' : Nat → Part} (s : StpP h ps h' ps') {b : Nat} (hl : b < h.next) (hb : ∀ n, ¬ (ps n).F b) : ∀ n, ¬ (ps' n).F b := fun n k => (s.2 n b k).elim (fun ⟨m, q⟩ => hb m q) fun q => by omega
theorem StpP.sl {h h' : H} {ps ps' : Nat → Part} (s : StpP h ps h' ps') {q : Option (Nat × Nat)} {n sz : Nat} {own : Bool} {cs : List V} (k : SlIs h q n own sz cs) (hb : ∀ n i, inSl q i → ¬ (ps n).F i) : SlIs h' q n own sz cs := k.get s.1 fun i o e => .inl fun ⟨n, z⟩ => hb n i ⟨o, e⟩ z
/-- a message: kind, place, end, edges, weight, hint -/
structure Msg where
  k : Int
  p : Int
  d : Int
  es : List Nat
  ep : Option (Nat × Nat)
  w : Int
  c : Int
  e : Int
  f : Int
  l : Int
def mC (m : Msg) : List V := [i64 m.k, i64 m.p, i64 m.d, .sl m.ep m.es.length, i64 m.w, i64 m.c, i64 m.e, i64 m.f, i64 m.l]
theorem mC_len (m : Msg) : (mC m).length = 9 := rfl
def mOk (h : H) (m : Msg) : Prop := RoSl h m.ep m.es.length 1 (ints .i64 (natL m.es)) ∧ m.es.length ≤ 512
theorem mOk.get {S : Nat → Prop} {h h' : H} {m : Msg} (s : mOk h m) (md : Ab.Mod S h h') : mOk h' m := ⟨RoSl.get s.1 md, s.2⟩
structure IdC where
  t : Nat
  x : Nat
  s : Nat
  xt : Nat
  mm : Nat
  mt : Nat
  I : Nat
  B : Nat
  p : Option (Nat × Nat)
  g : Gra
  w : Int × Int
structure IdV where
  q : Option (Nat × Nat)
  qw : Option (Nat × Nat)
  U : List Int
  now : Int
  mo : Ab.Obj
  ar : Nat
  nd : Nat
  way : List Nat
  has : Bool
  don : Bool
  T : List Msg
def setP (s : Nat) (p : Option (Nat × Nat)) (U : List Int) : Part := ⟨foot s p, fun h => St h s p U, fun s hi => s.lt _ hi, fun s m hz => s.get m hz⟩
def slP (q : Option (Nat × Nat)) (n sz : Nat) (cs : List V) : Part := ⟨inSl q, fun h => SlIs h q n true sz cs, fun s e => SlIs.own_lt s e, fun s m hz => s.get m fun i o e => .inl (hz i ⟨o, e⟩)⟩
def idP (c : IdC) (v : IdV) : Nat → Part
  | 0 => cellP c.I (.row true 5 [.ptr (some (c.t, 0)), .ptr (some (c.s, 0)), i64 v.now, .mp (some c.mm), .mp (some c.mt)])
  | 1 => cellP c.mm v.mo
  | 2 => cellP c.mt (.map true (mpP .i64 [(c.w, .sl v.q v.T.length)]))
  | 3 => cellP c.xt (.row true 5 [i64 v.ar, i64 v.nd, .sl v.qw v.way.length, .bool v.has, .bool v.don])
  | 4 => setP c.s c.p v.U
  | 5 => slP v.q v.T.length 9 (v.T.flatMap mC)
  | _ => noP
structure Idl (h : H) (c : IdC) (v : IdV) : Prop where
  sp : SpB h c.B c.t c.x c.g (idP c v)
  way : RoSl h v.qw v.way.length 1 (ints .i64 (natL v.way))
  ro : ∀ m ∈ v.T, mOk h m
  ha : v.ar < c.g.es.length
  hn : v.nd < c.g.ns.length
  hU : v.U.length = c.g.es.length
  hwl : v.way.length ≤ c.g.es.length
  hw : pwf .i64 c.w
theorem Idl.old {h h' : H} {c : IdC} {v : IdV} (s : Idl h c v) (m : Ab.Mod none_ h h') : Idl h' c v := ⟨s.sp.old m, s.way.get m, fun x hx => (s.ro x hx).get m, s.ha, s.hn, s.hU, s.hwl, s.hw⟩
theorem Idl.oI {h : H} {c : IdC} {v : IdV} (s : Idl h c v) : h.obj c.I = some (.row true 5 [.ptr (some (c.t, 0)), .ptr (some (c.s, 0)), i64 v.now, .mp (some c.mm), .mp (some c.mt)]) := s.sp.sp.1 0
theorem Idl.oM {h : H} {c : IdC} {v : IdV} (s : Idl h c v) : h.obj c.mm = some v.mo := s.sp.sp.1 1
theorem Idl.oT {h : H} {c : IdC} {v : IdV} (s : Idl h c v) : h.obj c.mt = some (.map true (mpP .i64 [(c.w, .sl v.q v.T.length)])) := s.sp.sp.1 2
theorem Idl.oX {h : H} {c : IdC} {v : IdV} (s : Idl h c v) : h.obj c.xt = some (.row true 5 [i64 v.ar, i64 v.nd, .sl v.qw v.way.length, .bool v.has, .bool v.don]) := s.sp.sp.1 3
theorem Idl.oS {h : H} {c : IdC} {v : IdV} (s : Idl h c v) : St h c.s c.p v.U := s.sp.sp.1 4
theorem Idl.oQ {h : H} {c : IdC} {v : IdV} (s : Idl h c v) : SlIs h v.q v.T.length true 9 (v.T.flatMap mC) := s.sp.sp.1 5
/-- the driver's row is written -/
theorem Idl.setX {h : H} {c : IdC} {v : IdV} (s : Idl h c v) {ar : Nat} {qw : Option (Nat × Nat)} {way : List Nat} {has don : Bool} (hw : RoSl h qw way.length 1 (ints .i64 (natL way))) (ha : ar < c.g.es.length) (hwl : way.length ≤ c.g.es.length) :
    Idl (h.set c.xt (.row true 5 [i64 ar, i64 v.nd, .sl qw way.length, .bool has, .bool don])) c { v with ar := ar, qw := qw, way := way, has := has, don := don } ∧ StpP h (idP c v) (h.set c.xt (.row true 5 [i64 ar, i64 v.nd, .sl qw way.length, .bool has, .bool don])) (idP c { v with ar := ar, qw := qw, way := way, has := has, don := don }) := by
  have m := Mod.set (S := one c.xt) (ob := .row true 5 [i64 ar, i64 v.nd, .sl qw way.length, .bool has, .bool don]) rfl s.oX rfl
  obtain ⟨a, b⟩ := s.sp.turn 3 (q := cellP c.xt (.row true 5 [i64 ar, i64 v.nd, .sl qw way.length, .bool has, .bool don])) (H.obj_set_same s.oX) m fun i k => .inl k
  have e : idP c { v with ar := ar, qw := qw, way := way, has := has, don := don } = upd (idP c v) 3 (cellP c.xt (.row true 5 [i64 ar, i64 v.nd, .sl qw way.length, .bool has, .bool don])) := by
    funext n
    rcases n with _ | _ | _ | _ | _ | _ | n <;> rfl
  rw [← e] at a b
  exact ⟨⟨a, hw.get m, fun x hx => (s.ro x hx).get m, ha, s.hn, s.hU, hwl, s.hw⟩, b⟩
theorem pget_one {α : Type} (w : Int × Int) (x : α) : pget [(w, x)] (w.1, w.2) = some x := by simp [pget]
theorem pput_one {α : Type} (w : Int × Int) (x y : α) : pput [(w, x)] (w.1, w.2) y = [(w, y)] := by simp [pput]
def IdR (h : H) (c : IdC) (v : IdV) (φ : IdV → Prop) (h' : H) : Prop := ∃ v', φ v' ∧ Idl h' c v' ∧ StpP h (idP c v) h' (idP c v')
set_option maxHeartbeats 2000000 in
theorem tell41 {h : H} {c : IdC} {v : IdV} (s : Idl h c v) {ql : Option (Nat × Nat)} {L : List Msg} (sl : SlIs h ql L.length false 9 (L.flatMap mC)) (ro : ∀ m ∈ L, mOk h m) (hq : ∀ n i, inSl ql i → ¬ (idP c v n).F i) (hl : v.T.length + L.length ≤ 100000) :
    ACalls Tryz.prog 41 [.ptr (some (c.I, 0)), .agg [i64 c.w.1, i64 c.w.2], .sl ql L.length] h (fun r h' => IdR h c v (fun v' => ∃ q, v' = { v with q := q, T := v.T ++ L }) h') := by
  refine call_ Tryz.func41 rfl rfl (by kernel_rfl) ?_
  conv => whnf
  have m0 := Mod.push none_ h (.row true 2 [i64 c.w.1, i64 c.w.2])
  have g0 : (h.push (.row true 2 [i64 c.w.1, i64 c.w.2])).obj h.next = some (.row true 2 [i64 c.w.1, i64 c.w.2]) := H.obj_push_new _ _
  have s0 := s.old m0
  refine ⟨[0, 1, 2, 3, 4, 5, 6, 7, 9, 8, 10], [0, 1, 3, 7, 0, 0, 63, 127, 255, 127, 1023], by kernel_rfl, ?_⟩
  conv => whnf
  refine ⟨_, Cell.mk s0.oI rfl, ?_⟩
  conv => whnf
  refine ⟨_, Cells.mk g0 (Nat.le_of_ble_eq_true rfl) rfl, ?_⟩
  conv => whnf
  refine ⟨_, s0.oT, by simp, by simp; exact s.hw, s.hw, fun ms' bs cl p b q1 q2 q3 q4 q5 q6 => ?_⟩
  rw [pget_one]
  conv => whnf
  refine ⟨_, rfl, ?_⟩
  conv => whnf
  refine ⟨_, rfl, ?_⟩
  conv => whnf
  have mm1 := Mod.set (S := one c.mt) (ob := .mapb (mpP .i64 ms') bs cl) rfl s0.oT rfl
  obtain ⟨sp1, st1⟩ := s0.sp.turn 2 (q := cellP c.mt (.mapb (mpP .i64 ms') bs cl)) (H.obj_set_same s0.oT) mm1 fun i k => .inl k
  have sq : SlIs _ v.q v.T.length true 9 (v.T.flatMap mC) := sp1.sp.1 5
  have sl1 : SlIs ((h.push (.row true 2 [i64 c.w.1, i64 c.w.2])).set c.mt (.mapb (mpP .i64 ms') bs cl)) ql L.length false 9 (L.flatMap mC) := (SlIs.old sl m0 (fun _ _ k => k)).get mm1 fun i o e => .inl fun k => hq 2 i ⟨o, e⟩ k
  refine ⟨_, _, sq, sl1, ?_, by omega, fun p' h' hs hm hf => ?_⟩
  · show _ * 88 ≤ _
    omega
  conv => whnf
  obtain ⟨sp2, st2⟩ := sp1.turn 5 (q := slP p' (v.T.length + L.length) 9 (v.T.flatMap mC ++ L.flatMap mC)) hs hm fun i ⟨o, e⟩ => (hf i o e).elim (fun k => .inl ⟨o, by rw [← k]; exact e⟩) .inr
  have gm : h'.obj c.mt = some (.mapb (mpP .i64 ms') bs cl) := sp2.sp.1 2
  refine ⟨ms', bs, cl, p, b, (c.w.1, c.w.2), gm, rfl, q5, q4, ?_⟩
  rw [q6, pput_one]
  conv => whnf
  have mm3 := Mod.set (S := one c.mt) (ob := .map true (mpP .i64 [(c.w, .sl p' (v.T.length + L.length))])) rfl gm rfl
  obtain ⟨sp3, st3⟩ := sp2.turn 2 (q := cellP c.mt (.map true (mpP .i64 [(c.w, .sl p' (v.T.length + L.length))]))) (H.obj_set_same gm) mm3 fun i k => .inl k
  have e : idP c { v with q := p', T := v.T ++ L } = upd (upd (upd (idP c v) 2 (cellP c.mt (.mapb (mpP .i64 ms') bs cl))) 5 (slP p' (v.T.length + L.length) 9 (v.T.flatMap mC ++ L.flatMap mC))) 2 (cellP c.mt (.map true (mpP .i64 [(c.w, .sl p' (v.T.length + L.length))]))) := by
    funext n
    rcases n with _ | _ | _ | _ | _ | _ | n
    · rfl
    · rfl
    · show cellP c.mt (.map true (mpP .i64 [(c.w, .sl p' (v.T ++ L).length)])) = _
      rw [List.length_append]
      rfl
    · rfl
    · rfl
    · show slP p' (v.T ++ L).length 9 ((v.T ++ L).flatMap mC) = _
      rw [List.length_append, List.flatMap_append]
      rfl
    · rfl
  rw [← e] at sp3 st3
  have st := (StpP.old m0).trans (st1.trans (st2.trans st3))
  refine ⟨_, ⟨p', rfl⟩, ⟨sp3, s.way.get st.1, fun x hx => ?_, s.ha, s.hn, s.hU, s.hwl, s.hw⟩, st⟩
  rcases List.mem_append.1 hx with k | k
  · exact (s.ro x k).get st.1
  · exact (ro x k).get st.1
end Go.Proofs.YteapijoibimfnaaGreat
/-! The document's server without a wire: hints, asking for a way. -/
namespace Go.Proofs.YteapijoibimfnaaGreat
open Go Go.Ab
theorem pre_row {a b : H} (m : Ab.Mod none_ a b) (ob : Ab.Obj) : Ab.Mod none_ b (b.push ob) ∧ (b.push ob).obj b.next = some ob := ⟨Mod.push none_ b ob, H.obj_push_new _ _⟩
theorem ed_to {g : Gra} (hm : mayG g = true) {e : Nat} (he : e < g.es.length) : (edV g (e : Int)).2.1 = (toK g e : Int) := by
  have := mayG_edge hm he
  rw [edV_nat he, toK, es_get g he]
  omega
theorem SpB.fresh {h : H} {B t x : Nat} {g : Gra} {ps : Nat → Part} (s : SpB h B t x g ps) {i : Nat} (hi : h.next ≤ i) : ∀ n, ¬ (ps n).F i := fun n k => by
  have := s.sp.lt k
  omega
/-- one message is told -/
theorem Idl.msg {h : H} {c : IdC} {v : IdV} (s : Idl h c v) (m : Msg) (hm : mOk h m) (hl : v.T.length ≤ 90000) :
    ACalls Tryz.prog 41 [.ptr (some (c.I, 0)), .agg [i64 c.w.1, i64 c.w.2], .sl (some (h.next, 0)) 1] (h.push (.row true 9 (mC m))) (fun r h' => IdR h c v (fun v' => ∃ q, v' = { v with q := q, T := v.T ++ [m] }) h') := by
  have mP := Mod.push none_ h (.row true 9 (mC m))
  have gP : (h.push (.row true 9 (mC m))).obj h.next = some (.row true 9 (mC m)) := H.obj_push_new _ _
  refine (tell41 (s.old mP) (ql := some (h.next, 0)) (L := [m]) (SlIs.row (n := 1) gP rfl).weak (fun x hx => ?_) (fun n i ⟨o, e⟩ => ?_) (by simp; omega)).mono ?_
  · rw [List.mem_singleton] at hx
    subst hx
    exact hm.get mP
  · injection e with e
    injection e with e1 e2
    rw [← e1]
    exact s.sp.fresh (Nat.le_refl _) n
  · rintro _ h' ⟨v', a, b, st⟩
    exact ⟨v', a, b, (StpP.old mP).trans st⟩
def HntP (c : IdC) (v v' : IdV) : Prop := ∃ q m', (toK c.g v.ar = v.nd ∧ m'.k = 8 ∧ v' = { v with q := q, don := true, T := v.T ++ [m'] }) ∨ (toK c.g v.ar ≠ v.nd ∧ m'.k = 7 ∧ v' = { v with q := q, T := v.T ++ [m'] })
set_option maxHeartbeats 2000000 in
theorem hint43 {h : H} {c : IdC} {v : IdV} (s : Idl h c v) (hl : v.T.length ≤ 90000) :
    ACalls Tryz.prog 43 [.ptr (some (c.I, 0)), .agg [i64 c.w.1, i64 c.w.2], .ptr (some (c.xt, 0))] h (fun r h' => IdR h c v (HntP c v) h') := by
  have hz := mayG_size s.sp.tu.gr.ok
  have hwl := s.hwl
  refine call_ Tryz.func43 rfl rfl (by kernel_rfl) ?_
  conv => whnf
  have m0 := Mod.push none_ h (.row true 2 [i64 c.w.1, i64 c.w.2])
  have g0 : (h.push (.row true 2 [i64 c.w.1, i64 c.w.2])).obj h.next = some (.row true 2 [i64 c.w.1, i64 c.w.2]) := H.obj_push_new _ _
  have s0 := s.old m0
  have hb0 := s.sp.fresh (Nat.le_refl h.next)
  have hb1 : h.next < (h.push (.row true 2 [i64 c.w.1, i64 c.w.2])).next := Nat.lt_succ_self _
  have hto : (edV c.g (v.ar : Int)).2.1 = (toK c.g v.ar : Int) := ed_to s.sp.tu.gr.ok s.ha
  obtain ⟨o, A, P, gt, -⟩ := s0.sp.tu.is
  refine ⟨[], [11, 15], rfl, ⟨[0, 1, 2, 3, 4, 5, 6, 7, 8, 9, 10, 11, 12, 13, 14, 15, 16, 17], [0, 1, 3, 7, 15, 31, 63, 0, 128, 384, 896, 2047, 4095, 8191, 8191, 4095, 49151, 131071], by kernel_rfl, ?_⟩, ⟨[0, 1, 2, 3, 4, 5, 6, 7, 8, 9, 10, 15, 11, 12, 13, 14, 16, 17], [0, 1, 3, 7, 15, 31, 63, 0, 128, 384, 896, 34815, 36863, 40959, 40959, 0, 49151, 131071], by kernel_rfl, ?_⟩⟩
  · conv => whnf
    refine ⟨_, Cell.mk s0.oI rfl, ?_⟩
    conv => whnf
    refine ⟨_, Cell.mk gt rfl, ?_⟩
    conv => whnf
    refine ⟨_, Cell.mk s0.oX rfl, ?_⟩
    conv => whnf
    refine (grEdge s0.sp.tu.gr s0.sp.hB _).mono ?_
    rintro _ h1 ⟨rfl, m1⟩
    conv => whnf
    refine ⟨_, rfl, ?_⟩
    conv => whnf
    refine ⟨_, rfl, ?_⟩
    conv => whnf
    obtain ⟨gz, gA, mx⟩ := lay_row (h := h1) (sz := 3) [i64 0, i64 0, i64 0] (eC (edV c.g v.ar))
    refine ⟨_, _, gz, Nat.le_of_ble_eq_true rfl, ?_⟩
    conv => whnf
    have mA := mod_none m1 mx
    have sA := s0.old mA
    have gB := mA.get g0 (.inl fun k => k)
    refine ⟨[0, 1, 2, 3, 4, 5, 6], [0, 1, 0, 4, 12, 28, 63], by kernel_rfl, ?_⟩
    conv => whnf
    refine ⟨_, Cell.mk gA rfl, ?_⟩
    conv => whnf
    refine ⟨_, Cell.mk sA.oX rfl, ?_⟩
    conv => whnf
    rw [hto]
    refine br_mk (fun hk => ?_) (fun hk => ?_)
    · conv => whnf
      have hk : toK c.g v.ar = v.nd := by simp at hk; omega
      refine ⟨_, _, sA.oX, Nat.le_of_ble_eq_true rfl, ?_⟩
      conv => whnf
      obtain ⟨s2, st2⟩ := sA.setX (has := v.has) (don := true) (ar := v.ar) sA.way sA.ha sA.hwl
      refine ⟨_, Cells.mk (st2.get gB hb0) (Nat.le_of_ble_eq_true rfl) rfl, ?_⟩
      conv => whnf
      refine (s2.msg ⟨8, 0, 0, [], none, 0, 0, 0, 0, 0⟩ ⟨RoSl.nil _ _ _, Nat.zero_le _⟩ hl).mono ?_
      rintro _ h9 ⟨v', ⟨q, rfl⟩, s3, st3⟩
      conv => whnf
      exact ⟨_, ⟨q, _, .inl ⟨hk, rfl, rfl⟩⟩, s3, (StpP.old (mod_none m0 mA)).trans (st2.trans st3)⟩
    conv => whnf
    have hk : toK c.g v.ar ≠ v.nd := by simp at hk; omega
    refine ⟨[], [12, 16], rfl, ⟨[0, 1, 2, 3, 4, 5, 6, 7, 8, 9, 10, 11, 12, 13, 14, 15, 16, 17, 18], [0, 1, 3, 7, 0, 16, 48, 112, 0, 256, 768, 1792, 4095, 8191, 16383, 16383, 8191, 98303, 262143], by kernel_rfl, ?_⟩, ⟨[0, 1, 2, 3, 4, 5, 6, 7, 8, 9, 10, 11, 16, 12, 13, 14, 15, 17, 18], [0, 1, 3, 7, 0, 16, 48, 112, 0, 256, 768, 1792, 69631, 73727, 81919, 81919, 0, 98303, 262143], by kernel_rfl, ?_⟩⟩
    · conv => whnf
      refine ⟨_, Cell.mk sA.oI rfl, ?_⟩
      conv => whnf
      refine ⟨_, Cell.mk sA.oX rfl, ?_⟩
      conv => whnf
      refine ⟨_, Cell.mk sA.oX rfl, ?_⟩
      conv => whnf
      refine (hint62n sA.sp.tu sA.sp.hB sA.ha sA.way.is (by omega)).mono ?_
      rintro _ h5 ⟨⟨a1, a2, a3, a4, b, rfl⟩, m5⟩
      conv => whnf
      refine ⟨_, rfl, ?_⟩
      conv => whnf
      refine ⟨_, rfl, ?_⟩
      conv => whnf
      obtain ⟨gz5, gC, mx5⟩ := lay_row (h := h5) (sz := 4) [i64 0, i64 0, i64 0, i64 0] [i64 a1, i64 a2, i64 a3, i64 a4]
      refine ⟨_, _, gz5, Nat.le_of_ble_eq_true rfl, ?_⟩
      conv => whnf
      have mC5 := mod_none m5 mx5
      have sC := sA.old mC5
      have gD := mC5.get gB (.inl fun k => k)
      refine ⟨_, Cells.mk gD (Nat.le_of_ble_eq_true rfl) rfl, ?_⟩
      conv => whnf
      refine ⟨_, Cells.mk gC (Nat.le_of_ble_eq_true rfl) rfl, ?_⟩
      conv => whnf
      refine (sC.msg ⟨7, 0, 0, [], none, 0, a1, a2, a3, a4⟩ ⟨RoSl.nil _ _ _, Nat.zero_le _⟩ hl).mono ?_
      rintro _ h9 ⟨v', ⟨q, rfl⟩, s3, st3⟩
      conv => whnf
      exact ⟨_, ⟨q, _, .inr ⟨hk, rfl, rfl⟩⟩, s3, (StpP.old (mod_none m0 (mod_none mA mC5))).trans st3⟩
    · conv => whnf
      refine ⟨_, Cell.mk sA.oI rfl, ?_⟩
      conv => whnf
      refine ⟨_, Cell.mk sA.oX rfl, ?_⟩
      conv => whnf
      refine ⟨_, Cell.mk sA.oX rfl, ?_⟩
      conv => whnf
      obtain ⟨mz5, gz5⟩ := pre_row mA (.row true 4 [i64 0, i64 0, i64 0, i64 0])
      refine (hint62n (sA.old mz5).sp.tu (sA.old mz5).sp.hB (sA.old mz5).ha (sA.old mz5).way.is (by show v.way.length ≤ _; omega)).mono ?_
      rintro _ h5 ⟨⟨a1, a2, a3, a4, b, rfl⟩, m5⟩
      conv => whnf
      refine ⟨_, rfl, ?_⟩
      conv => whnf
      refine ⟨_, rfl, ?_⟩
      conv => whnf
      have gy5 := m5.get gz5 (.inl fun k => k)
      refine ⟨_, _, gy5, Nat.le_of_ble_eq_true rfl, ?_⟩
      conv => whnf
      have gC := H.obj_set_same gy5 (ob' := .row true 4 [i64 a1, i64 a2, i64 a3, i64 a4])
      have mC5 := new_set (cs' := [i64 a1, i64 a2, i64 a3, i64 a4]) (mod_none mz5 m5) (Nat.le_refl _) gy5
      have sC := sA.old mC5
      have gD := mC5.get gB (.inl fun k => k)
      refine ⟨_, Cells.mk gD (Nat.le_of_ble_eq_true rfl) rfl, ?_⟩
      conv => whnf
      refine ⟨_, Cells.mk gC (Nat.le_of_ble_eq_true rfl) rfl, ?_⟩
      conv => whnf
      refine (sC.msg ⟨7, 0, 0, [], none, 0, a1, a2, a3, a4⟩ ⟨RoSl.nil _ _ _, Nat.zero_le _⟩ hl).mono ?_
      rintro _ h9 ⟨v', ⟨q, rfl⟩, s3, st3⟩
      conv => whnf
      exact ⟨_, ⟨q, _, .inr ⟨hk, rfl, rfl⟩⟩, s3, (StpP.old (mod_none m0 (mod_none mA mC5))).trans st3⟩
  · conv => whnf
    refine ⟨_, Cell.mk s0.oI rfl, ?_⟩
    conv => whnf
    refine ⟨_, Cell.mk gt rfl, ?_⟩
    conv => whnf
    refine ⟨_, Cell.mk s0.oX rfl, ?_⟩
    conv => whnf
    have mz := Mod.push none_ (h.push (.row true 2 [i64 c.w.1, i64 c.w.2])) (.row true 3 [i64 0, i64 0, i64 0])
    have gz : ((h.push (.row true 2 [i64 c.w.1, i64 c.w.2])).push (.row true 3 [i64 0, i64 0, i64 0])).obj (h.push (.row true 2 [i64 c.w.1, i64 c.w.2])).next = some (.row true 3 [i64 0, i64 0, i64 0]) := H.obj_push_new _ _
    refine (grEdge (s0.old mz).sp.tu.gr (s0.old mz).sp.hB _).mono ?_
    rintro _ h1 ⟨rfl, m1⟩
    conv => whnf
    refine ⟨_, rfl, ?_⟩
    conv => whnf
    refine ⟨_, rfl, ?_⟩
    conv => whnf
    have gy := m1.get gz (.inl fun k => k)
    refine ⟨_, _, gy, Nat.le_of_ble_eq_true rfl, ?_⟩
    conv => whnf
    have gA := H.obj_set_same gy (ob' := .row true 3 (eC (edV c.g v.ar)))
    have mA := new_set (cs' := eC (edV c.g v.ar)) (mod_none mz m1) (Nat.le_refl _) gy
    have sA := s0.old mA
    have gB := mA.get g0 (.inl fun k => k)
    refine ⟨[0, 1, 2, 3, 4, 5, 6], [0, 1, 0, 4, 12, 28, 63], by kernel_rfl, ?_⟩
    conv => whnf
    refine ⟨_, Cell.mk gA rfl, ?_⟩
    conv => whnf
    refine ⟨_, Cell.mk sA.oX rfl, ?_⟩
    conv => whnf
    rw [hto]
    refine br_mk (fun hk => ?_) (fun hk => ?_)
    · conv => whnf
      have hk : toK c.g v.ar = v.nd := by simp at hk; omega
      refine ⟨_, _, sA.oX, Nat.le_of_ble_eq_true rfl, ?_⟩
      conv => whnf
      obtain ⟨s2, st2⟩ := sA.setX (has := v.has) (don := true) (ar := v.ar) sA.way sA.ha sA.hwl
      refine ⟨_, Cells.mk (st2.get gB hb0) (Nat.le_of_ble_eq_true rfl) rfl, ?_⟩
      conv => whnf
      refine (s2.msg ⟨8, 0, 0, [], none, 0, 0, 0, 0, 0⟩ ⟨RoSl.nil _ _ _, Nat.zero_le _⟩ hl).mono ?_
      rintro _ h9 ⟨v', ⟨q, rfl⟩, s3, st3⟩
      conv => whnf
      exact ⟨_, ⟨q, _, .inl ⟨hk, rfl, rfl⟩⟩, s3, (StpP.old (mod_none m0 mA)).trans (st2.trans st3)⟩
    conv => whnf
    have hk : toK c.g v.ar ≠ v.nd := by simp at hk; omega
    refine ⟨[], [12, 16], rfl, ⟨[0, 1, 2, 3, 4, 5, 6, 7, 8, 9, 10, 11, 12, 13, 14, 15, 16, 17, 18], [0, 1, 3, 7, 0, 16, 48, 112, 0, 256, 768, 1792, 4095, 8191, 16383, 16383, 8191, 98303, 262143], by kernel_rfl, ?_⟩, ⟨[0, 1, 2, 3, 4, 5, 6, 7, 8, 9, 10, 11, 16, 12, 13, 14, 15, 17, 18], [0, 1, 3, 7, 0, 16, 48, 112, 0, 256, 768, 1792, 69631, 73727, 81919, 81919, 0, 98303, 262143], by kernel_rfl, ?_⟩⟩
    · conv => whnf
      refine ⟨_, Cell.mk sA.oI rfl, ?_⟩
      conv => whnf
      refine ⟨_, Cell.mk sA.oX rfl, ?_⟩
      conv => whnf
      refine ⟨_, Cell.mk sA.oX rfl, ?_⟩
      conv => whnf
      refine (hint62n sA.sp.tu sA.sp.hB sA.ha sA.way.is (by omega)).mono ?_
      rintro _ h5 ⟨⟨a1, a2, a3, a4, b, rfl⟩, m5⟩
      conv => whnf
      refine ⟨_, rfl, ?_⟩
      conv => whnf
      refine ⟨_, rfl, ?_⟩
      conv => whnf
      obtain ⟨gz5, gC, mx5⟩ := lay_row (h := h5) (sz := 4) [i64 0, i64 0, i64 0, i64 0] [i64 a1, i64 a2, i64 a3, i64 a4]
      refine ⟨_, _, gz5, Nat.le_of_ble_eq_true rfl, ?_⟩
      conv => whnf
      have mC5 := mod_none m5 mx5
      have sC := sA.old mC5
      have gD := mC5.get gB (.inl fun k => k)
      refine ⟨_, Cells.mk gD (Nat.le_of_ble_eq_true rfl) rfl, ?_⟩
      conv => whnf
      refine ⟨_, Cells.mk gC (Nat.le_of_ble_eq_true rfl) rfl, ?_⟩
      conv => whnf
      refine (sC.msg ⟨7, 0, 0, [], none, 0, a1, a2, a3, a4⟩ ⟨RoSl.nil _ _ _, Nat.zero_le _⟩ hl).mono ?_
      rintro _ h9 ⟨v', ⟨q, rfl⟩, s3, st3⟩
      conv => whnf
      exact ⟨_, ⟨q, _, .inr ⟨hk, rfl, rfl⟩⟩, s3, (StpP.old (mod_none m0 (mod_none mA mC5))).trans st3⟩
    · conv => whnf
      refine ⟨_, Cell.mk sA.oI rfl, ?_⟩
      conv => whnf
      refine ⟨_, Cell.mk sA.oX rfl, ?_⟩
      conv => whnf
      refine ⟨_, Cell.mk sA.oX rfl, ?_⟩
      conv => whnf
      obtain ⟨mz5, gz5⟩ := pre_row mA (.row true 4 [i64 0, i64 0, i64 0, i64 0])
      refine (hint62n (sA.old mz5).sp.tu (sA.old mz5).sp.hB (sA.old mz5).ha (sA.old mz5).way.is (by show v.way.length ≤ _; omega)).mono ?_
      rintro _ h5 ⟨⟨a1, a2, a3, a4, b, rfl⟩, m5⟩
      conv => whnf
      refine ⟨_, rfl, ?_⟩
      conv => whnf
      refine ⟨_, rfl, ?_⟩
      conv => whnf
      have gy5 := m5.get gz5 (.inl fun k => k)
      refine ⟨_, _, gy5, Nat.le_of_ble_eq_true rfl, ?_⟩
      conv => whnf
      have gC := H.obj_set_same gy5 (ob' := .row true 4 [i64 a1, i64 a2, i64 a3, i64 a4])
      have mC5 := new_set (cs' := [i64 a1, i64 a2, i64 a3, i64 a4]) (mod_none mz5 m5) (Nat.le_refl _) gy5
      have sC := sA.old mC5
      have gD := mC5.get gB (.inl fun k => k)
      refine ⟨_, Cells.mk gD (Nat.le_of_ble_eq_true rfl) rfl, ?_⟩
      conv => whnf
      refine ⟨_, Cells.mk gC (Nat.le_of_ble_eq_true rfl) rfl, ?_⟩
      conv => whnf
      refine (sC.msg ⟨7, 0, 0, [], none, 0, a1, a2, a3, a4⟩ ⟨RoSl.nil _ _ _, Nat.zero_le _⟩ hl).mono ?_
      rintro _ h9 ⟨v', ⟨q, rfl⟩, s3, st3⟩
      conv => whnf
      exact ⟨_, ⟨q, _, .inr ⟨hk, rfl, rfl⟩⟩, s3, (StpP.old (mod_none m0 (mod_none mA mC5))).trans st3⟩
end Go.Proofs.YteapijoibimfnaaGreat
/-! The document's server without a wire: asking for a way. -/
namespace Go.Proofs.YteapijoibimfnaaGreat
open Go Go.Ab
theorem maskV_len {U : List Int} : (maskV U).length = U.length := by simp [maskV]
theorem way59n {h : H} {B t x : Nat} {g : Gra} (s : TuS h B t x g) (hB : B ≤ h.next) {e k n : Nat} (he : e < g.es.length) (hk : k < g.ns.length) {qc : Option (Nat × Nat)} {c : List Bool} (hn : n = c.length) (sc : SlIs h qc n false 1 (bools c)) :
    ACalls Tryz.prog 59 [.ptr (some (t, 0)), i64 e, i64 k, .sl qc n] h (WayR g k c e h) := by
  subst hn
  exact way59r s hB he hk sc
def AskP (c : IdC) (v : IdV) (again : Bool) (v' : IdV) : Prop :=
  (¬ Rch (rdOf c.g v.nd (maskV v.U)) v.ar ∧ ((v.has = true ∨ again = false) ∧ (∃ q m, m.k = 6 ∧ v' = { v with q := q, qw := none, way := [], has := false, T := v.T ++ [m] }) ∨ (v.has = false ∧ again = true ∧ v' = { v with qw := none, way := [], has := false }))) ∨
  (Rch (rdOf c.g v.nd (maskV v.U)) v.ar ∧ ∃ q qw w m v1, m.k = 5 ∧ Wlk c.g v.nd (maskV v.U) v.ar w ∧ w.length ≤ c.g.es.length ∧ v1 = { v with q := q, qw := qw, way := w, has := true, T := v.T ++ [m] } ∧ HntP c v1 v')
set_option maxHeartbeats 2000000 in
theorem asks42 {h : H} {c : IdC} {v : IdV} (s : Idl h c v) (again : Bool) (hl : v.T.length ≤ 80000) :
    ACalls Tryz.prog 42 [.ptr (some (c.I, 0)), .agg [i64 c.w.1, i64 c.w.2], .ptr (some (c.xt, 0)), .bool again] h (fun r h' => IdR h c v (AskP c v again) h') := by
  have hz := mayG_size s.sp.tu.gr.ok
  have hU := s.hU
  have hml : v.U.length = (maskV v.U).length := maskV_len.symm
  refine call_ Tryz.func42 rfl rfl (by kernel_rfl) ?_
  conv => whnf
  have m0 := Mod.push none_ h (.row true 2 [i64 c.w.1, i64 c.w.2])
  have g0 : (h.push (.row true 2 [i64 c.w.1, i64 c.w.2])).obj h.next = some (.row true 2 [i64 c.w.1, i64 c.w.2]) := H.obj_push_new _ _
  have s0 := s.old m0
  have hb0 := s.sp.fresh (Nat.le_refl h.next)
  have hb1 : h.next < (h.push (.row true 2 [i64 c.w.1, i64 c.w.2])).next := Nat.lt_succ_self _
  refine ⟨_, Cell.mk s0.oX rfl, ?_⟩
  conv => whnf
  refine ⟨[0, 1, 2, 3, 4, 5, 6, 7, 8, 9, 10, 11, 12, 13, 14, 15, 16, 17, 18, 19, 20, 21, 22, 23, 24, 25, 26, 27, 28], [0, 0, 0, 4, 12, 28, 0, 64, 192, 448, 0, 1024, 3072, 7168, 0, 16384, 49152, 114688, 245760, 524284, 1048572, 2097148, 2097148, 4194301, 12582909, 29360125, 67108863, 134217727, 268435455], by kernel_rfl, ?_⟩
  conv => whnf
  refine ⟨_, Cell.mk s0.oI rfl, ?_⟩
  conv => whnf
  refine ⟨_, Cell.mk s0.oX rfl, ?_⟩
  conv => whnf
  refine ⟨_, Cell.mk s0.oX rfl, ?_⟩
  conv => whnf
  refine ⟨_, Cell.mk s0.oI rfl, ?_⟩
  conv => whnf
  refine (mask52r s0.oS (by omega)).mono ?_
  rintro _ h1 ⟨qm, rfl, wm, m1⟩
  have s1 := s0.old m1
  conv => whnf
  refine ⟨?_, ?_⟩
  · conv => whnf
    exact ⟨_, Cell.mk s1.oX rfl, rfl⟩
  refine ⟨?_, ?_⟩
  · conv => whnf
    exact ⟨_, Cell.mk s1.oX rfl, rfl⟩
  refine ⟨?_, ?_⟩
  · conv => whnf
    exact ⟨_, Cell.mk s1.oI rfl, rfl⟩
  conv => whnf
  refine (way59n s1.sp.tu s1.sp.hB s1.ha s1.hn hml wm.is).mono ?_
  rintro _ h2 ⟨m2, hr⟩
  have s2 := s1.old m2
  have m3 := mod_none m0 (mod_none m1 m2)
  have g2 := (mod_none m1 m2).get g0 (.inl fun k => k)
  rcases hr with ⟨hno, rfl⟩ | ⟨hyes, qw, w, rfl, hwk, hwl, wr⟩
  · conv => whnf
    refine ⟨_, rfl, ?_⟩
    conv => whnf
    refine ⟨_, rfl, ?_⟩
    conv => whnf
    refine ⟨_, _, s2.oX, Nat.le_of_ble_eq_true rfl, ?_⟩
    conv => whnf
    obtain ⟨s3, st3⟩ := s2.setX (qw := none) (way := []) (has := v.has) (don := v.don) (ar := v.ar) (RoSl.nil _ _ _) s2.ha (Nat.zero_le _)
    refine ⟨_, _, s3.oX, Nat.le_of_ble_eq_true rfl, ?_⟩
    conv => whnf
    obtain ⟨s4, st4⟩ := s3.setX (qw := none) (way := []) (has := false) (don := v.don) (ar := v.ar) (RoSl.nil _ _ _) s2.ha (Nat.zero_le _)
    refine ⟨_, Cell.mk s4.oX rfl, ?_⟩
    conv => whnf
    have st := (StpP.old m3).trans (st3.trans st4)
    have g4 := (st3.trans st4).get g2 hb0
    refine br_mk (fun hh => ?_) (fun hh => ?_)
    · conv => whnf
      refine ⟨_, Cells.mk g4 (Nat.le_of_ble_eq_true rfl) rfl, ?_⟩
      conv => whnf
      refine (s4.msg ⟨6, 0, 0, [], none, 0, 0, 0, 0, 0⟩ ⟨RoSl.nil _ _ _, Nat.zero_le _⟩ (by show v.T.length ≤ _; omega)).mono ?_
      rintro _ h9 ⟨v', ⟨q, rfl⟩, s5, st5⟩
      conv => whnf
      exact ⟨_, .inl ⟨hno, .inl ⟨.inl hh, q, _, rfl, rfl⟩⟩, s5, st.trans st5⟩
    conv => whnf
    cases again with
    | false =>
      conv => whnf
      refine ⟨_, Cells.mk g4 (Nat.le_of_ble_eq_true rfl) rfl, ?_⟩
      conv => whnf
      refine (s4.msg ⟨6, 0, 0, [], none, 0, 0, 0, 0, 0⟩ ⟨RoSl.nil _ _ _, Nat.zero_le _⟩ (by show v.T.length ≤ _; omega)).mono ?_
      rintro _ h9 ⟨v', ⟨q, rfl⟩, s5, st5⟩
      conv => whnf
      exact ⟨_, .inl ⟨hno, .inl ⟨.inr rfl, q, _, rfl, rfl⟩⟩, s5, st.trans st5⟩
    | true =>
      conv => whnf
      exact ⟨_, .inl ⟨hno, .inr ⟨hh, rfl, rfl⟩⟩, s4, st⟩
  · conv => whnf
    refine ⟨_, rfl, ?_⟩
    conv => whnf
    refine ⟨_, rfl, ?_⟩
    conv => whnf
    refine ⟨_, _, s2.oX, Nat.le_of_ble_eq_true rfl, ?_⟩
    conv => whnf
    obtain ⟨s3, st3⟩ := s2.setX (qw := qw) (way := w) (has := v.has) (don := v.don) (ar := v.ar) wr s2.ha hwl
    refine ⟨_, _, s3.oX, Nat.le_of_ble_eq_true rfl, ?_⟩
    conv => whnf
    have ms := Mod.set (S := one c.xt) (ob := .row true 5 [i64 v.ar, i64 v.nd, .sl qw w.length, .bool v.has, .bool v.don]) rfl s2.oX rfl
    obtain ⟨s4, st4⟩ := s3.setX (qw := qw) (way := w) (has := true) (don := v.don) (ar := v.ar) s3.way s2.ha hwl
    refine ⟨_, Cell.mk s4.oX rfl, ?_⟩
    conv => whnf
    have st := (StpP.old m3).trans (st3.trans st4)
    have g4 := (st3.trans st4).get g2 hb0
    refine ⟨[0, 1, 2, 3, 4, 5, 6, 7, 8, 9, 10, 11, 12, 13], [0, 1, 3, 7, 0, 16, 48, 112, 255, 511, 1023, 1023, 2047, 8191], by kernel_rfl, ?_⟩
    conv => whnf
    refine ⟨_, Cell.mk s4.oI rfl, ?_⟩
    conv => whnf
    refine ⟨_, Cell.mk s4.oX rfl, ?_⟩
    conv => whnf
    refine (weight61n s4.sp.tu s4.sp.hB s4.way.is (by show w.length ≤ _; omega)).mono ?_
    rintro _ h5 ⟨⟨z, b, rfl⟩, m5⟩
    have s5 := s4.old m5
    have g5 := m5.get g4 (.inl fun k => k)
    conv => whnf
    refine ⟨_, rfl, ?_⟩
    conv => whnf
    refine ⟨_, rfl, ?_⟩
    conv => whnf
    refine ⟨[0, 1, 2, 3, 4, 5, 7, 6, 8, 9, 10], [0, 0, 0, 4, 12, 28, 60, 0, 252, 508, 1023], by kernel_rfl, ?_⟩
    conv => whnf
    refine ⟨_, Cells.mk g5 (Nat.le_of_ble_eq_true rfl) rfl, ?_⟩
    conv => whnf
    refine ⟨_, Cell.mk s5.oX rfl, ?_⟩
    conv => whnf
    refine (clone24r s5.way.is (by show w.length ≤ _; omega)).mono ?_
    rintro _ h6 ⟨qe, rfl, we, m6⟩
    have s6 := s5.old m6
    have g6 := m6.get g5 (.inl fun k => k)
    conv => whnf
    refine ⟨?_, ?_⟩
    · conv => whnf
      exact ⟨_, Cells.mk g6 (Nat.le_of_ble_eq_true rfl) rfl, rfl⟩
    conv => whnf
    refine (s6.msg ⟨5, 0, 0, w, qe, z, 0, 0, 0, 0⟩ ⟨we, by show w.length ≤ 512; omega⟩ (by show v.T.length ≤ _; omega)).mono ?_
    rintro _ h7 ⟨v7, ⟨q7, rfl⟩, s7, st7⟩
    conv => whnf
    have hb4 := (st3.trans st4).far (Nat.lt_of_lt_of_le hb1 (mod_none m1 m2).next) hb0
    have g7 := st7.get g6 hb4
    refine ⟨_, Cells.mk g7 (Nat.le_of_ble_eq_true rfl) rfl, ?_⟩
    conv => whnf
    refine (hint43 s7 (by show (v.T ++ [_]).length ≤ _; simp; omega)).mono ?_
    rintro _ h8 ⟨v8, hp, s8, st8⟩
    conv => whnf
    exact ⟨v8, .inr ⟨hyes, q7, qw, w, _, _, rfl, hwk, hwl, rfl, hp⟩, s8, st.trans ((StpP.old (mod_none m5 m6)).trans (st7.trans st8))⟩
end Go.Proofs.YteapijoibimfnaaGreat
/-! The document's server without a wire: what changes when edges were closed, or opened. -/
namespace Go.Proofs.YteapijoibimfnaaGreat
open Go Go.Ab
def IxI (q : Option (Nat × Nat)) (l : List Int) (x : Int) (h : H) (env : Env) (hh : H) : Prop := hh = h ∧ ∃ (j : Nat) (z : Int), j ≤ l.length ∧ z = j ∧ (∀ i, i < j → l.getD i 0 ≠ x) ∧
  env = [(8, i64 z), (7, i64 l.length), (1, i64 x), (0, .sl q l.length)]
theorem mem_getD {l : List Int} {x : Int} : x ∈ l ↔ ∃ i, i < l.length ∧ l.getD i 0 = x := by
  constructor
  · intro h
    obtain ⟨i, hi, e⟩ := List.getElem_of_mem h
    exact ⟨i, hi, by rw [List.getD_eq_getElem?_getD, List.getElem?_eq_getElem hi]; exact e⟩
  · rintro ⟨i, hi, e⟩
    rw [List.getD_eq_getElem?_getD, List.getElem?_eq_getElem hi] at e
    rw [← e]
    exact List.getElem_mem hi
theorem index67 {h : H} {q : Option (Nat × Nat)} {l : List Int} (s : SlIs h q l.length false 1 (ints .i64 l)) (hl : l.length ≤ 1000000) (x : Int) : ACalls Tryz.prog 67 [.sl q l.length, i64 x] h (fun r h' => h' = h ∧ ∃ z : Int, r = i64 z ∧ (0 ≤ z ↔ x ∈ l)) := by
  refine call_ Tryz.func67 rfl rfl (by kernel_rfl) ?_
  conv => whnf
  refine ⟨IxI q l x h, fun env _ => TnMu 8 l.length env, ⟨_, Forget.cons rfl (Forget.cons rfl (Forget.cons rfl (Forget.cons rfl (Forget.nil _)))), rfl, 0, 0, Nat.zero_le _, rfl, (fun i hi => absurd hi (Nat.not_lt_zero i)), rfl⟩, ?_⟩
  rintro _ hh ⟨rfl, j, z, hj, rfl, hno, rfl⟩
  conv => whnf
  refine br_mk (fun hd => ?_) (fun hd => ?_)
  · conv => whnf
    simp at hd
    obtain ⟨i1, c1, e1, k1⟩ := slo_get s hd
    refine ⟨i1, c1, j, e1, rfl, hd, ?_⟩
    conv => whnf
    refine ⟨_, k1, ?_⟩
    conv => whnf
    refine br_mk (fun he => ?_) (fun he => ?_)
    · conv => whnf
      simp at he
      exact ⟨rfl, _, rfl, ⟨fun _ => mem_getD.2 ⟨j, hd, by simp; exact he.symm⟩, fun _ => by omega⟩⟩
    conv => whnf
    simp at he
    exact ⟨_, Forget.cons rfl (Forget.cons rfl (Forget.cons rfl (Forget.cons rfl (Forget.nil _)))), ⟨rfl, j + 1, _, hd, succ_i64 hd (by omega), (fun i hi => by
      by_cases q : i = j
      · subst q
        simp
        exact fun k => he k.symm
      · exact hno i (by omega)), rfl⟩, mu_lt hd hl⟩
  · conv => whnf
    simp at hd
    refine ⟨rfl, _, rfl, ⟨fun k => absurd k (by decide), fun k => ?_⟩⟩
    obtain ⟨i, hi, e⟩ := mem_getD.1 k
    exact absurd e (hno i (by omega))
theorem contains48 {h : H} {q : Option (Nat × Nat)} {l : List Int} (s : SlIs h q l.length false 1 (ints .i64 l)) (hl : l.length ≤ 1000000) (x : Int) : ACalls Tryz.prog 48 [.sl q l.length, i64 x] h (fun r h' => h' = h ∧ r = .bool (decide (x ∈ l))) := by
  refine call_ Tryz.func48 rfl rfl (by kernel_rfl) ?_
  conv => whnf
  refine (index67 s hl x).mono ?_
  rintro _ h1 ⟨eh, z, rfl, hz⟩
  subst h1
  conv => whnf
  exact ⟨rfl, congrArg V.bool (by simp [hz])⟩
theorem chgd47 {h : H} {b : Nat} {q : Option (Nat × Nat)} {l : List Int} {o : Bool} (hb : h.obj b = some (.row o 1 [.sl q l.length])) (s : SlIs h q l.length false 1 (ints .i64 l)) (hl : l.length ≤ 1000000) (x : Int) : ACalls Tryz.prog 47 [i64 x, .ptr (some (b, 0))] h (fun r h' => h' = h ∧ r = .bool (decide (x ∈ l))) := by
  refine call_ Tryz.func47 rfl rfl (by kernel_rfl) ?_
  conv => whnf
  refine ⟨_, Cell.mk hb rfl, ?_⟩
  conv => whnf
  refine (contains48 s hl x).mono ?_
  rintro _ h1 ⟨eh, rfl⟩
  subst h1
  conv => whnf
  exact ⟨rfl, rfl⟩
def metB (w : List Nat) (l : List Int) : Bool := w.any fun e => decide ((e : Int) ∈ l)
def IfI (q : Option (Nat × Nat)) (w : List Nat) (l : List Int) (b : Nat) (h : H) (env : Env) (hh : H) : Prop := hh = h ∧ ∃ (j : Nat) (z : Int), j ≤ w.length ∧ z = j ∧ (∀ i (hi : i < w.length), i < j → (w[i] : Int) ∉ l) ∧
  env = [(8, i64 z), (7, i64 w.length), (1, .clo 47 [.ptr (some (b, 0))]), (0, .sl q w.length)]
theorem indexf66 {h : H} {q qs : Option (Nat × Nat)} {w : List Nat} (sw : SlIs h q w.length false 1 (ints .i64 (natL w))) (hw : w.length ≤ 1000000) {b : Nat} {l : List Int} {o : Bool} (hb : h.obj b = some (.row o 1 [.sl qs l.length])) (s : SlIs h qs l.length false 1 (ints .i64 l)) (hl : l.length ≤ 1000000) :
    ACalls Tryz.prog 66 [.sl q w.length, .clo 47 [.ptr (some (b, 0))]] h (fun r h' => h' = h ∧ ∃ z : Int, r = i64 z ∧ (0 ≤ z ↔ metB w l = true)) := by
  refine call_ Tryz.func66 rfl rfl (by kernel_rfl) ?_
  conv => whnf
  refine ⟨IfI q w l b h, fun env _ => TnMu 8 w.length env, ⟨_, Forget.cons rfl (Forget.cons rfl (Forget.cons rfl (Forget.cons rfl (Forget.nil _)))), rfl, 0, 0, Nat.zero_le _, rfl, (fun i _ hi => absurd hi (Nat.not_lt_zero i)), rfl⟩, ?_⟩
  rintro _ hh ⟨rfl, j, z, hj, rfl, hno, rfl⟩
  conv => whnf
  refine br_mk (fun hd => ?_) (fun hd => ?_)
  · conv => whnf
    simp at hd
    obtain ⟨i1, c1, e1, k1⟩ := slo_get sw hd
    refine ⟨i1, c1, j, e1, rfl, hd, ?_⟩
    conv => whnf
    refine ⟨_, k1, ?_⟩
    conv => whnf
    rw [natL_get hd]
    refine (chgd47 hb s hl _).mono ?_
    rintro _ h1 ⟨eh, rfl⟩
    subst h1
    conv => whnf
    refine br_mk (fun he => ?_) (fun he => ?_)
    · conv => whnf
      simp at he
      exact ⟨rfl, _, rfl, ⟨fun _ => List.any_eq_true.2 ⟨w[j], List.getElem_mem hd, decide_eq_true he⟩, fun _ => by omega⟩⟩
    conv => whnf
    simp at he
    exact ⟨_, Forget.cons rfl (Forget.cons rfl (Forget.cons rfl (Forget.cons rfl (Forget.nil _)))), ⟨rfl, j + 1, _, hd, succ_i64 hd (by omega), (fun i hi hij => by
      by_cases q : i = j
      · subst q
        exact he
      · exact hno i hi (by omega)), rfl⟩, mu_lt hd hw⟩
  · conv => whnf
    simp at hd
    refine ⟨rfl, _, rfl, ⟨fun k => absurd k (by decide), fun k => ?_⟩⟩
    obtain ⟨e, he, k⟩ := List.any_eq_true.1 k
    obtain ⟨i, hi, rfl⟩ := List.getElem_of_mem he
    exact absurd (of_decide_eq_true k) (hno i hi (by omega))
theorem containsf46 {h : H} {q qs : Option (Nat × Nat)} {w : List Nat} (sw : SlIs h q w.length false 1 (ints .i64 (natL w))) (hw : w.length ≤ 1000000) {b : Nat} {l : List Int} {o : Bool} (hb : h.obj b = some (.row o 1 [.sl qs l.length])) (s : SlIs h qs l.length false 1 (ints .i64 l)) (hl : l.length ≤ 1000000) :
    ACalls Tryz.prog 46 [.sl q w.length, .clo 47 [.ptr (some (b, 0))]] h (fun r h' => h' = h ∧ r = .bool (metB w l)) := by
  refine call_ Tryz.func46 rfl rfl (by kernel_rfl) ?_
  conv => whnf
  refine (indexf66 sw hw hb s hl).mono ?_
  rintro _ h1 ⟨eh, z, rfl, hz⟩
  subst h1
  conv => whnf
  refine ⟨rfl, congrArg V.bool ?_⟩
  cases hm : metB w l with
  | true => rw [hm] at hz; exact decide_eq_true (hz.2 rfl)
  | false => rw [hm] at hz; exact decide_eq_false fun k => by have := hz.1 k; cases this
end Go.Proofs.YteapijoibimfnaaGreat
/-! The document's server without a wire: what changes when edges were closed, or opened: the walk. -/
namespace Go.Proofs.YteapijoibimfnaaGreat
open Go Go.Ab
theorem mod_ro {h : H} {i : Nat} {es : List (V × V)} {bs : List Nat} {cl : Nat} (e : h.obj i = some (.mapb es bs cl)) : Ab.Mod (one i) h (h.ro i) := by
  refine ⟨Nat.le_refl _, fun j hj hn => ?_⟩
  by_cases q : j = i
  · subst q
    rcases hn with k | ⟨ob, k1, k2⟩
    · exact absurd rfl k
    · rw [e] at k1
      injection k1 with k1
      subst k1
      cases k2
  · exact H.ro_ne _ q
theorem Idl.setM {h : H} {c : IdC} {v : IdV} (s : Idl h c v) (own : v.mo.own = true) (ob : Ab.Obj) : Idl (h.set c.mm ob) c { v with mo := ob } ∧ StpP h (idP c v) (h.set c.mm ob) (idP c { v with mo := ob }) := by
  have m := Mod.set (S := one c.mm) (ob := ob) rfl s.oM own
  obtain ⟨a, b⟩ := s.sp.turn 1 (q := cellP c.mm ob) (H.obj_set_same s.oM) m fun i k => .inl k
  have e : idP c { v with mo := ob } = upd (idP c v) 1 (cellP c.mm ob) := by
    funext n
    rcases n with _ | _ | _ | _ | _ | _ | n <;> rfl
  rw [← e] at a b
  exact ⟨⟨a, s.way.get m, fun x hx => (s.ro x hx).get m, s.ha, s.hn, s.hU, s.hwl, s.hw⟩, b⟩
theorem Idl.roM {h : H} {c : IdC} {v : IdV} (s : Idl h c v) {es : List (V × V)} {bs : List Nat} {cl : Nat} (em : v.mo = .mapb es bs cl) : Idl (h.ro c.mm) c { v with mo := .map true es } ∧ StpP h (idP c v) (h.ro c.mm) (idP c { v with mo := .map true es }) := by
  have o := s.oM
  rw [em] at o
  have m := mod_ro o
  obtain ⟨a, b⟩ := s.sp.turn 1 (q := cellP c.mm (.map true es)) (H.ro_mapb o) m fun i k => .inl k
  have e : idP c { v with mo := .map true es } = upd (idP c v) 1 (cellP c.mm (.map true es)) := by
    funext n
    rcases n with _ | _ | _ | _ | _ | _ | n <;> rfl
  rw [← e] at a b
  exact ⟨⟨a, s.way.get m, fun x hx => (s.ro x hx).get m, s.ha, s.hn, s.hU, s.hwl, s.hw⟩, b⟩
theorem HntP.mo {c : IdC} {v v' : IdV} (p : HntP c v v') (ob : Ab.Obj) : v'.mo = v.mo ∧ HntP c { v with mo := ob } { v' with mo := ob } := by
  obtain ⟨q, m, ⟨a, b, rfl⟩ | ⟨a, b, rfl⟩⟩ := p
  · exact ⟨rfl, q, m, .inl ⟨a, b, rfl⟩⟩
  · exact ⟨rfl, q, m, .inr ⟨a, b, rfl⟩⟩
theorem AskP.mo {c : IdC} {v v' : IdV} {a : Bool} (p : AskP c v a v') (ob : Ab.Obj) : v'.mo = v.mo ∧ AskP c { v with mo := ob } a { v' with mo := ob } := by
  rcases p with ⟨a1, ⟨a2, q, m, a3, rfl⟩ | ⟨a2, a3, rfl⟩⟩ | ⟨a1, q, qw, w, m, v1, a0, a2, a3, rfl, hp⟩
  · exact ⟨rfl, .inl ⟨a1, .inl ⟨a2, q, m, a3, rfl⟩⟩⟩
  · exact ⟨rfl, .inl ⟨a1, .inr ⟨a2, a3, rfl⟩⟩⟩
  · obtain ⟨b1, b2⟩ := hp.mo ob
    exact ⟨b1, .inr ⟨a1, q, qw, w, m, _, a0, a2, a3, rfl, b2⟩⟩
theorem Idl.loc {S : Nat → Prop} {h h' : H} {c : IdC} {v : IdV} (s : Idl h c v) (m : Ab.Mod S h h') (hS : ∀ n i, (idP c v n).F i → ¬ S i) (hB : ∀ i, i < c.B → ¬ S i) : Idl h' c v :=
  ⟨⟨s.sp.tu.get m hB, Nat.le_trans s.sp.hB m.next, s.sp.sp.get m hS, s.sp.lo⟩, s.way.get m, fun x hx => (s.ro x hx).get m, s.ha, s.hn, s.hU, s.hwl, s.hw⟩
theorem StpP.loc {S : Nat → Prop} {h hh h' : H} {ps ps' : Nat → Part} (st : StpP h ps hh ps') (m : Ab.Mod S hh h') (hS : ∀ i, S i → h.next ≤ i) : StpP h ps h' ps' :=
  ⟨st.1.trans' m (fun _ _ k => k) fun i hi k => absurd (hS i k) (by omega), st.2⟩
def askB (v : IdV) (shut : List Int) (m : Nat) : Bool := !v.don && (v.has && metB v.way shut || !v.has && decide (0 < m))
def ChgP (c : IdC) (v : IdV) (shut : List Int) (m : Nat) (v' : IdV) : Prop := (askB v shut m = true ∧ AskP c v true v') ∨ (askB v shut m = false ∧ v' = v)
theorem ChgP.mo {c : IdC} {v v' : IdV} {shut : List Int} {m : Nat} (p : ChgP c v shut m v') (ob : Ab.Obj) : v'.mo = v.mo ∧ ChgP c { v with mo := ob } shut m { v' with mo := ob } := by
  rcases p with ⟨a, b⟩ | ⟨a, rfl⟩
  · exact ⟨(b.mo ob).1, .inl ⟨a, (b.mo ob).2⟩⟩
  · exact ⟨rfl, .inr ⟨a, rfl⟩⟩
theorem idP_mo {c : IdC} {v : IdV} {ob : Ab.Obj} {n : Nat} : (idP c { v with mo := ob } n).F = (idP c v n).F := by
  rcases n with _ | _ | _ | _ | _ | _ | n <;> rfl
def itB (c : IdC) : List ((Int × Int) × V) := [(c.w, .ptr (some (c.xt, 0)))]
def ChI (h : H) (c : IdC) (v : IdV) (shut : List Int) (qs qo : Option (Nat × Nat)) (m b0 cl : Nat) (env : Env) (hh : H) : Prop := ∃ (v' : IdV) (seen : List Nat), ((seen = [] ∧ v' = { v with mo := .mapb (mpP .i64 (itB c)) [b0] cl }) ∨ (seen = [b0] ∧ ChgP c { v with mo := .mapb (mpP .i64 (itB c)) [b0] cl } shut m v')) ∧
  Idl hh c v' ∧ StpP h (idP c v) hh (idP c v') ∧ v'.mo = .mapb (mpP .i64 (itB c)) [b0] cl ∧ hh.obj (h.next + 1) = some (.itr c.mm cl seen cl) ∧ hh.obj h.next = some (.row true 1 [.sl qs shut.length]) ∧ (∀ n, ¬ (idP c v' n).F (h.next + 1)) ∧ (∀ n, ¬ (idP c v' n).F h.next) ∧ h.next + 1 < hh.next ∧
  env = [(13, .ptr (some (h.next + 1, 0))), (4, .ptr (some (h.next, 0))), (2, .sl qo m), (0, .ptr (some (c.I, 0)))]
def muC (j : Nat) (h : H) : Nat := match h.obj j with
  | some (.itr _ _ [] _) => 1
  | _ => 0
set_option maxHeartbeats 2000000 in
theorem changed23' {h : H} {c : IdC} {v : IdV} (s : Idl h c v) (em : v.mo = .map true (mpP .i64 (itB c))) (hl : v.T.length ≤ 80000) {qs qo : Option (Nat × Nat)} {m : Nat} {shut : List Int} (ss : RoSl h qs shut.length 1 (ints .i64 shut)) (hs : shut.length ≤ 1000000) :
    ACalls Tryz.prog 23 [.ptr (some (c.I, 0)), .sl qs shut.length, .sl qo m] h (fun r h' => ∃ b0 cl, IdR h c v (fun v' => ChgP c { v with mo := .mapb (mpP .i64 (itB c)) [b0] cl } shut m v' ∧ v'.mo = .mapb (mpP .i64 (itB c)) [b0] cl) h') := by
  have hz := mayG_size s.sp.tu.gr.ok
  have hU := s.hU
  refine call_ Tryz.func23 rfl rfl (by kernel_rfl) ?_
  conv => whnf
  have m0 := Mod.push none_ h (.row true 1 [.sl qs shut.length])
  have g0 : (h.push (.row true 1 [.sl qs shut.length])).obj h.next = some (.row true 1 [.sl qs shut.length]) := H.obj_push_new _ _
  have s0 := s.old m0
  have hb0 := s.sp.fresh (Nat.le_refl h.next)
  have hb1 := s.sp.fresh (Nat.le_succ h.next)
  refine ⟨_, Cell.mk s0.oI rfl, ?_⟩
  conv => whnf
  have gm := s0.oM
  rw [em] at gm
  refine ⟨_, gm, fun bs cl hlb hnd hbc => ?_⟩
  obtain ⟨b0, rfl⟩ : ∃ b0, bs = [b0] := by
    rcases bs with _ | ⟨b0, _ | ⟨b1, bs⟩⟩
    · cases hlb
    · exact ⟨b0, rfl⟩
    · simp [itB] at hlb
  conv => whnf
  obtain ⟨s1, st1⟩ := s0.setM (by rw [em]; rfl) (.mapb (mpP .i64 (itB c)) [b0] cl)
  have m2 := Mod.push none_ ((h.push (.row true 1 [.sl qs shut.length])).set c.mm (.mapb (mpP .i64 (itB c)) [b0] cl)) (.itr c.mm cl [] cl)
  have g2 : (((h.push (.row true 1 [.sl qs shut.length])).set c.mm (.mapb (mpP .i64 (itB c)) [b0] cl)).push (.itr c.mm cl [] cl)).obj (h.next + 1) = some (.itr c.mm cl [] cl) := H.obj_push_new _ _
  have s2 := s1.old m2
  have st2 := (StpP.old m0).trans (st1.trans (StpP.old m2))
  refine ⟨ChI h c v shut qs qo m b0 cl, fun _ hh => muC (h.next + 1) hh, ⟨_, Forget.cons rfl (Forget.cons rfl (Forget.cons rfl (Forget.cons rfl (Forget.nil _)))), _, [], .inl ⟨rfl, rfl⟩, s2, st2, rfl, g2, m2.get (st1.get g0 hb0) (.inl fun k => k), ?_, ?_, Nat.lt_succ_self _, rfl⟩, ?_⟩
  · intro n k
    rw [idP_mo] at k
    exact hb1 n k
  · intro n k
    rw [idP_mo] at k
    exact hb0 n k
  clear st2 s2 g2 m2 st1 s1 gm s0 g0 m0
  rintro _ hh ⟨v', seen, hv, s3, st3, em3, gi, gb, hj1, hj0, hlt, rfl⟩
  have gm := s3.oM
  rw [em3] at gm
  conv => whnf
  refine .inr ⟨c.mm, cl, seen, .i64, itB c, [b0], gi, gm, fun p n x b e1 e2 e3 => ?_, fun e => ?_⟩
  · obtain rfl : p = 0 := by
      rcases p with _ | p
      · rfl
      · cases e1
    have e1 : ((c.w, V.ptr (some (c.xt, 0))) : (Int × Int) × V) = (n, x) := Option.some.inj e1
    injection e1 with e4 e5
    subst e4
    subst e5
    have e2 : b0 = b := Option.some.inj e2
    subst e2
    rcases hv with ⟨rfl, rfl⟩ | ⟨rfl, _⟩
    rotate_left
    · exact absurd (List.mem_singleton.2 rfl) e3
    conv => whnf
    refine ⟨_, rfl, ?_⟩
    conv => whnf
    have mi := Mod.set (S := one (h.next + 1)) (ob := .itr c.mm cl ([] ++ [b0]) cl) rfl gi rfl
    have gi4 := H.obj_set_same gi (ob' := .itr c.mm cl ([] ++ [b0]) cl)
    have s4 := s3.loc mi (fun n i k z => hj1 n (by rw [← show i = h.next + 1 from z]; exact k)) fun i hi z => by
      have z : i = h.next + 1 := z
      have := s.sp.hB
      omega
    have st4 := st3.loc mi fun i z => by
      have z : i = h.next + 1 := z
      omega
    have gm4 := s4.oM
    have gb4 := mi.get gb (.inl fun z => by
      have z : h.next = h.next + 1 := z
      omega)
    refine .inr ⟨c.mm, cl, [], .i64, itB c, [b0], 0, c.w, .ptr (some (c.xt, 0)), b0, gi4, gm4, rfl, rfl, ?_⟩
    conv => whnf
    refine ⟨_, rfl, ?_⟩
    conv => whnf
    refine ⟨_, rfl, ?_⟩
    conv => whnf
    obtain ⟨gz, g6, m6⟩ := lay_row (h := hh.set (h.next + 1) (.itr c.mm cl ([] ++ [b0]) cl)) (sz := 2) [i64 0, i64 0] [i64 c.w.1, i64 c.w.2]
    refine ⟨_, _, gz, Nat.le_of_ble_eq_true rfl, ?_⟩
    conv => whnf
    have s6 := s4.old m6
    have st6 := st4.trans (StpP.old m6)
    have gi6 := m6.get gi4 (.inl fun k => k)
    have gb6 := m6.get gb4 (.inl fun k => k)
    refine ⟨_, Cell.mk s6.oX rfl, ?_⟩
    conv => whnf
    refine (containsf46 s6.way.is (by have := s6.hwl; omega) gb6 (ss.get st6.1).is hs).mono ?_
    rintro _ h7 ⟨eh, rfl⟩
    subst h7
    conv => whnf
    have fin : ∀ {h9 : H} {v9 : IdV}, Idl h9 c v9 → StpP _ (idP c { v with mo := .mapb (mpP .i64 (itB c)) [b0] cl }) h9 (idP c v9) → ChgP c { v with mo := .mapb (mpP .i64 (itB c)) [b0] cl } shut m v9 → v9.mo = .mapb (mpP .i64 (itB c)) [b0] cl →
        ChI h c v shut qs qo m b0 cl [(13, .ptr (some (h.next + 1, 0))), (4, .ptr (some (h.next, 0))), (2, .sl qo m), (0, .ptr (some (c.I, 0)))] h9 ∧ muC (h.next + 1) h9 < muC (h.next + 1) hh := fun {h9 v9} s9 st9 hc e9 => by
      have gi9 := st9.get gi6 hj1
      refine ⟨⟨v9, [b0], .inr ⟨rfl, hc⟩, s9, st6.trans st9, e9, gi9, st9.get gb6 hj0, st9.far (Nat.lt_of_lt_of_le hlt m6.next) hj1, st9.far (Nat.lt_of_lt_of_le (Nat.lt_trans (Nat.lt_succ_self _) hlt) m6.next) hj0, Nat.lt_of_lt_of_le hlt (Nat.le_trans m6.next st9.1.next), rfl⟩, ?_⟩
      unfold muC
      rw [gi9, gi]
      exact Nat.zero_lt_one
    have g6' := g6
    refine ⟨_, Cell.mk s6.oX rfl, ?_⟩
    conv => whnf
    refine br_mk (fun hd => ?_) (fun hd => ?_)
    · conv => whnf
      have hd : v.don = false := by simpa using hd
      refine ⟨_, Cell.mk s6.oX rfl, ?_⟩
      conv => whnf
      refine br_mk (fun hh1 => ?_) (fun hh1 => ?_)
      · conv => whnf
        have hh1 : v.has = true := hh1
        refine br_mk (fun hm => ?_) (fun hm => ?_)
        · conv => whnf
          have hq : askB v shut m = true := by rw [askB, hd, hh1, show metB v.way shut = true from hm]; rfl
          refine ⟨_, Cells.mk g6 (Nat.le_of_ble_eq_true rfl) rfl, ?_⟩
          conv => whnf
          refine (asks42 s6 true hl).mono ?_
          rintro _ h8 ⟨v8, hp, s8, st8⟩
          conv => whnf
          obtain ⟨q1, q2⟩ := fin s8 st8 (.inl ⟨hq, hp⟩) (hp.mo v.mo).1
          exact ⟨_, Forget.cons rfl (Forget.cons rfl (Forget.cons rfl (Forget.cons rfl (Forget.nil _)))), q1, q2⟩
        · conv => whnf
          refine ⟨_, Cell.mk s6.oX rfl, ?_⟩
          conv => whnf
          refine br_mk (fun hx => ?_) (fun hx => ?_)
          · have hx : (!v.has) = true := hx
            rw [hh1] at hx
            cases hx
          conv => whnf
          have hq : askB v shut m = false := by rw [askB, hd, hh1, show metB v.way shut = false from hm]; rfl
          obtain ⟨q1, q2⟩ := fin s6 (StpP.old (Mod.refl _ _)) (.inr ⟨hq, rfl⟩) rfl
          exact ⟨_, Forget.cons rfl (Forget.cons rfl (Forget.cons rfl (Forget.cons rfl (Forget.nil _)))), q1, q2⟩
      · conv => whnf
        have hh1 : v.has = false := hh1
        refine ⟨_, Cell.mk s6.oX rfl, ?_⟩
        conv => whnf
        refine br_mk (fun hx => ?_) (fun hx => ?_)
        · conv => whnf
          refine br_mk (fun hm => ?_) (fun hm => ?_)
          · conv => whnf
            simp at hm
            have hq : askB v shut m = true := by rw [askB, hd, hh1]; simp; exact hm
            refine ⟨_, Cells.mk g6 (Nat.le_of_ble_eq_true rfl) rfl, ?_⟩
            conv => whnf
            refine (asks42 s6 true hl).mono ?_
            rintro _ h8 ⟨v8, hp, s8, st8⟩
            conv => whnf
            obtain ⟨q1, q2⟩ := fin s8 st8 (.inl ⟨hq, hp⟩) (hp.mo v.mo).1
            exact ⟨_, Forget.cons rfl (Forget.cons rfl (Forget.cons rfl (Forget.cons rfl (Forget.nil _)))), q1, q2⟩
          · conv => whnf
            simp at hm
            have hq : askB v shut m = false := by rw [askB, hd, hh1]; simp; exact hm
            obtain ⟨q1, q2⟩ := fin s6 (StpP.old (Mod.refl _ _)) (.inr ⟨hq, rfl⟩) rfl
            exact ⟨_, Forget.cons rfl (Forget.cons rfl (Forget.cons rfl (Forget.cons rfl (Forget.nil _)))), q1, q2⟩
        · have hx : (!v.has) = false := hx
          rw [hh1] at hx
          cases hx
    · conv => whnf
      have hd : v.don = true := by simpa using hd
      have hq : askB v shut m = false := by rw [askB, hd]; rfl
      obtain ⟨q1, q2⟩ := fin s6 (StpP.old (Mod.refl _ _)) (.inr ⟨hq, rfl⟩) rfl
      exact ⟨_, Forget.cons rfl (Forget.cons rfl (Forget.cons rfl (Forget.cons rfl (Forget.nil _)))), q1, q2⟩
  · rcases hv with ⟨rfl, _⟩ | ⟨rfl, hc⟩
    · exact absurd (e b0 (List.mem_singleton.2 rfl)) (by simp)
    conv => whnf
    refine ⟨_, rfl, ?_⟩
    conv => whnf
    exact ⟨b0, cl, v', ⟨hc, em3⟩, s3, st3⟩
theorem changed23 {h : H} {c : IdC} {v : IdV} (s : Idl h c v) (em : v.mo = .map true (mpP .i64 (itB c))) (hl : v.T.length ≤ 80000) {qs qo : Option (Nat × Nat)} {m : Nat} {shut : List Int} (ss : RoSl h qs shut.length 1 (ints .i64 shut)) (hs : shut.length ≤ 1000000) :
    ACalls Tryz.prog 23 [.ptr (some (c.I, 0)), .sl qs shut.length, .sl qo m] h (fun r h' => IdR h c v (fun v' => ChgP c v shut m v' ∧ v'.mo = v.mo) h') := (changed23' s em hl ss hs).ro fun r h' q => by
  obtain ⟨b0, cl, v', ⟨hc, e⟩, s1, st1⟩ := q
  obtain ⟨s2, st2⟩ := s1.roM e
  refine ⟨c.mm, _, ⟨?_, em.symm⟩, s2, st1.trans st2⟩
  have := (hc.mo (.map true (mpP .i64 (itB c)))).2
  obtain ⟨a1, a2, a3, a4, a5, a6, a7, a8, a9, a10, a11⟩ := v
  subst em
  exact this
end Go.Proofs.YteapijoibimfnaaGreat
/-! The document's server without a wire: a new one; what was told; closing; a tick. -/
namespace Go.Proofs.YteapijoibimfnaaGreat
open Go Go.Ab
def idN (c : IdC) (U : List Int) : Nat → Part
  | 0 => cellP c.I (.row true 5 [.ptr (some (c.t, 0)), .ptr (some (c.s, 0)), i64 0, .mp (some c.mm), .mp (some c.mt)])
  | 1 => cellP c.mm (.map true [])
  | 2 => cellP c.mt (.map true [])
  | 4 => setP c.s c.p U
  | _ => noP
def New6Q (g : Gra) (h : H) (r : V) (h' : H) : Prop := Ab.Mod none_ h h' ∧ ((mayG g = false ∧ r = .tup [.ptr none, i64 1]) ∨
  (mayG g = true ∧ ∃ c : IdC, c.g = g ∧ h.next ≤ c.B ∧ r = .tup [.ptr (some (c.I, 0)), i64 0] ∧ SpB h' c.B c.t c.x g (idN c (List.replicate g.es.length 0))))
set_option maxHeartbeats 2000000 in
theorem new6 {h : H} (g : Gra) (ok : g.ok h) : ACalls Tryz.prog 6 [.agg g.cells] h (New6Q g h) := by
  have ln := ok.ln
  have le := ok.le
  have lb := ok.lb
  refine call_ Tryz.func6 rfl rfl (by kernel_rfl) ?_
  conv => whnf
  have m0 := Mod.push none_ h (.row true 3 g.cells)
  have g0 : (h.push (.row true 3 g.cells)).obj h.next = some (.row true 3 g.cells) := H.obj_push_new _ _
  refine ⟨_, Cells.mk g0 (Nat.le_of_ble_eq_true rfl) rfl, ?_⟩
  conv => whnf
  refine (new16 g (ok.old m0 (fun _ _ k => k))).mono ?_
  rintro _ h1 ⟨⟨hm, rfl⟩ | ⟨x, rfl, hx, gs⟩, m1⟩
  · conv => whnf
    refine ⟨_, rfl, ?_⟩
    conv => whnf
    refine ⟨_, rfl, ?_⟩
    conv => whnf
    exact ⟨mod_none m0 m1, .inl ⟨hm, rfl⟩⟩
  · conv => whnf
    refine ⟨_, rfl, ?_⟩
    conv => whnf
    refine ⟨_, rfl, ?_⟩
    conv => whnf
    refine (tuNew gs (Nat.le_refl _)).mono ?_
    rintro _ h2 ⟨t, rfl, ht, tu, m2⟩
    have hz := mayG_size tu.gr.ok
    conv => whnf
    refine (grEdges tu.gr).mono ?_
    rintro _ h3 ⟨eh, rfl⟩
    subst h3
    conv => whnf
    refine (new44 h2 g.es.length).mono ?_
    rintro _ h4 hq
    obtain ⟨si, p, rfl, st, hst, m4⟩ := new_yes hq (by simp [inR]; omega)
    conv => whnf
    have b0 : SpB h2 h2.next t x g (fun _ => noP) := ⟨tu, Nat.le_refl _, ⟨fun _ => trivial, fun _ => 0, fun _ _ k => k.elim⟩, fun _ _ k => k.elim⟩
    obtain ⟨b1, -⟩ := b0.turn 4 (q := setP si p (List.replicate g.es.length 0)) st m4 fun i k => .inr (hst i k)
    obtain ⟨m5, g5⟩ := pre_row m4 (.map true [])
    obtain ⟨b2, -⟩ := b1.turn 1 (q := cellP h4.next (.map true [])) g5 m5 fun i k => .inr (by have k : i = h4.next := k; omega)
    obtain ⟨m6, g6⟩ := pre_row m5 (.map true [])
    obtain ⟨b3, -⟩ := b2.turn 2 (q := cellP (h4.push (.map true [])).next (.map true [])) g6 m6 fun i k => .inr (by have k : i = (h4.push (.map true [])).next := k; omega)
    obtain ⟨m7, g7⟩ := pre_row m6 (.row true 5 [.ptr (some (t, 0)), .ptr (some (si, 0)), i64 0, .mp (some h4.next), .mp (some (h4.push (.map true [])).next)])
    obtain ⟨b4, -⟩ := b3.turn 0 (q := cellP ((h4.push (.map true [])).push (.map true [])).next (.row true 5 [.ptr (some (t, 0)), .ptr (some (si, 0)), i64 0, .mp (some h4.next), .mp (some (h4.push (.map true [])).next)])) g7 m7 fun i k => .inr (by have k : i = ((h4.push (.map true [])).push (.map true [])).next := k; omega)
    refine ⟨mod_none m0 (mod_none m1 (mod_none m2 (mod_none m4 (mod_none m5 (mod_none m6 m7))))), .inr ⟨tu.gr.ok, ⟨t, x, si, 0, h4.next, (h4.push (.map true [])).next, ((h4.push (.map true [])).push (.map true [])).next, h2.next, p, g, (0, 0)⟩, rfl, Nat.le_trans m0.next (Nat.le_trans m1.next m2.next), rfl, ?_⟩⟩
    have e : idN ⟨t, x, si, 0, h4.next, (h4.push (.map true [])).next, ((h4.push (.map true [])).push (.map true [])).next, h2.next, p, g, (0, 0)⟩ (List.replicate g.es.length 0) = upd (upd (upd (upd (fun _ => noP) 4 (setP si p (List.replicate g.es.length 0))) 1 (cellP h4.next (.map true []))) 2 (cellP (h4.push (.map true [])).next (.map true []))) 0 (cellP ((h4.push (.map true [])).push (.map true [])).next (.row true 5 [.ptr (some (t, 0)), .ptr (some (si, 0)), i64 0, .mp (some h4.next), .mp (some (h4.push (.map true [])).next)])) := by
      funext n
      rcases n with _ | _ | _ | _ | _ | _ | n <;> rfl
    rw [e]
    exact b4
def noEp (m : Msg) : Msg := { m with ep := none }
def ToldQ (T : List Msg) (h : H) (r : V) (h' : H) : Prop := ∃ (q : Option (Nat × Nat)) (T' : List Msg), r = .sl q T'.length ∧ T'.map noEp = T.map noEp ∧ SlIs h' q T'.length true 9 (T'.flatMap mC) ∧ (∀ i, inSl q i → h.next ≤ i) ∧ (∀ m ∈ T', mOk h' m) ∧ Ab.Mod none_ h h'
def TdI (h : H) (q : Option (Nat × Nat)) (T : List Msg) (env : Env) (hh : H) : Prop := ∃ (j : Nat) (z : Int) (po : Option (Nat × Nat)) (T' : List Msg), j ≤ T.length ∧ z = j ∧ T'.map noEp = (T.take j).map noEp ∧ NewSl h hh po T'.length 9 (T'.flatMap mC) ∧ (∀ m ∈ T', mOk hh m) ∧ Ab.Mod none_ h hh ∧
  env = [(20, i64 z), (19, i64 T.length), (18, .sl q T.length), (6, .sl po T'.length)]
set_option maxHeartbeats 2000000 in
theorem told10 {h : H} {c : IdC} {v : IdV} (s : Idl h c v) (hl : v.T.length ≤ 90000) : ACalls Tryz.prog 10 [.ptr (some (c.I, 0)), i64 c.w.1, i64 c.w.2] h (ToldQ v.T h) := by
  refine call_ Tryz.func10 rfl rfl (by kernel_rfl) ?_
  conv => whnf
  refine ⟨_, Cell.mk s.oI rfl, ?_⟩
  conv => whnf
  refine ⟨true, _, s.oT, by simp, by simp; exact s.hw, s.hw, ?_⟩
  rw [pget_one]
  conv => whnf
  refine ⟨TdI h v.q v.T, fun env _ => TnMu 20 v.T.length env, ⟨_, Forget.cons rfl (Forget.cons rfl (Forget.cons rfl (Forget.cons rfl (Forget.nil _)))), 0, 0, none, [], Nat.zero_le _, rfl, rfl, NewSl.nil _ _ _, (fun m hm => by cases hm), Mod.refl _ _, rfl⟩, ?_⟩
  rintro _ hh ⟨j, z, po, T', hj, rfl, hT, no, ro, m, rfl⟩
  have hTl : T'.length = j := by
    have := congrArg List.length hT
    simp at this
    omega
  conv => whnf
  refine br_mk (fun hd => ?_) (fun hd => ?_)
  · conv => whnf
    simp at hd
    obtain ⟨i1, c1, e1, k1, -⟩ := sls_get mC_len (SlIs.old s.oQ m (fun _ _ k => k)).weak rfl hd
    refine ⟨i1, c1, j, e1, rfl, hd, ?_⟩
    conv => whnf
    refine ⟨_, k1, ?_⟩
    conv => whnf
    obtain ⟨gz, g2, m2⟩ := lay_row (h := hh) (sz := 9) [i64 0, i64 0, i64 0, .sl none 0, i64 0, i64 0, i64 0, i64 0, i64 0] (mC v.T[j])
    refine ⟨_, _, gz, Nat.le_of_ble_eq_true rfl, ?_⟩
    conv => whnf
    refine ⟨_, Cell.mk g2 rfl, ?_⟩
    conv => whnf
    have hmem : v.T[j] ∈ v.T := List.getElem_mem hd
    have mo : mOk _ v.T[j] := (s.ro _ hmem).get (mod_none m m2)
    refine (clone24r (RoSl.is mo.1) (by have := mo.2; omega)).mono ?_
    rintro _ h3 ⟨qe, rfl, we, m3⟩
    have g3 := m3.get g2 (.inl fun k => k)
    conv => whnf
    refine ⟨_, _, g3, Nat.le_of_ble_eq_true rfl, ?_⟩
    conv => whnf
    have g4 := H.obj_set_same g3 (ob' := .row true 9 (mC { v.T[j] with ep := qe }))
    have m4 := new_set (cs' := mC { v.T[j] with ep := qe }) (mod_none m2 m3) (Nat.le_refl _) g3
    have ms4 := Mod.set (S := one hh.next) (ob := .row true 9 (mC { v.T[j] with ep := qe })) rfl g3 rfl
    refine ⟨_, Cells.mk g4 (Nat.le_of_ble_eq_true rfl) rfl, ?_⟩
    conv => whnf
    obtain ⟨m5, g5⟩ := pre_row m4 (.row true 9 (mC { v.T[j] with ep := qe }))
    have nP := NewSl.kept no (mod_none m4 m5)
    have ln9 : T'.length + 1 ≤ 90001 := by omega
    refine ⟨_, _, nP.1, (SlIs.row (n := 1) g5 rfl).weak, by show _ * 88 ≤ _; omega, by omega, fun po2 h6 hs hm6 hf => ?_⟩
    have no2 := NewSl.app nP hs hf (Nat.le_trans m.next (mod_none m4 m5).next)
    have mo2 := NewSl.mod nP (mod_none m (mod_none m4 m5)) hm6
    have e6 : T'.flatMap mC ++ mC { v.T[j] with ep := qe } = (T' ++ [{ v.T[j] with ep := qe }]).flatMap mC := by rw [List.flatMap_append]; simp
    have e7 : T'.length + 1 = (T' ++ [{ v.T[j] with ep := qe }]).length := by simp
    rw [e6, e7] at no2
    conv => whnf
    rw [e7]
    refine ⟨_, Forget.cons rfl (Forget.cons rfl (Forget.cons rfl (Forget.cons rfl (Forget.nil _)))), ⟨j + 1, _, po2, T' ++ [{ v.T[j] with ep := qe }], hd, succ_i64 hd (by omega), ?_, no2, fun x hx => ?_, mo2, rfl⟩, ?_⟩
    · rw [List.map_append, hT, List.take_add_one, List.getElem?_eq_getElem hd, List.map_append]
      rfl
    · rcases List.mem_append.1 hx with k | k
      · exact ((ro x k).get (mod_none m4 m5)).get hm6
      · rw [List.mem_singleton] at k
        subst k
        exact ⟨((RoSl.get we ms4).get m5).get hm6, mo.2⟩
    · exact mu_lt hd (by omega)
  · conv => whnf
    simp at hd
    obtain rfl : j = v.T.length := by omega
    rw [List.take_length] at hT
    exact ⟨po, T', rfl, hT, no.1, fun i ⟨o, e⟩ => no.2 i o e, ro, m⟩
theorem told10n (h : H) (d k : Int) : ACalls Tryz.prog 10 [.ptr none, i64 d, i64 k] h (fun r h' => h' = h ∧ r = .sl none 0) := by
  refine call_ Tryz.func10 rfl rfl (by kernel_rfl) ?_
  conv => whnf
  exact ⟨rfl, rfl⟩
theorem told10o {h : H} {c : IdC} {v : IdV} (s : Idl h c v) {d k : Int} (hp : pwf .i64 (d, k)) (hne : (d, k) ≠ c.w) : ACalls Tryz.prog 10 [.ptr (some (c.I, 0)), i64 d, i64 k] h (fun r h' => r = .sl none 0 ∧ Ab.Mod none_ h h') := by
  refine call_ Tryz.func10 rfl rfl (by kernel_rfl) ?_
  conv => whnf
  refine ⟨_, Cell.mk s.oI rfl, ?_⟩
  conv => whnf
  refine ⟨true, _, s.oT, by simp, by simp; exact s.hw, hp, ?_⟩
  rw [show pget [(c.w, V.sl v.q v.T.length)] (d, k) = none by simp [pget, Ne.symm hne]]
  conv => whnf
  refine ⟨fun env hh => hh = h ∧ env = [(20, i64 0), (19, i64 0), (18, .sl none 0), (6, .sl none 0)], fun _ _ => 0, ⟨_, Forget.cons rfl (Forget.cons rfl (Forget.cons rfl (Forget.cons rfl (Forget.nil _)))), rfl, rfl⟩, ?_⟩
  rintro _ hh ⟨rfl, rfl⟩
  conv => whnf
  exact ⟨rfl, Mod.refl _ _⟩
end Go.Proofs.YteapijoibimfnaaGreat
/-! The document's server without a wire: closing; a tick; an Open that is heard. -/
namespace Go.Proofs.YteapijoibimfnaaGreat
open Go Go.Ab
theorem Idl.setU {h h' : H} {c : IdC} {v : IdV} (s : Idl h c v) {U : List Int} (st : St h' c.s c.p U) (m : Ab.Mod (inSl c.p) h h') (hU : U.length = c.g.es.length) : Idl h' c { v with U := U } ∧ StpP h (idP c v) h' (idP c { v with U := U }) := by
  have m' : Ab.Mod (idP c v 4).F h h' := m.mono fun i _ k => .inr k
  obtain ⟨a, b⟩ := s.sp.turn 4 (q := setP c.s c.p U) st m' fun i k => .inl k
  have e : idP c { v with U := U } = upd (idP c v) 4 (setP c.s c.p U) := by
    funext n
    rcases n with _ | _ | _ | _ | _ | _ | n <;> rfl
  rw [← e] at a b
  exact ⟨⟨a, s.way.get m, fun x hx => (s.ro x hx).get m, s.ha, s.hn, hU, s.hwl, s.hw⟩, b⟩
theorem Idl.setI {h : H} {c : IdC} {v : IdV} (s : Idl h c v) (now : Int) : Idl (h.set c.I (.row true 5 [.ptr (some (c.t, 0)), .ptr (some (c.s, 0)), i64 now, .mp (some c.mm), .mp (some c.mt)])) c { v with now := now } ∧ StpP h (idP c v) (h.set c.I (.row true 5 [.ptr (some (c.t, 0)), .ptr (some (c.s, 0)), i64 now, .mp (some c.mm), .mp (some c.mt)])) (idP c { v with now := now }) := by
  have m := Mod.set (S := one c.I) (ob := .row true 5 [.ptr (some (c.t, 0)), .ptr (some (c.s, 0)), i64 now, .mp (some c.mm), .mp (some c.mt)]) rfl s.oI rfl
  obtain ⟨a, b⟩ := s.sp.turn 0 (q := cellP c.I (.row true 5 [.ptr (some (c.t, 0)), .ptr (some (c.s, 0)), i64 now, .mp (some c.mm), .mp (some c.mt)])) (H.obj_set_same s.oI) m fun i k => .inl k
  have e : idP c { v with now := now } = upd (idP c v) 0 (cellP c.I (.row true 5 [.ptr (some (c.t, 0)), .ptr (some (c.s, 0)), i64 now, .mp (some c.mm), .mp (some c.mt)])) := by
    funext n
    rcases n with _ | _ | _ | _ | _ | _ | n <;> rfl
  rw [← e] at a b
  exact ⟨⟨a, s.way.get m, fun x hx => (s.ro x hx).get m, s.ha, s.hn, s.hU, s.hwl, s.hw⟩, b⟩
def ClsP (c : IdC) (v : IdV) (e : Int) (m : Int) (v' : IdV) : Prop := v'.mo = v.mo ∧ ChgP c { v with U := setV v.U (v.now + m) [e] } (outV v.U (v.now + m) [e]) 0 v'
set_option maxHeartbeats 2000000 in
theorem close9 {h : H} {c : IdC} {v : IdV} (s : Idl h c v) (em : v.mo = .map true (mpP .i64 (itB c))) (hl : v.T.length ≤ 80000) {e : Nat} (he : e < c.g.es.length) {m : Int} (h1 : 1 ≤ m) (h2 : m ≤ 1048576) (n1 : 0 ≤ v.now) (n2 : v.now ≤ 1000000) :
    ACalls Tryz.prog 9 [.ptr (some (c.I, 0)), i64 e, i64 m] h (fun r h' => IdR h c v (ClsP c v e m) h') := by
  have hz := mayG_size s.sp.tu.gr.ok
  have hU := s.hU
  refine call_ Tryz.func9 rfl rfl (by kernel_rfl) ?_
  conv => whnf
  refine br_mk (fun hx => ?_) (fun hx => ?_)
  · simp at hx
    omega
  conv => whnf
  refine br_mk (fun hx => ?_) (fun hx => ?_)
  · simp at hx
    omega
  conv => whnf
  refine ⟨[0, 1, 2, 3, 4, 5, 6, 7, 8, 9, 10, 11, 12, 13, 14, 15, 16, 17], [0, 1, 3, 7, 0, 16, 48, 112, 0, 496, 0, 1024, 4095, 8191, 16383, 16383, 32767, 131071], by kernel_rfl, ?_⟩
  conv => whnf
  refine ⟨_, Cell.mk s.oI rfl, ?_⟩
  conv => whnf
  refine ⟨_, Cell.mk s.oI rfl, ?_⟩
  conv => whnf
  rw [wrap_i64 (x := v.now + m) (by omega) (by omega)]
  have m0 := Mod.push none_ h (.row true 1 [i64 e])
  have g0 : (h.push (.row true 1 [i64 e])).obj h.next = some (.row true 1 [i64 e]) := H.obj_push_new _ _
  have s0 := s.old m0
  refine (close46r (E := [(e : Int)]) s0.oS (SlIs.row (n := 1) g0 rfl).weak (by decide) (by omega) (v.now + m)).mono ?_
  rintro _ h3 ⟨q, rfl, w, st, m3⟩
  have hok : okC v.U.length (v.now + m) [(e : Int)] = true := by
    simp [okC, inR, inE]
    omega
  rw [hok] at w st ⊢
  obtain ⟨s3, st3⟩ := s0.setU st m3 (by show (setV _ _ _).length = _; rw [setV_length]; exact hU)
  conv => whnf
  refine ⟨_, rfl, ?_⟩
  conv => whnf
  refine ⟨_, rfl, ?_⟩
  conv => whnf
  have hout : (clO v.U true (v.now + m) [(e : Int)]).length ≤ 1000000 := by
    show (outV _ _ _).length ≤ _
    have := pl_le v.U.length fun k => decide ((k : Int) ∈ [(e : Int)]) && turnsB v.U (v.now + m) k
    exact Nat.le_trans this (by omega)
  refine (changed23 s3 em hl w hout).mono ?_
  rintro _ h4 ⟨v4, ⟨hc, e4⟩, s4, st4⟩
  conv => whnf
  exact ⟨v4, ⟨e4, hc⟩, s4, (StpP.old m0).trans (st3.trans st4)⟩
def TikP (c : IdC) (v : IdV) (v' : IdV) : Prop := v'.mo = v.mo ∧ ChgP c { v with now := v.now + 1, U := setV v.U 0 (lapseV v.U (v.now + 1)) } [] (lapseV v.U (v.now + 1)).length v'
set_option maxHeartbeats 2000000 in
theorem tick12 {h : H} {c : IdC} {v : IdV} (s : Idl h c v) (em : v.mo = .map true (mpP .i64 (itB c))) (hl : v.T.length ≤ 80000) (n1 : 0 ≤ v.now) (n2 : v.now ≤ 1000000) :
    ACalls Tryz.prog 12 [.ptr (some (c.I, 0))] h (fun r h' => IdR h c v (TikP c v) h') := by
  have hz := mayG_size s.sp.tu.gr.ok
  have hU := s.hU
  refine call_ Tryz.func12 rfl rfl (by kernel_rfl) ?_
  conv => whnf
  refine ⟨_, Cell.mk s.oI rfl, ?_⟩
  conv => whnf
  rw [wrap_i64 (x := v.now + 1) (by omega) (by omega)]
  refine ⟨_, _, s.oI, Nat.le_of_ble_eq_true rfl, ?_⟩
  conv => whnf
  obtain ⟨s1, st1⟩ := s.setI (v.now + 1)
  refine ⟨[0, 1, 2, 3, 4, 5, 6, 7, 8, 9, 10], [0, 0, 2, 6, 14, 0, 32, 96, 224, 510, 1023], by kernel_rfl, ?_⟩
  conv => whnf
  refine ⟨_, Cell.mk s1.oI rfl, ?_⟩
  conv => whnf
  refine ⟨_, Cell.mk s1.oI rfl, ?_⟩
  conv => whnf
  refine (lapse50r s1.oS (by show v.U.length ≤ _; omega) (v.now + 1)).mono ?_
  rintro _ h3 ⟨q, rfl, w, st, m3⟩
  obtain ⟨s3, st3⟩ := s1.setU st m3 (by show (setV _ _ _).length = _; rw [setV_length]; exact hU)
  conv => whnf
  refine (changed23 s3 em hl (qs := none) (shut := []) (RoSl.nil _ _ _) (Nat.zero_le _)).mono ?_
  rintro _ h4 ⟨v4, ⟨hc, e4⟩, s4, st4⟩
  conv => whnf
  exact ⟨v4, ⟨e4, hc⟩, s4, st1.trans (st3.trans st4)⟩
/-- a message as it is handed in, without edges -/
def idV0 (U : List Int) (xt : Nat) (w : Int × Int) (a nd : Nat) : IdV := ⟨none, none, U, 0, .map true (mpP .i64 [(w, .ptr (some (xt, 0)))]), a, nd, [], false, false, []⟩
def OpnQ (c : IdC) (U : List Int) (w : Int × Int) (a nd : Nat) (h h' : H) : Prop := ∃ xt q m4 v', m4.k = 4 ∧ AskP { c with xt := xt, w := w } { idV0 U xt w a nd with q := q, T := [m4] } false v' ∧ v'.mo = .map true (mpP .i64 (itB { c with xt := xt, w := w })) ∧ Idl h' { c with xt := xt, w := w } v' ∧ StpP h (idN c U) h' (idP { c with xt := xt, w := w } v')
theorem opn_fin {b : H} {c : IdC} {U : List Int} (s : SpB b c.B c.t c.x c.g (idN c U)) (hU : U.length = c.g.es.length) {w : Int × Int} (hw : pwf .i64 w) {a nd : Nat} (ha : a < c.g.es.length) (hn : nd < c.g.ns.length) (ms : List ((Int × Int) × V)) (bs : List Nat) (cl : Nat) (ms2 : List ((Int × Int) × V)) (bs2 : List Nat) (cl2 : Nat) :
    Idl (((((b.push (.row true 5 [i64 a, i64 nd, .sl none 0, .bool false, .bool false])).set c.mm (.mapb (mpP .i64 ms) bs cl)).set c.mm (.map true (mpP .i64 [(w, .ptr (some (b.next, 0)))]))).set c.mt (.mapb (mpP .i64 ms2) bs2 cl2)).set c.mt (.map true (mpP .i64 [(w, .sl none 0)]))) { c with xt := b.next, w := w } (idV0 U b.next w a nd) ∧
    StpP b (idN c U) (((((b.push (.row true 5 [i64 a, i64 nd, .sl none 0, .bool false, .bool false])).set c.mm (.mapb (mpP .i64 ms) bs cl)).set c.mm (.map true (mpP .i64 [(w, .ptr (some (b.next, 0)))]))).set c.mt (.mapb (mpP .i64 ms2) bs2 cl2)).set c.mt (.map true (mpP .i64 [(w, .sl none 0)]))) (idP { c with xt := b.next, w := w } (idV0 U b.next w a nd)) := by
  obtain ⟨s3, st3⟩ := s.turn 3 (q := cellP b.next (.row true 5 [i64 a, i64 nd, .sl none 0, .bool false, .bool false])) (H.obj_push_new _ _) (Mod.push _ _ _) fun i k => .inr (Nat.le_of_eq (Eq.symm k))
  obtain ⟨s4, st4⟩ := s3.turn 1 (q := cellP c.mm (.mapb (mpP .i64 ms) bs cl)) (H.obj_set_same (s3.sp.1 1)) (Mod.set (S := one c.mm) rfl (s3.sp.1 1) rfl) fun i k => .inl k
  obtain ⟨s5, st5⟩ := s4.turn 1 (q := cellP c.mm (.map true (mpP .i64 [(w, .ptr (some (b.next, 0)))]))) (H.obj_set_same (s4.sp.1 1)) (Mod.set (S := one c.mm) rfl (s4.sp.1 1) rfl) fun i k => .inl k
  obtain ⟨s6, st6⟩ := s5.turn 2 (q := cellP c.mt (.mapb (mpP .i64 ms2) bs2 cl2)) (H.obj_set_same (s5.sp.1 2)) (Mod.set (S := one c.mt) rfl (s5.sp.1 2) rfl) fun i k => .inl k
  obtain ⟨s7, st7⟩ := s6.turn 2 (q := cellP c.mt (.map true (mpP .i64 [(w, .sl none 0)]))) (H.obj_set_same (s6.sp.1 2)) (Mod.set (S := one c.mt) rfl (s6.sp.1 2) rfl) fun i k => .inl k
  obtain ⟨s8, st8⟩ := s7.turn 5 (q := slP none 0 9 []) (SlIs.nil _ _ _) (Mod.refl _ _) (fun i ⟨o, e⟩ => by cases e)
  have e : idP { c with xt := b.next, w := w } (idV0 U b.next w a nd) = upd (upd (upd (upd (upd (upd (idN c U) 3 (cellP b.next (.row true 5 [i64 a, i64 nd, .sl none 0, .bool false, .bool false]))) 1 (cellP c.mm (.mapb (mpP .i64 ms) bs cl))) 1 (cellP c.mm (.map true (mpP .i64 [(w, .ptr (some (b.next, 0)))])))) 2 (cellP c.mt (.mapb (mpP .i64 ms2) bs2 cl2))) 2 (cellP c.mt (.map true (mpP .i64 [(w, .sl none 0)])))) 5 (slP none 0 9 []) := by
    funext n
    rcases n with _ | _ | _ | _ | _ | _ | n <;> rfl
  rw [← e] at s8 st8
  exact ⟨⟨s8, RoSl.nil _ _ _, (fun x hx => by cases hx), ha, hn, hU, Nat.zero_le _, hw⟩, st3.trans (st4.trans (st5.trans (st6.trans (st7.trans st8))))⟩
set_option maxHeartbeats 4000000 in
theorem open20 {h : H} {c : IdC} {U : List Int} (s : SpB h c.B c.t c.x c.g (idN c U)) (hU : U.length = c.g.es.length) {w : Int × Int} (hw : pwf .i64 w) {a nd : Nat} (ha : a < c.g.es.length) (hn : nd < c.g.ns.length) (m : Msg) :
    ACalls Tryz.prog 20 [.ptr (some (c.I, 0)), .agg [i64 w.1, i64 w.2], .agg (mC { m with p := (a : Int), d := (nd : Int) })] h (fun r h' => OpnQ c U w a nd h h') := by
  have hz := mayG_size s.tu.gr.ok
  refine call_ Tryz.func20 rfl rfl (by kernel_rfl) ?_
  conv => whnf
  obtain ⟨m0, g0⟩ := pre_row (Mod.refl none_ h) (.row true 2 [i64 w.1, i64 w.2])
  obtain ⟨m1, g1⟩ := pre_row m0 (.row true 9 (mC { m with p := (a : Int), d := (nd : Int) }))
  have mB := mod_none m0 m1
  have s1 := s.old mB
  have gw := m1.get g0 (.inl fun k => k)
  have oI : ((h.push (.row true 2 [i64 w.1, i64 w.2])).push (.row true 9 (mC { m with p := (a : Int), d := (nd : Int) }))).obj c.I = _ := s1.sp.1 0
  obtain ⟨o, A, P, gt, -⟩ := s1.tu.is
  have hea : edIn c.g (a : Int) = true := edIn_ok (by omega) (by omega)
  have hen : ndIn c.g (nd : Int) = true := ndIn_ok (by omega) (by omega)
  refine ⟨[], [9, 13], rfl, ⟨[0, 1, 2, 3, 4, 5, 6, 7, 8, 9, 10, 11, 12, 13, 14, 15], [0, 1, 3, 7, 15, 31, 63, 0, 128, 511, 1023, 2047, 2047, 1023, 12287, 32767], by kernel_rfl, ?_⟩, ⟨[0, 1, 2, 3, 4, 5, 6, 7, 8, 13, 9, 10, 11, 12, 14, 15], [0, 1, 3, 7, 15, 31, 63, 0, 128, 8703, 9215, 10239, 10239, 0, 12287, 32767], by kernel_rfl, ?_⟩⟩
  · conv => whnf
    refine ⟨_, Cell.mk oI rfl, ?_⟩
    conv => whnf
    refine ⟨_, Cell.mk gt rfl, ?_⟩
    conv => whnf
    refine ⟨_, Cell.mk g1 rfl, ?_⟩
    conv => whnf
    refine (grEdge s1.tu.gr s1.hB _).mono ?_
    rintro _ h2 ⟨rfl, m2⟩
    conv => whnf
    refine ⟨_, rfl, ?_⟩
    conv => whnf
    refine ⟨_, rfl, ?_⟩
    conv => whnf
    obtain ⟨gz, gA, mx⟩ := lay_row (h := h2) (sz := 3) [i64 0, i64 0, i64 0] (eC (edV c.g (a : Int)))
    refine ⟨_, _, gz, Nat.le_of_ble_eq_true rfl, ?_⟩
    conv => whnf
    have mA := mod_none m2 mx
    have s2 := s1.old mA
    have oI2 := mA.get oI (.inl fun k => k)
    have gt2 := mA.get gt (.inl fun k => k)
    have gm2 := mA.get g1 (.inl fun k => k)
    have gw2 := mA.get gw (.inl fun k => k)
    refine ⟨[], [9, 13], rfl, ⟨[0, 1, 2, 3, 4, 5, 6, 7, 8, 9, 10, 11, 12, 13, 14, 15], [0, 1, 3, 7, 15, 31, 63, 0, 128, 511, 1023, 2047, 2047, 1023, 12287, 32767], by kernel_rfl, ?_⟩, ⟨[0, 1, 2, 3, 4, 5, 6, 7, 8, 13, 9, 10, 11, 12, 14, 15], [0, 1, 3, 7, 15, 31, 63, 0, 128, 8703, 9215, 10239, 10239, 0, 12287, 32767], by kernel_rfl, ?_⟩⟩
    · conv => whnf
      refine ⟨_, Cell.mk oI2 rfl, ?_⟩
      conv => whnf
      refine ⟨_, Cell.mk gt2 rfl, ?_⟩
      conv => whnf
      refine ⟨_, Cell.mk gm2 rfl, ?_⟩
      conv => whnf
      refine (grNode s2.tu.gr s2.hB _).mono ?_
      rintro _ h5 ⟨rfl, m5⟩
      conv => whnf
      refine ⟨_, rfl, ?_⟩
      conv => whnf
      refine ⟨_, rfl, ?_⟩
      conv => whnf
      obtain ⟨gz5, gC, mx5⟩ := lay_row (h := h5) (sz := 2) [i64 0, i64 0] (pC (ndV c.g (nd : Int)))
      refine ⟨_, _, gz5, Nat.le_of_ble_eq_true rfl, ?_⟩
      conv => whnf
      have mC5 := mod_none m5 mx5
      have s3 := s2.old mC5
      have gm3 := mC5.get gm2 (.inl fun k => k)
      have gw3 := mC5.get gw2 (.inl fun k => k)
      rw [hea, hen]
      conv => whnf
      refine ⟨_, Cell.mk gm3 rfl, ?_⟩
      conv => whnf
      refine ⟨_, Cell.mk gm3 rfl, ?_⟩
      conv => whnf
      have m6 := (pre_row mC5 (.row true 5 [i64 a, i64 nd, .sl none 0, .bool false, .bool false])).1
      have s6 := s3.old m6
      have gw6 := m6.get gw3 (.inl fun k => k)
      have k1 : h.next ≠ c.mm := fun e => s.fresh (Nat.le_refl h.next) 1 e
      have k2 : h.next ≠ c.mt := fun e => s.fresh (Nat.le_refl h.next) 2 e
      have k3 : c.mt ≠ c.mm := fun e => absurd (s.sp.ne (n := 1) (m := 2) (i := c.mt) e rfl) (by decide)
      have k4 : c.I ≠ c.mm := fun e => absurd (s.sp.ne (n := 1) (m := 0) (i := c.I) e rfl) (by decide)
      refine ⟨[0, 1, 2, 3, 4, 5, 6, 7, 8, 9, 10, 11, 12, 13, 14, 15, 16], [0, 1, 3, 7, 0, 0, 32, 96, 224, 0, 0, 511, 2559, 7679, 16383, 32767, 65535], by kernel_rfl, ?_⟩
      conv => whnf
      refine ⟨_, Cell.mk (s6.sp.1 0) rfl, ?_⟩
      conv => whnf
      refine ⟨_, Cells.mk gw6 (Nat.le_of_ble_eq_true rfl) rfl, ?_⟩
      conv => whnf
      refine ⟨_, Cell.mk (s6.sp.1 0) rfl, ?_⟩
      conv => whnf
      refine ⟨_, Cells.mk gw6 (Nat.le_of_ble_eq_true rfl) rfl, ?_⟩
      conv => whnf
      refine ⟨[], s6.sp.1 1, List.nodup_nil, (fun p hp => by cases hp), hw, fun ms' bs cl p b q1 q2 q3 q4 q5 q6 => ?_⟩
      conv => whnf
      refine ⟨?_, ?_⟩
      · conv => whnf
        exact ⟨_, Cells.mk ((H.obj_set_ne _ _ k1).trans gw6) (Nat.le_of_ble_eq_true rfl) rfl, rfl⟩
      conv => whnf
      refine ⟨_, rfl, ?_⟩
      conv => whnf
      refine ⟨ms', bs, cl, p, b, (w.1, w.2), H.obj_set_same (s6.sp.1 1), rfl, q5, q4, ?_⟩
      rw [q6]
      conv => whnf
      refine ⟨?_, ?_⟩
      · conv => whnf
        exact ⟨_, Cells.mk ((H.obj_set_ne _ _ k1).trans ((H.obj_set_ne _ _ k1).trans gw6)) (Nat.le_of_ble_eq_true rfl) rfl, rfl⟩
      conv => whnf
      refine ⟨[], (H.obj_set_ne _ _ k3).trans ((H.obj_set_ne _ _ k3).trans (s6.sp.1 2)), List.nodup_nil, (fun p hp => by cases hp), hw, fun ms2 bs2 cl2 p2 b2 r1 r2 r3 r4 r5 r6 => ?_⟩
      conv => whnf
      refine ⟨_, rfl, ?_⟩
      conv => whnf
      refine ⟨ms2, bs2, cl2, p2, b2, (w.1, w.2), H.obj_set_same ((H.obj_set_ne _ _ k3).trans ((H.obj_set_ne _ _ k3).trans (s6.sp.1 2))), rfl, r5, r4, ?_⟩
      rw [r6]
      conv => whnf
      obtain ⟨s9, st9⟩ := opn_fin s3 hU hw ha hn ms' bs cl ms2 bs2 cl2
      refine ⟨_, Cells.mk ((H.obj_set_ne _ _ k2).trans ((H.obj_set_ne _ _ k2).trans ((H.obj_set_ne _ _ k1).trans ((H.obj_set_ne _ _ k1).trans gw6)))) (Nat.le_of_ble_eq_true rfl) rfl, ?_⟩
      conv => whnf
      refine (s9.msg ⟨4, 0, 0, [], none, 0, 0, 0, 0, 0⟩ ⟨RoSl.nil _ _ _, Nat.zero_le _⟩ (Nat.zero_le _)).mono ?_
      rintro _ h10 ⟨v10, ⟨q10, rfl⟩, s10, st10⟩
      conv => whnf
      have stA := (StpP.old (mod_none mB (mod_none mA mC5))).trans (st9.trans st10)
      refine ⟨_, Cells.mk ((st9.trans st10).get gw3 (s.fresh (Nat.le_refl h.next))) (Nat.le_of_ble_eq_true rfl) rfl, ?_⟩
      conv => whnf
      refine (asks42 s10 false (by show 1 ≤ 80000; omega)).mono ?_
      rintro _ h11 ⟨v11, hp, s11, st11⟩
      conv => whnf
      exact ⟨_, q10, _, v11, rfl, hp, (hp.mo v11.mo).1, s11, stA.trans st11⟩
    · conv => whnf
      refine ⟨_, Cell.mk oI2 rfl, ?_⟩
      conv => whnf
      refine ⟨_, Cell.mk gt2 rfl, ?_⟩
      conv => whnf
      refine ⟨_, Cell.mk gm2 rfl, ?_⟩
      conv => whnf
      obtain ⟨mz5, gz5⟩ := pre_row mA (.row true 2 [i64 0, i64 0])
      refine (grNode (s2.old mz5).tu.gr (s2.old mz5).hB _).mono ?_
      rintro _ h5 ⟨rfl, m5⟩
      conv => whnf
      refine ⟨_, rfl, ?_⟩
      conv => whnf
      refine ⟨_, rfl, ?_⟩
      conv => whnf
      have gy5 := m5.get gz5 (.inl fun k => k)
      refine ⟨_, _, gy5, Nat.le_of_ble_eq_true rfl, ?_⟩
      conv => whnf
      have mC5 := new_set (cs' := pC (ndV c.g (nd : Int))) (mod_none mz5 m5) (Nat.le_refl _) gy5
      have s3 := s2.old mC5
      have gm3 := mC5.get gm2 (.inl fun k => k)
      have gw3 := mC5.get gw2 (.inl fun k => k)
      rw [hea, hen]
      conv => whnf
      refine ⟨_, Cell.mk gm3 rfl, ?_⟩
      conv => whnf
      refine ⟨_, Cell.mk gm3 rfl, ?_⟩
      conv => whnf
      have m6 := (pre_row mC5 (.row true 5 [i64 a, i64 nd, .sl none 0, .bool false, .bool false])).1
      have s6 := s3.old m6
      have gw6 := m6.get gw3 (.inl fun k => k)
      have k1 : h.next ≠ c.mm := fun e => s.fresh (Nat.le_refl h.next) 1 e
      have k2 : h.next ≠ c.mt := fun e => s.fresh (Nat.le_refl h.next) 2 e
      have k3 : c.mt ≠ c.mm := fun e => absurd (s.sp.ne (n := 1) (m := 2) (i := c.mt) e rfl) (by decide)
      have k4 : c.I ≠ c.mm := fun e => absurd (s.sp.ne (n := 1) (m := 0) (i := c.I) e rfl) (by decide)
      refine ⟨[0, 1, 2, 3, 4, 5, 6, 7, 8, 9, 10, 11, 12, 13, 14, 15, 16], [0, 1, 3, 7, 0, 0, 32, 96, 224, 0, 0, 511, 2559, 7679, 16383, 32767, 65535], by kernel_rfl, ?_⟩
      conv => whnf
      refine ⟨_, Cell.mk (s6.sp.1 0) rfl, ?_⟩
      conv => whnf
      refine ⟨_, Cells.mk gw6 (Nat.le_of_ble_eq_true rfl) rfl, ?_⟩
      conv => whnf
      refine ⟨_, Cell.mk (s6.sp.1 0) rfl, ?_⟩
      conv => whnf
      refine ⟨_, Cells.mk gw6 (Nat.le_of_ble_eq_true rfl) rfl, ?_⟩
      conv => whnf
      refine ⟨[], s6.sp.1 1, List.nodup_nil, (fun p hp => by cases hp), hw, fun ms' bs cl p b q1 q2 q3 q4 q5 q6 => ?_⟩
      conv => whnf
      refine ⟨?_, ?_⟩
      · conv => whnf
        exact ⟨_, Cells.mk ((H.obj_set_ne _ _ k1).trans gw6) (Nat.le_of_ble_eq_true rfl) rfl, rfl⟩
      conv => whnf
      refine ⟨_, rfl, ?_⟩
      conv => whnf
      refine ⟨ms', bs, cl, p, b, (w.1, w.2), H.obj_set_same (s6.sp.1 1), rfl, q5, q4, ?_⟩
      rw [q6]
      conv => whnf
      refine ⟨?_, ?_⟩
      · conv => whnf
        exact ⟨_, Cells.mk ((H.obj_set_ne _ _ k1).trans ((H.obj_set_ne _ _ k1).trans gw6)) (Nat.le_of_ble_eq_true rfl) rfl, rfl⟩
      conv => whnf
      refine ⟨[], (H.obj_set_ne _ _ k3).trans ((H.obj_set_ne _ _ k3).trans (s6.sp.1 2)), List.nodup_nil, (fun p hp => by cases hp), hw, fun ms2 bs2 cl2 p2 b2 r1 r2 r3 r4 r5 r6 => ?_⟩
      conv => whnf
      refine ⟨_, rfl, ?_⟩
      conv => whnf
      refine ⟨ms2, bs2, cl2, p2, b2, (w.1, w.2), H.obj_set_same ((H.obj_set_ne _ _ k3).trans ((H.obj_set_ne _ _ k3).trans (s6.sp.1 2))), rfl, r5, r4, ?_⟩
      rw [r6]
      conv => whnf
      obtain ⟨s9, st9⟩ := opn_fin s3 hU hw ha hn ms' bs cl ms2 bs2 cl2
      refine ⟨_, Cells.mk ((H.obj_set_ne _ _ k2).trans ((H.obj_set_ne _ _ k2).trans ((H.obj_set_ne _ _ k1).trans ((H.obj_set_ne _ _ k1).trans gw6)))) (Nat.le_of_ble_eq_true rfl) rfl, ?_⟩
      conv => whnf
      refine (s9.msg ⟨4, 0, 0, [], none, 0, 0, 0, 0, 0⟩ ⟨RoSl.nil _ _ _, Nat.zero_le _⟩ (Nat.zero_le _)).mono ?_
      rintro _ h10 ⟨v10, ⟨q10, rfl⟩, s10, st10⟩
      conv => whnf
      have stA := (StpP.old (mod_none mB (mod_none mA mC5))).trans (st9.trans st10)
      refine ⟨_, Cells.mk ((st9.trans st10).get gw3 (s.fresh (Nat.le_refl h.next))) (Nat.le_of_ble_eq_true rfl) rfl, ?_⟩
      conv => whnf
      refine (asks42 s10 false (by show 1 ≤ 80000; omega)).mono ?_
      rintro _ h11 ⟨v11, hp, s11, st11⟩
      conv => whnf
      exact ⟨_, q10, _, v11, rfl, hp, (hp.mo v11.mo).1, s11, stA.trans st11⟩
  · conv => whnf
    refine ⟨_, Cell.mk oI rfl, ?_⟩
    conv => whnf
    refine ⟨_, Cell.mk gt rfl, ?_⟩
    conv => whnf
    refine ⟨_, Cell.mk g1 rfl, ?_⟩
    conv => whnf
    obtain ⟨mz, gz⟩ := pre_row m1 (.row true 3 [i64 0, i64 0, i64 0])
    refine (grEdge (s1.old mz).tu.gr (s1.old mz).hB _).mono ?_
    rintro _ h2 ⟨rfl, m2⟩
    conv => whnf
    refine ⟨_, rfl, ?_⟩
    conv => whnf
    refine ⟨_, rfl, ?_⟩
    conv => whnf
    have gy := m2.get gz (.inl fun k => k)
    refine ⟨_, _, gy, Nat.le_of_ble_eq_true rfl, ?_⟩
    conv => whnf
    have mA := new_set (cs' := eC (edV c.g (a : Int))) (mod_none mz m2) (Nat.le_refl _) gy
    have s2 := s1.old mA
    have oI2 := mA.get oI (.inl fun k => k)
    have gt2 := mA.get gt (.inl fun k => k)
    have gm2 := mA.get g1 (.inl fun k => k)
    have gw2 := mA.get gw (.inl fun k => k)
    refine ⟨[], [9, 13], rfl, ⟨[0, 1, 2, 3, 4, 5, 6, 7, 8, 9, 10, 11, 12, 13, 14, 15], [0, 1, 3, 7, 15, 31, 63, 0, 128, 511, 1023, 2047, 2047, 1023, 12287, 32767], by kernel_rfl, ?_⟩, ⟨[0, 1, 2, 3, 4, 5, 6, 7, 8, 13, 9, 10, 11, 12, 14, 15], [0, 1, 3, 7, 15, 31, 63, 0, 128, 8703, 9215, 10239, 10239, 0, 12287, 32767], by kernel_rfl, ?_⟩⟩
    · conv => whnf
      refine ⟨_, Cell.mk oI2 rfl, ?_⟩
      conv => whnf
      refine ⟨_, Cell.mk gt2 rfl, ?_⟩
      conv => whnf
      refine ⟨_, Cell.mk gm2 rfl, ?_⟩
      conv => whnf
      refine (grNode s2.tu.gr s2.hB _).mono ?_
      rintro _ h5 ⟨rfl, m5⟩
      conv => whnf
      refine ⟨_, rfl, ?_⟩
      conv => whnf
      refine ⟨_, rfl, ?_⟩
      conv => whnf
      obtain ⟨gz5, gC, mx5⟩ := lay_row (h := h5) (sz := 2) [i64 0, i64 0] (pC (ndV c.g (nd : Int)))
      refine ⟨_, _, gz5, Nat.le_of_ble_eq_true rfl, ?_⟩
      conv => whnf
      have mC5 := mod_none m5 mx5
      have s3 := s2.old mC5
      have gm3 := mC5.get gm2 (.inl fun k => k)
      have gw3 := mC5.get gw2 (.inl fun k => k)
      rw [hea, hen]
      conv => whnf
      refine ⟨_, Cell.mk gm3 rfl, ?_⟩
      conv => whnf
      refine ⟨_, Cell.mk gm3 rfl, ?_⟩
      conv => whnf
      have m6 := (pre_row mC5 (.row true 5 [i64 a, i64 nd, .sl none 0, .bool false, .bool false])).1
      have s6 := s3.old m6
      have gw6 := m6.get gw3 (.inl fun k => k)
      have k1 : h.next ≠ c.mm := fun e => s.fresh (Nat.le_refl h.next) 1 e
      have k2 : h.next ≠ c.mt := fun e => s.fresh (Nat.le_refl h.next) 2 e
      have k3 : c.mt ≠ c.mm := fun e => absurd (s.sp.ne (n := 1) (m := 2) (i := c.mt) e rfl) (by decide)
      have k4 : c.I ≠ c.mm := fun e => absurd (s.sp.ne (n := 1) (m := 0) (i := c.I) e rfl) (by decide)
      refine ⟨[0, 1, 2, 3, 4, 5, 6, 7, 8, 9, 10, 11, 12, 13, 14, 15, 16], [0, 1, 3, 7, 0, 0, 32, 96, 224, 0, 0, 511, 2559, 7679, 16383, 32767, 65535], by kernel_rfl, ?_⟩
      conv => whnf
      refine ⟨_, Cell.mk (s6.sp.1 0) rfl, ?_⟩
      conv => whnf
      refine ⟨_, Cells.mk gw6 (Nat.le_of_ble_eq_true rfl) rfl, ?_⟩
      conv => whnf
      refine ⟨_, Cell.mk (s6.sp.1 0) rfl, ?_⟩
      conv => whnf
      refine ⟨_, Cells.mk gw6 (Nat.le_of_ble_eq_true rfl) rfl, ?_⟩
      conv => whnf
      refine ⟨[], s6.sp.1 1, List.nodup_nil, (fun p hp => by cases hp), hw, fun ms' bs cl p b q1 q2 q3 q4 q5 q6 => ?_⟩
      conv => whnf
      refine ⟨?_, ?_⟩
      · conv => whnf
        exact ⟨_, Cells.mk ((H.obj_set_ne _ _ k1).trans gw6) (Nat.le_of_ble_eq_true rfl) rfl, rfl⟩
      conv => whnf
      refine ⟨_, rfl, ?_⟩
      conv => whnf
      refine ⟨ms', bs, cl, p, b, (w.1, w.2), H.obj_set_same (s6.sp.1 1), rfl, q5, q4, ?_⟩
      rw [q6]
      conv => whnf
      refine ⟨?_, ?_⟩
      · conv => whnf
        exact ⟨_, Cells.mk ((H.obj_set_ne _ _ k1).trans ((H.obj_set_ne _ _ k1).trans gw6)) (Nat.le_of_ble_eq_true rfl) rfl, rfl⟩
      conv => whnf
      refine ⟨[], (H.obj_set_ne _ _ k3).trans ((H.obj_set_ne _ _ k3).trans (s6.sp.1 2)), List.nodup_nil, (fun p hp => by cases hp), hw, fun ms2 bs2 cl2 p2 b2 r1 r2 r3 r4 r5 r6 => ?_⟩
      conv => whnf
      refine ⟨_, rfl, ?_⟩
      conv => whnf
      refine ⟨ms2, bs2, cl2, p2, b2, (w.1, w.2), H.obj_set_same ((H.obj_set_ne _ _ k3).trans ((H.obj_set_ne _ _ k3).trans (s6.sp.1 2))), rfl, r5, r4, ?_⟩
      rw [r6]
      conv => whnf
      obtain ⟨s9, st9⟩ := opn_fin s3 hU hw ha hn ms' bs cl ms2 bs2 cl2
      refine ⟨_, Cells.mk ((H.obj_set_ne _ _ k2).trans ((H.obj_set_ne _ _ k2).trans ((H.obj_set_ne _ _ k1).trans ((H.obj_set_ne _ _ k1).trans gw6)))) (Nat.le_of_ble_eq_true rfl) rfl, ?_⟩
      conv => whnf
      refine (s9.msg ⟨4, 0, 0, [], none, 0, 0, 0, 0, 0⟩ ⟨RoSl.nil _ _ _, Nat.zero_le _⟩ (Nat.zero_le _)).mono ?_
      rintro _ h10 ⟨v10, ⟨q10, rfl⟩, s10, st10⟩
      conv => whnf
      have stA := (StpP.old (mod_none mB (mod_none mA mC5))).trans (st9.trans st10)
      refine ⟨_, Cells.mk ((st9.trans st10).get gw3 (s.fresh (Nat.le_refl h.next))) (Nat.le_of_ble_eq_true rfl) rfl, ?_⟩
      conv => whnf
      refine (asks42 s10 false (by show 1 ≤ 80000; omega)).mono ?_
      rintro _ h11 ⟨v11, hp, s11, st11⟩
      conv => whnf
      exact ⟨_, q10, _, v11, rfl, hp, (hp.mo v11.mo).1, s11, stA.trans st11⟩
    · conv => whnf
      refine ⟨_, Cell.mk oI2 rfl, ?_⟩
      conv => whnf
      refine ⟨_, Cell.mk gt2 rfl, ?_⟩
      conv => whnf
      refine ⟨_, Cell.mk gm2 rfl, ?_⟩
      conv => whnf
      obtain ⟨mz5, gz5⟩ := pre_row mA (.row true 2 [i64 0, i64 0])
      refine (grNode (s2.old mz5).tu.gr (s2.old mz5).hB _).mono ?_
      rintro _ h5 ⟨rfl, m5⟩
      conv => whnf
      refine ⟨_, rfl, ?_⟩
      conv => whnf
      refine ⟨_, rfl, ?_⟩
      conv => whnf
      have gy5 := m5.get gz5 (.inl fun k => k)
      refine ⟨_, _, gy5, Nat.le_of_ble_eq_true rfl, ?_⟩
      conv => whnf
      have mC5 := new_set (cs' := pC (ndV c.g (nd : Int))) (mod_none mz5 m5) (Nat.le_refl _) gy5
      have s3 := s2.old mC5
      have gm3 := mC5.get gm2 (.inl fun k => k)
      have gw3 := mC5.get gw2 (.inl fun k => k)
      rw [hea, hen]
      conv => whnf
      refine ⟨_, Cell.mk gm3 rfl, ?_⟩
      conv => whnf
      refine ⟨_, Cell.mk gm3 rfl, ?_⟩
      conv => whnf
      have m6 := (pre_row mC5 (.row true 5 [i64 a, i64 nd, .sl none 0, .bool false, .bool false])).1
      have s6 := s3.old m6
      have gw6 := m6.get gw3 (.inl fun k => k)
      have k1 : h.next ≠ c.mm := fun e => s.fresh (Nat.le_refl h.next) 1 e
      have k2 : h.next ≠ c.mt := fun e => s.fresh (Nat.le_refl h.next) 2 e
      have k3 : c.mt ≠ c.mm := fun e => absurd (s.sp.ne (n := 1) (m := 2) (i := c.mt) e rfl) (by decide)
      have k4 : c.I ≠ c.mm := fun e => absurd (s.sp.ne (n := 1) (m := 0) (i := c.I) e rfl) (by decide)
      refine ⟨[0, 1, 2, 3, 4, 5, 6, 7, 8, 9, 10, 11, 12, 13, 14, 15, 16], [0, 1, 3, 7, 0, 0, 32, 96, 224, 0, 0, 511, 2559, 7679, 16383, 32767, 65535], by kernel_rfl, ?_⟩
      conv => whnf
      refine ⟨_, Cell.mk (s6.sp.1 0) rfl, ?_⟩
      conv => whnf
      refine ⟨_, Cells.mk gw6 (Nat.le_of_ble_eq_true rfl) rfl, ?_⟩
      conv => whnf
      refine ⟨_, Cell.mk (s6.sp.1 0) rfl, ?_⟩
      conv => whnf
      refine ⟨_, Cells.mk gw6 (Nat.le_of_ble_eq_true rfl) rfl, ?_⟩
      conv => whnf
      refine ⟨[], s6.sp.1 1, List.nodup_nil, (fun p hp => by cases hp), hw, fun ms' bs cl p b q1 q2 q3 q4 q5 q6 => ?_⟩
      conv => whnf
      refine ⟨?_, ?_⟩
      · conv => whnf
        exact ⟨_, Cells.mk ((H.obj_set_ne _ _ k1).trans gw6) (Nat.le_of_ble_eq_true rfl) rfl, rfl⟩
      conv => whnf
      refine ⟨_, rfl, ?_⟩
      conv => whnf
      refine ⟨ms', bs, cl, p, b, (w.1, w.2), H.obj_set_same (s6.sp.1 1), rfl, q5, q4, ?_⟩
      rw [q6]
      conv => whnf
      refine ⟨?_, ?_⟩
      · conv => whnf
        exact ⟨_, Cells.mk ((H.obj_set_ne _ _ k1).trans ((H.obj_set_ne _ _ k1).trans gw6)) (Nat.le_of_ble_eq_true rfl) rfl, rfl⟩
      conv => whnf
      refine ⟨[], (H.obj_set_ne _ _ k3).trans ((H.obj_set_ne _ _ k3).trans (s6.sp.1 2)), List.nodup_nil, (fun p hp => by cases hp), hw, fun ms2 bs2 cl2 p2 b2 r1 r2 r3 r4 r5 r6 => ?_⟩
      conv => whnf
      refine ⟨_, rfl, ?_⟩
      conv => whnf
      refine ⟨ms2, bs2, cl2, p2, b2, (w.1, w.2), H.obj_set_same ((H.obj_set_ne _ _ k3).trans ((H.obj_set_ne _ _ k3).trans (s6.sp.1 2))), rfl, r5, r4, ?_⟩
      rw [r6]
      conv => whnf
      obtain ⟨s9, st9⟩ := opn_fin s3 hU hw ha hn ms' bs cl ms2 bs2 cl2
      refine ⟨_, Cells.mk ((H.obj_set_ne _ _ k2).trans ((H.obj_set_ne _ _ k2).trans ((H.obj_set_ne _ _ k1).trans ((H.obj_set_ne _ _ k1).trans gw6)))) (Nat.le_of_ble_eq_true rfl) rfl, ?_⟩
      conv => whnf
      refine (s9.msg ⟨4, 0, 0, [], none, 0, 0, 0, 0, 0⟩ ⟨RoSl.nil _ _ _, Nat.zero_le _⟩ (Nat.zero_le _)).mono ?_
      rintro _ h10 ⟨v10, ⟨q10, rfl⟩, s10, st10⟩
      conv => whnf
      have stA := (StpP.old (mod_none mB (mod_none mA mC5))).trans (st9.trans st10)
      refine ⟨_, Cells.mk ((st9.trans st10).get gw3 (s.fresh (Nat.le_refl h.next))) (Nat.le_of_ble_eq_true rfl) rfl, ?_⟩
      conv => whnf
      refine (asks42 s10 false (by show 1 ≤ 80000; omega)).mono ?_
      rintro _ h11 ⟨v11, hp, s11, st11⟩
      conv => whnf
      exact ⟨_, q10, _, v11, rfl, hp, (hp.mo v11.mo).1, s11, stA.trans st11⟩
set_option maxHeartbeats 2000000 in
theorem heard8 {h : H} {c : IdC} {U : List Int} (s : SpB h c.B c.t c.x c.g (idN c U)) (hU : U.length = c.g.es.length) {d k : Int} (hw : pwf .i64 (d, k)) {a nd : Nat} (ha : a < c.g.es.length) (hn : nd < c.g.ns.length) :
    ACalls Tryz.prog 8 [.ptr (some (c.I, 0)), .agg [i64 d, i64 k, .bool true, i64 1, i64 a, i64 nd, .sl none 0, i64 0, i64 0, i64 0, i64 0, i64 0]] h (fun r h' => OpnQ c U (d, k) a nd h h') := by
  refine call_ Tryz.func8 rfl rfl (by kernel_rfl) ?_
  conv => whnf
  obtain ⟨m0, g0⟩ := pre_row (Mod.refl none_ h) (.row true 12 [i64 d, i64 k, .bool true, i64 1, i64 a, i64 nd, .sl none 0, i64 0, i64 0, i64 0, i64 0, i64 0])
  refine ⟨_, Cell.mk g0 rfl, ?_⟩
  conv => whnf
  refine ⟨_, Cell.mk g0 rfl, ?_⟩
  conv => whnf
  refine ⟨_, Cell.mk g0 rfl, ?_⟩
  conv => whnf
  obtain ⟨gz, g1, m1⟩ := lay_row (h := h.push (.row true 12 [i64 d, i64 k, .bool true, i64 1, i64 a, i64 nd, .sl none 0, i64 0, i64 0, i64 0, i64 0, i64 0])) (sz := 2) [i64 0, i64 0] [i64 d, i64 k]
  refine ⟨_, _, gz, Nat.le_of_ble_eq_true rfl, ?_⟩
  conv => whnf
  have m2 := mod_none m0 m1
  have s2 := s.old m2
  have g2 := m1.get g0 (.inl fun k => k)
  refine ⟨[0, 1, 2, 3, 4, 5, 6], [0, 1, 3, 7, 0, 31, 63], by kernel_rfl, ?_⟩
  conv => whnf
  refine ⟨_, Cell.mk (s2.sp.1 0) rfl, ?_⟩
  conv => whnf
  refine ⟨_, Cells.mk g1 (Nat.le_of_ble_eq_true rfl) rfl, ?_⟩
  conv => whnf
  refine ⟨true, [], s2.sp.1 1, List.nodup_nil, (fun p hp => by cases hp), hw, ?_⟩
  conv => whnf
  refine ⟨_, Cell.mk g2 rfl, ?_⟩
  conv => whnf
  refine ⟨_, Cells.mk g1 (Nat.le_of_ble_eq_true rfl) rfl, ?_⟩
  conv => whnf
  refine ⟨_, Cells.mk g2 (Nat.le_of_ble_eq_true rfl) rfl, ?_⟩
  conv => whnf
  refine (open20 s2 hU hw ha hn ⟨1, a, nd, [], none, 0, 0, 0, 0, 0⟩).mono ?_
  rintro _ h3 ⟨xt, q, m4, v', a1, a2, a3, a4, a5⟩
  conv => whnf
  exact ⟨xt, q, m4, v', a1, a2, a3, a4, (StpP.old m2).trans a5⟩
end Go.Proofs.YteapijoibimfnaaGreat
