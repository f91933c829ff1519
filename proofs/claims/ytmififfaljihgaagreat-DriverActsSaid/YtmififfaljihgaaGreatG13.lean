/- The driver, and the document's, with a channel or without: what each call does, told alike. -/
import Derived.Test.YtmififfaljihgaaGreatG12
set_option linter.unusedVariables false
namespace Go.Proofs.YtmififfaljihgaaGreat
open Go Go.Ab
abbrev PO := Option ((CId × Option (Nat × Nat)) × CV)
abbrev RO := Option (RCId × CV)
def DrA (h : H) (di : Nat) (v : DV) : PO → Prop
  | none => DrN h di v
  | some (x, cv) => DrS h di x.1 x.2 v cv
def drA (di : Nat) : PO → Nat → Prop
  | none => fun i => i = di
  | some (x, _) => drAll di x.1 x.2
def RDrA (h : H) (ri : Nat) (v : DV) : RO → Prop
  | none => RDrN h ri v
  | some (x, cv) => RDrS h ri x v cv
def rdA (ri : Nat) : RO → Nat → Prop
  | none => fun i => i = ri
  | some (x, _) => rdAll ri x
def cvP (o : PO) : Option CV := o.map Prod.snd
def cvR (o : RO) : Option CV := o.map Prod.snd
section
variable {h h' : H} {di : Nat} {v : DV}
theorem DrA.b {o : PO} (s : DrA h di v o) : DrB h di v := by
  rcases o with _ | ⟨x, cv⟩
  · exact DrN.b s
  · exact DrS.b s
theorem RDrA.b {o : RO} (s : RDrA h di v o) : RDrB h di v := by
  rcases o with _ | ⟨x, cv⟩
  · exact RDrN.b s
  · exact RDrS.b s
theorem DrA.lt {o : PO} (s : DrA h di v o) {i : Nat} (hi : drA di o i) : i < h.next := by
  rcases o with _ | ⟨x, cv⟩
  · obtain ⟨pw, h1, _⟩ := s
    have hi : i = di := hi
    rw [hi]
    exact h.lt _ _ h1
  · exact DrS.lt s hi
theorem RDrA.lt {o : RO} (s : RDrA h di v o) {i : Nat} (hi : rdA di o i) : i < h.next := by
  rcases o with _ | ⟨x, cv⟩
  · obtain ⟨pw, h1, _⟩ := s
    have hi : i = di := hi
    rw [hi]
    exact h.lt _ _ h1
  · exact RDrS.lt s hi
theorem DrA.get {Z : Nat → Prop} {o : PO} (s : DrA h di v o) (m : Ab.Mod Z h h') (hz : ∀ i, drA di o i → ¬ Z i) : DrA h' di v o := by
  rcases o with _ | ⟨x, cv⟩
  · exact DrN.get s m (hz di rfl)
  · exact DrS.get s m hz
theorem RDrA.get {Z : Nat → Prop} {o : RO} (s : RDrA h di v o) (m : Ab.Mod Z h h') (hz : ∀ i, rdA di o i → ¬ Z i) : RDrA h' di v o := by
  rcases o with _ | ⟨x, cv⟩
  · exact RDrN.get s m (hz di rfl)
  · exact RDrS.get s m hz
theorem drA_di (di : Nat) (o : PO) : drA di o di := by
  rcases o with _ | ⟨x, cv⟩
  · exact rfl
  · exact .inl rfl
theorem rdA_ri (ri : Nat) (o : RO) : rdA ri o ri := by
  rcases o with _ | ⟨x, cv⟩
  · exact rfl
  · exact .inl rfl
end
/-- what a driver is, and its channel, behind some acts -/
structure VI (v : DV) (oc : Option CV) (K : Int) : Prop where
  ok : okCfg v.c = true
  cn : 0 ≤ v.conn ∧ v.conn ≤ K
  has : v.has = false → v.way = []
  len : v.way.length ≤ 512
  off : oc = none → v.live = false
  cg : ∀ cv, oc = some cv → CG cv ∧ cv.cnt ≤ K ∧ cv.N ≤ 16 * K
abbrev DSt := DV × Option CV
def stStart (s : DSt) (now a n : Int) : (List (List Int) × Int) × DSt :=
  if inR a 0 65535 = true ∧ inR n 0 65535 = true then (((startR s.1 now a n).1.1.map encV, (startR s.1 now a n).1.2), (startD s.1 a, some (startR s.1 now a n).2)) else (([], 1), s)
def stReport (s : DSt) (now p : Int) : (List (List Int) × Int) × DSt :=
  if s.1.live = false then (([], 4), s) else if inR p 0 65535 = false then (([], 1), s) else
  match s.2 with
  | none => (([], 4), s)
  | some cv => if (pushV cv now (encB (repM p))).1.2 = 0 then (((pushV cv now (encB (repM p))).1.1.map encV, 0), (repD s.1 p, some (pushV cv now (encB (repM p))).2)) else (([], (pushV cv now (encB (repM p))).1.2), (s.1, some (pushV cv now (encB (repM p))).2))
def stFollow (s : DSt) (now : Int) : (List (List Int) × Int) × DSt :=
  if s.1.live = false ∨ s.1.way = [] then (([], 4), s) else stReport s now (s.1.way.headD 0)
def stStop (s : DSt) (now : Int) : (List (List Int) × Int) × DSt :=
  if s.1.live = false then (([], 4), s) else
  match s.2 with
  | none => (([], 4), s)
  | some cv => (((pushV cv now (encB byeM)).1.1.map encV, (pushV cv now (encB byeM)).1.2), (s.1, some (pushV cv now (encB byeM)).2))
def stTick (s : DSt) (now : Int) : List (List Int) × DSt :=
  if s.1.live = false then ([], s) else
  match s.2 with
  | none => ([], s)
  | some cv => (tickO cv now, (tickD s.1 cv now, some (passV cv now).2))
noncomputable def stRecv (s : DSt) (now : Int) (og : Option GV) : (List (List Int) × List Msg) × DSt :=
  match s.2 with
  | none => (([], []), s)
  | some cv => (rcvO s.1 cv now og, (rcvD s.1 cv now og, some (rcvC s.1 cv now og)))
/-- bytes are told, an error, and the driver is so -/
def OpQ (h : H) (di : Nat) (o : PO) (R : (List (List Int) × Int) × DSt) (r : V) (h' : H) : Prop :=
  ∃ q o', r = .tup [.sl q R.1.1.length, i64 R.1.2] ∧ Rws h' q R.1.1 ∧ DrA h' di R.2.1 o' ∧ cvP o' = R.2.2 ∧ (∀ i, drA di o' i → drA di o i ∨ h.next ≤ i) ∧ Ab.Mod (drA di o) h h'
def ROpQ (h : H) (ri : Nat) (o : RO) (R : (List (List Int) × Int) × DSt) (r : V) (h' : H) : Prop :=
  ∃ q o', r = .tup [.sl q R.1.1.length, i64 R.1.2] ∧ Rws h' q R.1.1 ∧ RDrA h' ri R.2.1 o' ∧ cvR o' = R.2.2 ∧ (∀ i, rdA ri o' i → rdA ri o i ∨ h.next ≤ i) ∧ Ab.Mod (rdA ri o) h h'
section
variable {h : H} {di ri : Nat} {v : DV} {now : Int} {K : Int}
theorem opQ_same {o : PO} (s : DrA h di v o) {c : Int} {R : (List (List Int) × Int) × DSt} (e : R = (([], c), (v, cvP o))) : OpQ h di o R (.tup [.sl none 0, i64 c]) h := by
  rw [e]
  exact ⟨none, o, rfl, rws_nil _, s, rfl, fun i k => .inl k, mod_refl _ _⟩
theorem ropQ_same {o : RO} (s : RDrA h ri v o) {c : Int} {R : (List (List Int) × Int) × DSt} (e : R = (([], c), (v, cvR o))) : ROpQ h ri o R (.tup [.sl none 0, i64 c]) h := by
  rw [e]
  exact ⟨none, o, rfl, rws_nil _, s, rfl, fun i k => .inl k, mod_refl _ _⟩
theorem VI.chan {oc : Option CV} {cv : CV} (i : VI v oc K) (e : oc = some cv) (hK : K ≤ 100) : CG cv ∧ cv.cnt ≤ 1000000 ∧ cv.N ≤ 1000000 := by
  obtain ⟨a, b, c⟩ := i.cg cv e
  exact ⟨a, by omega, by omega⟩
theorem VI.okc {oc : Option CV} (i : VI v oc K) (hK : K ≤ 100) : okCh v.c (v.conn + 1) = true := by
  have := i.cn
  rw [okCh, i.ok, inR_iff.2 ⟨by omega, by omega⟩]
  rfl
theorem openM_len2 {a n : Int} : (encB (openM a n)).length ≤ 100000 := openM_len a n
theorem aStart {o : PO} (s : DrA h di v o) (i : VI v (cvP o) K) (hK : K ≤ 100) (hn0 : -1000000000 ≤ now) (hn1 : now ≤ 1000000000) (a n : Int) : ACalls Tryz.prog 8 [.ptr (some (di, 0)), i64 now, i64 a, i64 n] h (OpQ h di o (stStart (v, cvP o) now a n)) := by
  have hc := i.cn
  refine (dStart s.b i.ok ⟨hc.1, by omega⟩ hn0 hn1 a n (fun b => push_len (new_cok (i.okc hK)) _ _) openM_len2).mono ?_
  rintro _ h' (⟨q, rfl, rfl⟩ | ⟨q1, q2, d, q, po, rfl, rw1, s1, hn, m⟩)
  · refine opQ_same s ?_
    rw [stStart, if_neg]
    rintro ⟨k1, k2⟩
    rcases q with q | q
    · rw [k1] at q
      cases q
    · rw [k2] at q
      cases q
  · have e : stStart (v, cvP o) now a n = (((startR v now a n).1.1.map encV, (startR v now a n).1.2), (startD v a, some (startR v now a n).2)) := by
      rw [stStart, if_pos ⟨q1, q2⟩]
    rw [e]
    refine ⟨q, some ((d, po), _), rfl, rw1, s1, rfl, fun i k => ?_, m.mono (fun j _ k => by have k : j = di := k; rw [k]; exact drA_di di o)⟩
    rcases k with k | k
    · exact .inl (by rw [k]; exact drA_di di o)
    · exact .inr (hn i k)
theorem raStart {o : RO} (s : RDrA h ri v o) (i : VI v (cvR o) K) (hK : K ≤ 100) (hn0 : -1000000000 ≤ now) (hn1 : now ≤ 1000000000) (a n : Int) : ACalls Tryz.prog 9 [.ptr (some (ri, 0)), i64 now, i64 a, i64 n] h (ROpQ h ri o (stStart (v, cvR o) now a n)) := by
  have hc := i.cn
  refine (rdStart s.b i.ok ⟨hc.1, by omega⟩ hn0 hn1 a n (fun b => push_len (new_cok (i.okc hK)) _ _) openM_len2).mono ?_
  rintro _ h' (⟨q, rfl, rfl⟩ | ⟨q1, q2, d, q, rfl, rw1, s1, hn, m⟩)
  · refine ropQ_same s ?_
    rw [stStart, if_neg]
    rintro ⟨k1, k2⟩
    rcases q with q | q
    · rw [k1] at q
      cases q
    · rw [k2] at q
      cases q
  · have e : stStart (v, cvR o) now a n = (((startR v now a n).1.1.map encV, (startR v now a n).1.2), (startD v a, some (startR v now a n).2)) := by
      rw [stStart, if_pos ⟨q1, q2⟩]
    rw [e]
    refine ⟨q, some (d, _), rfl, rw1, s1, rfl, fun i k => ?_, m.mono (fun j _ k => by have k : j = ri := k; rw [k]; exact rdA_ri ri o)⟩
    rcases k with k | k
    · exact .inl (by rw [k]; exact rdA_ri ri o)
    · exact .inr (hn i k)
theorem drOut {d : CId} {po po' : Option (Nat × Nat)} {cv cv' : CV} (hp : ∀ i, inSl po' i → inSl po i ∨ h.next ≤ i) : ∀ i, drA di (some ((d, po'), cv')) i → drA di (some ((d, po), cv)) i ∨ h.next ≤ i := fun i k => by
  rcases k with k | k | k
  · exact .inl (.inl k)
  · exact .inl (.inr (.inl k))
  · exact (hp i k).elim (fun k => .inl (.inr (.inr k))) .inr
theorem stReport_live {v : DV} {cv : CV} {p : Int} (el : v.live = true) (e1 : inR p 0 65535 = true) : stReport (v, some cv) now p = if (pushV cv now (encB (repM p))).1.2 = 0 then (((pushV cv now (encB (repM p))).1.1.map encV, 0), (repD v p, some (pushV cv now (encB (repM p))).2)) else (([], (pushV cv now (encB (repM p))).1.2), (v, some (pushV cv now (encB (repM p))).2)) := by
  rw [stReport, if_neg (by show ¬ v.live = false; rw [el]; decide), if_neg (by rw [e1]; decide)]
theorem repQ_of {d : CId} {po : Option (Nat × Nat)} {cv : CV} {p : Int} {r : V} {h' : H} (s : DrS h di d po v cv) (q : ReportQ h di d po v (pushV cv now (encB (repM p))) p r h') : OpQ h di (some ((d, po), cv)) (stReport (v, some cv) now p) r h' := by
  rcases q with ⟨el, rfl, rfl⟩ | ⟨el, e1, rfl, rfl⟩ | ⟨el, e1, q, po', out, v', rfl, rw1, s1, hp, m, alt⟩
  · exact opQ_same (o := some ((d, po), cv)) s (by rw [stReport, if_pos el]; rfl)
  · exact opQ_same (o := some ((d, po), cv)) s (by rw [stReport, if_neg (by show ¬ v.live = false; rw [el]; decide), if_pos e1]; rfl)
  · rw [stReport_live el e1]
    rcases alt with ⟨a1, rfl, rfl⟩ | ⟨a1, rfl, rfl⟩
    · rw [if_neg a1]
      exact ⟨q, some ((d, po'), _), rfl, rw1, s1, rfl, drOut (cv := cv) hp, m⟩
    · rw [if_pos a1]
      exact ⟨q, some ((d, po'), _), by rw [a1], rw1, s1, rfl, drOut (cv := cv) hp, m⟩
theorem rrepQ_of {d : RCId} {cv : CV} {p : Int} {r : V} {h' : H} (s : RDrS h ri d v cv) (q : RReportQ h ri d v (pushV cv now (encB (repM p))) p r h') : ROpQ h ri (some (d, cv)) (stReport (v, some cv) now p) r h' := by
  rcases q with ⟨el, rfl, rfl⟩ | ⟨el, e1, rfl, rfl⟩ | ⟨el, e1, q, out, v', rfl, rw1, s1, m, alt⟩
  · exact ropQ_same (o := some (d, cv)) s (by rw [stReport, if_pos el]; rfl)
  · exact ropQ_same (o := some (d, cv)) s (by rw [stReport, if_neg (by show ¬ v.live = false; rw [el]; decide), if_pos e1]; rfl)
  · rw [stReport_live el e1]
    rcases alt with ⟨a1, rfl, rfl⟩ | ⟨a1, rfl, rfl⟩
    · rw [if_neg a1]
      exact ⟨q, some (d, _), rfl, rw1, s1, rfl, fun i k => .inl k, m⟩
    · rw [if_pos a1]
      exact ⟨q, some (d, _), by rw [a1], rw1, s1, rfl, fun i k => .inl k, m⟩
theorem aReport {o : PO} (s : DrA h di v o) (i : VI v (cvP o) K) (hK : K ≤ 100) (hn0 : -1000000000 ≤ now) (hn1 : now ≤ 1000000000) (p : Int) : ACalls Tryz.prog 10 [.ptr (some (di, 0)), i64 now, i64 p] h (OpQ h di o (stReport (v, cvP o) now p)) := by
  rcases o with _ | ⟨⟨d, po⟩, cv⟩
  · have el := i.off rfl
    refine (dReport0 s.b el now p).mono ?_
    rintro _ h' ⟨rfl, rfl⟩
    exact opQ_same s (by rw [stReport, if_pos el])
  · obtain ⟨g, c1, c2⟩ := i.chan (cv := cv) rfl hK
    refine (dReport (DrA.b s |> fun _ => (s : DrS h di d po v cv)) g c1 hn0 hn1 p (repM_len p) (fun b => push_len g.ok _ _)).mono ?_
    exact fun r h' q => repQ_of s q
theorem raReport {o : RO} (s : RDrA h ri v o) (i : VI v (cvR o) K) (hK : K ≤ 100) (hn0 : -1000000000 ≤ now) (hn1 : now ≤ 1000000000) (p : Int) : ACalls Tryz.prog 11 [.ptr (some (ri, 0)), i64 now, i64 p] h (ROpQ h ri o (stReport (v, cvR o) now p)) := by
  rcases o with _ | ⟨d, cv⟩
  · have el := i.off rfl
    refine (rdReport0 s.b el now p).mono ?_
    rintro _ h' ⟨rfl, rfl⟩
    exact ropQ_same s (by rw [stReport, if_pos el])
  · obtain ⟨g, c1, c2⟩ := i.chan (cv := cv) rfl hK
    refine (rdReport (show RDrS h ri d v cv from s) g c1 hn0 hn1 p (repM_len p) (fun b => push_len g.ok _ _) i.has).mono ?_
    exact fun r h' q => rrepQ_of s q
theorem aFollow {o : PO} (s : DrA h di v o) (i : VI v (cvP o) K) (hK : K ≤ 100) (hn0 : -1000000000 ≤ now) (hn1 : now ≤ 1000000000) : ACalls Tryz.prog 12 [.ptr (some (di, 0)), i64 now] h (OpQ h di o (stFollow (v, cvP o) now)) := by
  rcases o with _ | ⟨⟨d, po⟩, cv⟩
  · have el := i.off rfl
    refine (dFollow0 s.b el now).mono ?_
    rintro _ h' ⟨rfl, rfl⟩
    exact opQ_same s (by rw [stFollow, if_pos (.inl el)])
  · obtain ⟨g, c1, c2⟩ := i.chan (cv := cv) rfl hK
    refine (dFollow (show DrS h di d po v cv from s) g c1 hn0 hn1 (fun b => push_len g.ok _ _)).mono ?_
    rintro r h' (⟨q, rfl, rfl⟩ | ⟨el, p, l, ew, q⟩)
    · exact opQ_same (o := some ((d, po), cv)) s (by rw [stFollow, if_pos q])
    · have e : stFollow (v, cvP (some ((d, po), cv))) now = stReport (v, some cv) now p := by
        rw [stFollow, if_neg (fun k => by
          rcases k with k | k
          · have k : v.live = false := k
            rw [el] at k
            cases k
          · have k : v.way = [] := k
            rw [ew] at k
            cases k)]
        show stReport (v, some cv) now (v.way.headD 0) = _
        rw [ew]
        rfl
      rw [e]
      exact repQ_of s q
theorem raFollow {o : RO} (s : RDrA h ri v o) (i : VI v (cvR o) K) (hK : K ≤ 100) (hn0 : -1000000000 ≤ now) (hn1 : now ≤ 1000000000) : ACalls Tryz.prog 13 [.ptr (some (ri, 0)), i64 now] h (ROpQ h ri o (stFollow (v, cvR o) now)) := by
  rcases o with _ | ⟨d, cv⟩
  · have el := i.off rfl
    refine (rdFollow0 s.b el now).mono ?_
    rintro _ h' ⟨rfl, rfl⟩
    exact ropQ_same s (by rw [stFollow, if_pos (.inl el)])
  · obtain ⟨g, c1, c2⟩ := i.chan (cv := cv) rfl hK
    refine (rdFollow (show RDrS h ri d v cv from s) g c1 hn0 hn1 (fun b => push_len g.ok _ _) i.has).mono ?_
    rintro r h' (⟨q, rfl, rfl⟩ | ⟨el, p, l, ew, q⟩)
    · exact ropQ_same (o := some (d, cv)) s (by rw [stFollow, if_pos q])
    · have e : stFollow (v, cvR (some (d, cv))) now = stReport (v, some cv) now p := by
        rw [stFollow, if_neg (fun k => by
          rcases k with k | k
          · have k : v.live = false := k
            rw [el] at k
            cases k
          · have k : v.way = [] := k
            rw [ew] at k
            cases k)]
        show stReport (v, some cv) now (v.way.headD 0) = _
        rw [ew]
        rfl
      rw [e]
      exact rrepQ_of s q
theorem aStop {o : PO} (s : DrA h di v o) (i : VI v (cvP o) K) (hK : K ≤ 100) (hn0 : -1000000000 ≤ now) (hn1 : now ≤ 1000000000) : ACalls Tryz.prog 14 [.ptr (some (di, 0)), i64 now] h (OpQ h di o (stStop (v, cvP o) now)) := by
  rcases o with _ | ⟨⟨d, po⟩, cv⟩
  · have el := i.off rfl
    refine (dStop0 s.b el now).mono ?_
    rintro _ h' ⟨rfl, rfl⟩
    exact opQ_same s (by rw [stStop, if_pos el])
  · obtain ⟨g, c1, c2⟩ := i.chan (cv := cv) rfl hK
    refine (dStop (show DrS h di d po v cv from s) g c1 hn0 hn1 (fun b => push_len g.ok _ _)).mono ?_
    rintro r h' (⟨el, rfl, rfl⟩ | ⟨el, q, po', rfl, rw1, s1, hp, m⟩)
    · exact opQ_same (o := some ((d, po), cv)) s (by rw [stStop, if_pos el])
    · rw [stStop, if_neg (by show ¬ v.live = false; rw [el]; decide)]
      exact ⟨q, some ((d, po'), _), rfl, rw1, s1, rfl, drOut (cv := cv) hp, m.mono (fun _ _ k => .inr k)⟩
theorem raStop {o : RO} (s : RDrA h ri v o) (i : VI v (cvR o) K) (hK : K ≤ 100) (hn0 : -1000000000 ≤ now) (hn1 : now ≤ 1000000000) : ACalls Tryz.prog 15 [.ptr (some (ri, 0)), i64 now] h (ROpQ h ri o (stStop (v, cvR o) now)) := by
  rcases o with _ | ⟨d, cv⟩
  · have el := i.off rfl
    refine (rdStop0 s.b el now).mono ?_
    rintro _ h' ⟨rfl, rfl⟩
    exact ropQ_same s (by rw [stStop, if_pos el])
  · obtain ⟨g, c1, c2⟩ := i.chan (cv := cv) rfl hK
    refine (rdStop (show RDrS h ri d v cv from s) g c1 hn0 hn1 (fun b => push_len g.ok _ _)).mono ?_
    rintro r h' (⟨el, rfl, rfl⟩ | ⟨el, q, rfl, rw1, s1, m⟩)
    · exact ropQ_same (o := some (d, cv)) s (by rw [stStop, if_pos el])
    · rw [stStop, if_neg (by show ¬ v.live = false; rw [el]; decide)]
      exact ⟨q, some (d, _), rfl, rw1, s1, rfl, fun i k => .inl k, m.mono (fun _ _ k => .inr k)⟩
def TkQ (h : H) (di : Nat) (o : PO) (R : List (List Int) × DSt) (r : V) (h' : H) : Prop :=
  ∃ q o', r = .sl q R.1.length ∧ Rws h' q R.1 ∧ DrA h' di R.2.1 o' ∧ cvP o' = R.2.2 ∧ (∀ i, drA di o' i → drA di o i ∨ h.next ≤ i) ∧ Ab.Mod (drA di o) h h'
def RTkQ (h : H) (ri : Nat) (o : RO) (R : List (List Int) × DSt) (r : V) (h' : H) : Prop :=
  ∃ q o', r = .sl q R.1.length ∧ Rws h' q R.1 ∧ RDrA h' ri R.2.1 o' ∧ cvR o' = R.2.2 ∧ (∀ i, rdA ri o' i → rdA ri o i ∨ h.next ≤ i) ∧ Ab.Mod (rdA ri o) h h'
theorem aTick {o : PO} (s : DrA h di v o) (i : VI v (cvP o) K) (hK : K ≤ 100) (hn0 : -1000000000 ≤ now) (hn1 : now ≤ 1000000000) : ACalls Tryz.prog 16 [.ptr (some (di, 0)), i64 now] h (TkQ h di o (stTick (v, cvP o) now)) := by
  rcases o with _ | ⟨⟨d, po⟩, cv⟩
  · have el := i.off rfl
    refine (dTick0 s.b el now).mono ?_
    rintro _ h' ⟨rfl, rfl⟩
    rw [stTick, if_pos el]
    exact ⟨none, none, rfl, rws_nil _, s, rfl, fun i k => .inl k, mod_refl _ _⟩
  · obtain ⟨g, c1, c2⟩ := i.chan (cv := cv) rfl hK
    refine (dTick (show DrS h di d po v cv from s) g c1 hn0 hn1 (pass_len g.ok _)).mono ?_
    rintro r h' (⟨el, rfl, rfl⟩ | ⟨el, q, po', rfl, rw1, s1, hp, m⟩)
    · rw [stTick, if_pos el]
      exact ⟨none, some ((d, po), cv), rfl, rws_nil _, s, rfl, fun i k => .inl k, mod_refl _ _⟩
    · rw [stTick, if_neg (by show ¬ v.live = false; rw [el]; decide)]
      exact ⟨q, some ((d, po'), _), rfl, rw1, s1, rfl, drOut (cv := cv) hp, m⟩
theorem raTick {o : RO} (s : RDrA h ri v o) (i : VI v (cvR o) K) (hK : K ≤ 100) (hn0 : -1000000000 ≤ now) (hn1 : now ≤ 1000000000) : ACalls Tryz.prog 17 [.ptr (some (ri, 0)), i64 now] h (RTkQ h ri o (stTick (v, cvR o) now)) := by
  rcases o with _ | ⟨d, cv⟩
  · have el := i.off rfl
    refine (rdTick0 s.b el now).mono ?_
    rintro _ h' ⟨rfl, rfl⟩
    rw [stTick, if_pos el]
    exact ⟨none, none, rfl, rws_nil _, s, rfl, fun i k => .inl k, mod_refl _ _⟩
  · obtain ⟨g, c1, c2⟩ := i.chan (cv := cv) rfl hK
    refine (rdTick (show RDrS h ri d v cv from s) g c1 hn0 hn1 (pass_len g.ok _)).mono ?_
    rintro r h' (⟨el, rfl, rfl⟩ | ⟨el, q, rfl, rw1, s1, m⟩)
    · rw [stTick, if_pos el]
      exact ⟨none, some (d, cv), rfl, rws_nil _, s, rfl, fun i k => .inl k, mod_refl _ _⟩
    · rw [stTick, if_neg (by show ¬ v.live = false; rw [el]; decide)]
      exact ⟨q, some (d, _), rfl, rw1, s1, rfl, fun i k => .inl k, m⟩
def RcQ (h : H) (di : Nat) (o : PO) (R : (List (List Int) × List Msg) × DSt) (r : V) (h' : H) : Prop :=
  ∃ q1 q2 o', r = .tup [.sl q1 R.1.1.length, .sl q2 R.1.2.length] ∧ Rws h' q1 R.1.1 ∧ Msgs h' h.next q2 R.1.2 ∧ DrA h' di R.2.1 o' ∧ cvP o' = R.2.2 ∧ (∀ i, drA di o' i → drA di o i ∨ h.next ≤ i) ∧ Ab.Mod (drA di o) h h'
def RRcQ (h : H) (ri : Nat) (o : RO) (R : (List (List Int) × List Msg) × DSt) (r : V) (h' : H) : Prop :=
  ∃ q1 q2 o', r = .tup [.sl q1 R.1.1.length, .sl q2 R.1.2.length] ∧ Rws h' q1 R.1.1 ∧ Msgs h' h.next q2 R.1.2 ∧ RDrA h' ri R.2.1 o' ∧ cvR o' = R.2.2 ∧ (∀ i, rdA ri o' i → rdA ri o i ∨ h.next ≤ i) ∧ Ab.Mod (rdA ri o) h h'
theorem msgs_nil (h : H) (lo : Nat) : Msgs h lo none [] := ⟨[], ⟨rfl, .inl rfl⟩, fun x hx => (by cases hx), rfl⟩
theorem aRecv {o : PO} (s : DrA h di v o) (i : VI v (cvP o) K) (hK : K ≤ 100) (hn0 : -1000000000 ≤ now) (hn1 : now ≤ 1000000000) {p : Option (Nat × Nat)} {n : Nat} {b : List Int} (ob : SlIs h p n false 1 (ints .u8 b)) (bb : Bts b) (hn : n ≤ 800000) : ACalls Tryz.prog 21 [.ptr (some (di, 0)), i64 now, .sl p n] h (RcQ h di o (stRecv (v, cvP o) now (gOf b))) := by
  rcases o with _ | ⟨⟨d, po⟩, cv⟩
  · have el := i.off rfl
    refine (dRecv0 s.b el now ob bb hn).mono ?_
    rintro _ h' ⟨rfl, m⟩
    exact ⟨none, none, none, rfl, rws_nil _, msgs_nil _ _, DrA.get s m (fun _ _ k => k), rfl, fun i k => .inl k, m.mono (fun _ _ k => k.elim)⟩
  · obtain ⟨g, c1, c2⟩ := i.chan (cv := cv) rfl hK
    refine (dRecv (show DrS h di d po v cv from s) g c1 c2 hn0 hn1 ob bb hn (fun gg => recv_len g.ok _ _)).mono ?_
    rintro r h' ⟨q1, q2, po', rfl, rw1, ms, s1, hp, m⟩
    exact ⟨q1, q2, some ((d, po'), _), rfl, rw1, ms, s1, rfl, drOut (cv := cv) hp, m⟩
theorem rdRecv0 (s : RDrB h ri v) (el : v.live = false) (now : Int) {p : Option (Nat × Nat)} {n : Nat} {b : List Int} (ob : SlIs h p n false 1 (ints .u8 b)) (bb : Bts b) (hn : n ≤ 800000) : ACalls Tryz.prog 22 [.ptr (some (ri, 0)), i64 now, .sl p n] h (fun r h' => r = .tup [.sl none 0, .sl none 0] ∧ Ab.Mod none_ h h') := by
  refine call_ Tryz.func22 rfl rfl (by kernel_rfl) ?_
  conv => whnf
  refine (gdec52 ob bb hn).mono ?_
  rintro _ h1 ⟨m1, e, rfl, ok1, mg, gd, rob⟩
  conv => whnf
  refine ⟨_, rfl, ?_⟩
  conv => whnf
  refine ⟨_, rfl, ?_⟩
  conv => whnf
  obtain ⟨g0, gx, mx⟩ := lay_row (h := h1) (sz := 6) [i64 0, i64 0, i64 0, i64 0, i64 0, .sl none 0] m1.cells
  refine ⟨_, _, g0, Nat.le_of_ble_eq_true rfl, ?_⟩
  conv => whnf
  have sx := (s.get mg (fun k => k)).get mx (fun k => k)
  have mo := mod_none mg mx
  refine ⟨[0, 1, 2, 3, 4, 5, 6, 7, 8, 9, 10, 11, 12, 13, 14, 15, 16, 17], [0, 1, 3, 7, 15, 31, 63, 127, 255, 511, 1023, 2047, 1023, 5119, 13311, 29695, 65535, 131071], by kernel_rfl, ?_⟩
  rcases gd.of with ⟨rfl, eo, enc⟩ | ⟨he, eo⟩
  rotate_left
  · rcases he with rfl | rfl
    · conv => whnf
      exact ⟨rfl, mo⟩
    · conv => whnf
      exact ⟨rfl, mo⟩
  obtain ⟨ch, pw, b1, b2⟩ := sx
  conv => whnf
  refine ⟨_, Cell.mk b1 rfl, ?_⟩
  rw [el]
  conv => whnf
  exact ⟨rfl, mo⟩
theorem raRecv {o : RO} (s : RDrA h ri v o) (i : VI v (cvR o) K) (hK : K ≤ 100) (hn0 : -1000000000 ≤ now) (hn1 : now ≤ 1000000000) {p : Option (Nat × Nat)} {n : Nat} {b : List Int} (ob : SlIs h p n false 1 (ints .u8 b)) (bb : Bts b) (hn : n ≤ 800000) : ACalls Tryz.prog 22 [.ptr (some (ri, 0)), i64 now, .sl p n] h (RRcQ h ri o (stRecv (v, cvR o) now (gOf b))) := by
  rcases o with _ | ⟨d, cv⟩
  · have el := i.off rfl
    refine (rdRecv0 s.b el now ob bb hn).mono ?_
    rintro _ h' ⟨rfl, m⟩
    exact ⟨none, none, none, rfl, rws_nil _, msgs_nil _ _, RDrA.get s m (fun _ _ k => k), rfl, fun i k => .inl k, m.mono (fun _ _ k => k.elim)⟩
  · obtain ⟨g, c1, c2⟩ := i.chan (cv := cv) rfl hK
    refine (rdRecv (show RDrS h ri d v cv from s) g c1 c2 hn0 hn1 ob bb hn (fun gg => recv_len g.ok _ _)).mono ?_
    rintro r h' ⟨q1, q2, rfl, rw1, ms, s1, m⟩
    exact ⟨q1, q2, some (d, _), rfl, rw1, ms, s1, rfl, fun i k => .inl k, m⟩
end
end Go.Proofs.YtmififfaljihgaaGreat
