/- Maps with integers for keys: what the model's map operations do. -/
import Derived.Test.YtmififfaljihgaaGreatAb6
import Derived.MapKept
import Derived.Maps.RangeRun
set_option linter.unusedVariables false
set_option linter.unusedSimpArgs false
namespace Go.Ab
open Go Go.MapKept
def MRel (ρ : Rho) (k : IntKind) : List (Int × V) → List MapEntry → Prop
  | [], [] => True
  | p :: ms, e :: es => e.key = .int k p.1 ∧ VRel ρ p.2 e.val ∧ MRel ρ k ms es
  | _, _ => False
section
variable {ρ : Rho} {k : IntKind}
theorem MRel.of_obj : ∀ {ms : List (Int × V)} {es : List MapEntry}, es.length = (mpE k ms).length → (∀ (j : Nat) (kv : V × V) (m : MapEntry), (mpE k ms)[j]? = some kv → es[j]? = some m → VRel ρ kv.1 m.key ∧ VRel ρ kv.2 m.val) → MRel ρ k ms es
  | [], [], _, _ => trivial
  | [], _ :: _, h, _ => by simp [mpE] at h
  | _ :: _, [], h, _ => by simp [mpE] at h
  | p :: ms, e :: es, h, hr => by
    obtain ⟨h1, h2⟩ := hr 0 (.int k p.1, p.2) e rfl rfl
    exact ⟨h1.int_inv, h2, MRel.of_obj (by simpa [mpE] using h) fun j kv m a b => hr (j + 1) kv m (by simpa [mpE] using a) (by simpa using b)⟩
theorem MRel.to_obj : ∀ {ms : List (Int × V)} {es : List MapEntry}, MRel ρ k ms es → es.length = (mpE k ms).length ∧ ∀ (j : Nat) (kv : V × V) (m : MapEntry), (mpE k ms)[j]? = some kv → es[j]? = some m → VRel ρ kv.1 m.key ∧ VRel ρ kv.2 m.val
  | [], [], _ => ⟨rfl, fun j kv m a _ => by simp [mpE] at a⟩
  | [], _ :: _, h => h.elim
  | _ :: _, [], h => h.elim
  | p :: ms, e :: es, h => by
    obtain ⟨h1, h2, h3⟩ := h
    obtain ⟨h4, h5⟩ := h3.to_obj
    refine ⟨by simpa [mpE] using h4, fun j kv m a b => ?_⟩
    cases j with
    | zero =>
      have a : (V.int k p.1, p.2) = kv := by simpa [mpE] using a
      have b : e = m := by simpa using b
      subst a b
      exact ⟨by rw [h1]; exact .int _ _, h2⟩
    | succ j => exact h5 j kv m (by simpa [mpE] using a) (by simpa using b)
theorem MRel.len : ∀ {ms : List (Int × V)} {es : List MapEntry}, MRel ρ k ms es → es.length = ms.length
  | [], [], _ => rfl
  | [], _ :: _, h => h.elim
  | _ :: _, [], h => h.elim
  | p :: ms, e :: es, h => by simpa using h.2.2.len
/-- what is there under a key, and what stays when it turns, or goes -/
theorem MRel.find {n : Int} : ∀ {ms : List (Int × V)} {es : List MapEntry} (i : Nat), MRel ρ k ms es →
    (mget ms n = none ∧ Instr.findNow (.int k) (.int k n) es i = some none ∧ (∀ v, mput ms n v = ms ++ [(n, v)]) ∧ mdel ms n = ms) ∨
    ∃ j v e, mget ms n = some v ∧ es[j]? = some e ∧ e.key = .int k n ∧ VRel ρ v e.val ∧ Instr.findNow (.int k) (.int k n) es i = some (some (i + j, e.val)) ∧ (∀ v' u', VRel ρ v' u' → MRel ρ k (mput ms n v') (es.set j { e with val := u' })) ∧ MRel ρ k (mdel ms n) (es.eraseIdx j)
  | [], [], i, _ => .inl ⟨rfl, rfl, fun _ => rfl, rfl⟩
  | [], _ :: _, _, h => h.elim
  | _ :: _, [], _, h => h.elim
  | p :: ms, e :: es, i, h => by
    obtain ⟨h1, h2, h3⟩ := h
    by_cases hp : p.1 = n
    · refine .inr ⟨0, p.2, e, by simp [mget, hp], rfl, by rw [h1, hp], h2, ?_, fun v' u' hv => ?_, ?_⟩
      · rw [Instr.findNow, h1]
        simp [Instr.sameNow, hp]
      · rw [mput, if_pos hp]
        exact ⟨h1, hv, h3⟩
      · rw [mdel, if_pos hp]
        exact h3
    · have hs : Instr.sameNow (.int k) (.int k n) e.key = some false := by
        rw [h1]
        simp [Instr.sameNow]
        exact fun q => hp q.symm
      have hg : mget (p :: ms) n = mget ms n := by simp [mget, hp]
      rcases h3.find (n := n) (i + 1) with ⟨a1, a2, a3, a4⟩ | ⟨j, v, e0, a1, a2, a3, a4, a5, a6, a7⟩
      · refine .inl ⟨by rw [hg, a1], ?_, fun v => ?_, ?_⟩
        · rw [Instr.findNow, hs]
          exact a2
        · rw [mput, if_neg hp, a3]
          rfl
        · rw [mdel, if_neg hp, a4]
      · refine .inr ⟨j + 1, v, e0, by rw [hg, a1], by simpa using a2, a3, a4, ?_, fun v' u' hv => ?_, ?_⟩
        · rw [Instr.findNow, hs]
          simp only
          rw [a5, show i + 1 + j = i + (j + 1) by omega]
        · rw [mput, if_neg hp]
          exact ⟨h1, h2, a6 v' u' hv⟩
        · rw [mdel, if_neg hp]
          exact ⟨h1, h2, a7⟩
end
theorem Rel.map {ρ : Rho} {h : H} {w : World} {i : Nat} {own : Bool} {k : IntKind} {ms : List (Int × V)} {l : Loc} (r : Rel ρ h w) (hi : h.obj i = some (.map own (mpE k ms))) (hl : ρ i = some l) :
    ∃ es clock, w.heap[l.b]? = some (.map es clock) ∧ MRel ρ k ms es.toList ∧ (∀ e ∈ es, e.born < clock) ∧ (es.toList.map (·.born)).Nodup := by
  obtain ⟨l', e1, es, clock, g1, g2, g3, g4, g5⟩ := r.obj i _ hi
  rw [hl] at e1
  injection e1 with e1
  subst e1
  exact ⟨es, clock, g1, MRel.of_obj (by simpa using g2) (fun j kv m a b => g5 j kv m a (by simpa using b)), g3, g4⟩
theorem set_map {ρ : Rho} {h : H} {w : World} {i : Nat} {k : IntKind} {ms ms' : List (Int × V)} {l : Loc} {es es' : Array MapEntry} {clock clock' : Nat} (r : Rel ρ h w) (hi : h.obj i = some (.map true (mpE k ms))) (hl : ρ i = some l) (hb : w.heap[l.b]? = some (.map es clock))
    (hm : MRel ρ k ms' es'.toList) (h1 : ∀ e ∈ es', e.born < clock') (h2 : (es'.toList.map (·.born)).Nodup) :
    Rel ρ (h.set i (.map true (mpE k ms'))) { w with heap := w.heap.setIfInBounds l.b (.map es' clock') } ∧ Since ρ h w ρ (h.set i (.map true (mpE k ms'))) { w with heap := w.heap.setIfInBounds l.b (.map es' clock') } := by
  have hlt := (Array.getElem?_eq_some_iff.1 hb).1
  have hother : ∀ b, b ≠ l.b → (w.heap.setIfInBounds l.b (.map es' clock'))[b]? = w.heap[b]? := fun b hne => by
    rw [Array.getElem?_setIfInBounds_ne (fun e => hne e.symm)]
  refine ⟨r.upd hi rfl hl hother ?_ rfl, Since.upd r hi rfl hl hother rfl rfl rfl rfl (by simp)⟩
  obtain ⟨a1, a2⟩ := hm.to_obj
  exact ⟨es', clock', by simp [hlt], by simpa using a1, h1, h2, fun j kv m a b => a2 j kv m a (by simpa using b)⟩
theorem nodup_set_born {es : List MapEntry} {j : Nat} {e : MapEntry} (he : es[j]? = some e) (u : Value) : (es.set j { e with val := u }).map (·.born) = es.map (·.born) := by
  rw [List.map_set]
  apply List.ext_getElem?
  intro i
  rw [List.getElem?_set]
  by_cases hij : j = i
  · subst hij
    simp [he]
    exact (List.getElem?_eq_some_iff.1 he).1
  · rw [if_neg hij]
theorem modify_set {es : Array MapEntry} {j : Nat} {e : MapEntry} (he : es.toList[j]? = some e) (f : MapEntry → MapEntry) : (es.modify j f).toList = es.toList.set j (f e) := by
  apply List.ext_getElem?
  intro i
  have he' : es[j]? = some e := by simpa using he
  rw [Array.getElem?_toList, Array.getElem?_modify, List.getElem?_set]
  by_cases hij : j = i
  · subst hij
    have := (Array.getElem?_eq_some_iff.1 he').1
    have e2 := (Array.getElem?_eq_some_iff.1 he').2
    simp [this, e2]
  · simp [hij]
theorem erase_toList {es : Array MapEntry} {j : Nat} (hj : j < es.size) : (es.eraseIdxIfInBounds j).toList = es.toList.eraseIdx j := by
  unfold Array.eraseIdxIfInBounds
  rw [dif_pos hj]
  simp
section
variable {P : Program} {t kt et : TypeId} {k : IntKind}
theorem run_mapUpdate {ρ : Rho} {h : H} {w : World} {i : Nat} {ms : List (Int × V)} {l : Loc} (ht : P.underlying t = some (.map kt et)) (hk : P.underlying kt = some (.int k)) (r : Rel ρ h w) (hi : h.obj i = some (.map true (mpE k ms))) (hl : ρ i = some l) (n : Int) {v : V} {u : Value} (hv : VRel ρ v u) :
    ∃ w', (Instr.mapUpdate t (.map (some l.b)) (.int k n) u).run P w = .ok () w' ∧ Rel ρ (h.set i (.map true (mpE k (mput ms n v)))) w' ∧ Since ρ h w ρ (h.set i (.map true (mpE k (mput ms n v)))) w' := by
  obtain ⟨es, clock, hb, hm, h1, h2⟩ := r.map hi hl
  have hkey : IsKey (.int k) (.int k n) := rfl
  rcases hm.find (n := n) 0 with ⟨a1, a2, a3, a4⟩ | ⟨j, v0, e, a1, a2, a3, a4, a5, a6, a7⟩
  · have hm' : MRel ρ k (mput ms n v) (es.push ⟨.int k n, u, clock⟩).toList := by
      rw [a3, Array.toList_push]
      clear a1 a2 a3 a4 h1 h2 hb hi
      revert hm
      generalize es.toList = l1
      intro hm
      induction ms generalizing l1 with
      | nil =>
        cases l1 with
        | nil => exact ⟨rfl, hv, trivial⟩
        | cons _ _ => exact hm.elim
      | cons p ms ih =>
        cases l1 with
        | nil => exact hm.elim
        | cons e l1 => exact ⟨hm.1, hm.2.1, ih l1 hm.2.2⟩
    obtain ⟨r1, s1⟩ := set_map (clock' := clock + 1) r hi hl hb hm' (fun e he => by
      rcases Array.mem_push.1 he with he | rfl
      · have := h1 e he
        omega
      · exact Nat.lt_succ_self _) (by
      rw [Array.toList_push, List.map_append, List.nodup_append]
      refine ⟨h2, by simp, fun x hx y hy e => ?_⟩
      obtain ⟨m, hm1, rfl⟩ := List.mem_map.1 hx
      have hy : y = clock := by simpa using hy
      have := h1 m (Array.mem_toList_iff.1 hm1)
      omega)
    refine ⟨_, ?_, r1, s1⟩
    simp [Instr.mapUpdate, run_underlying ht, MapKept.run_getObj_map hb, run_checkKey hk hkey, run_findKey hk a2, MapKept.run_setObj_map _ hb, Result.andThen]
  · rw [Nat.zero_add] at a5
    have hej : es[j]? = some e := by simpa using a2
    have hmod := modify_set (es := es) a2 (fun e => { e with key := .int k n, val := u })
    have hf : ({ e with key := .int k n, val := u } : MapEntry) = { e with val := u } := by rw [← a3]
    rw [hf] at hmod
    have hm' : MRel ρ k (mput ms n v) (es.modify j fun e => { e with key := .int k n, val := u }).toList := by
      rw [hmod]
      exact a6 v u hv
    obtain ⟨r1, s1⟩ := set_map (clock' := clock) r hi hl hb hm' (fun x hx => by
      have hx : x ∈ (es.modify j fun e => { e with key := .int k n, val := u }).toList := Array.mem_toList_iff.2 hx
      rw [hmod] at hx
      rcases List.mem_or_eq_of_mem_set hx with hx | rfl
      · exact h1 x (Array.mem_toList_iff.1 hx)
      · exact h1 e (Array.mem_of_getElem? hej)) (by
      rw [hmod, nodup_set_born a2]
      exact h2)
    refine ⟨_, ?_, r1, s1⟩
    simp [Instr.mapUpdate, run_underlying ht, MapKept.run_getObj_map hb, run_checkKey hk hkey, run_findKey hk a5, hej, a3, run_keyThatStays hkey, MapKept.run_setObj_map _ hb, Result.andThen]
theorem run_delete {ρ : Rho} {h : H} {w : World} {i : Nat} {ms : List (Int × V)} {l : Loc} {ty kt' : TypeId} (ht : P.underlying t = some (.map kt et)) (hk : P.underlying kt = some (.int k)) (r : Rel ρ h w) (hi : h.obj i = some (.map true (mpE k ms))) (hl : ρ i = some l) (n : Int) :
    ∃ w', (Builtin.delete_ #[t, kt'] ty #[.map (some l.b), .int k n]).run P w = .ok (.tuple #[]) w' ∧ Rel ρ (h.set i (.map true (mpE k (mdel ms n)))) w' ∧ Since ρ h w ρ (h.set i (.map true (mpE k (mdel ms n)))) w' := by
  obtain ⟨es, clock, hb, hm, h1, h2⟩ := r.map hi hl
  have hkey : IsKey (.int k) (.int k n) := rfl
  rcases hm.find (n := n) 0 with ⟨a1, a2, a3, a4⟩ | ⟨j, v0, e, a1, a2, a3, a4, a5, a6, a7⟩
  · obtain ⟨r1, s1⟩ := set_map (ms' := mdel ms n) (clock' := clock) r hi hl hb (by rw [a4]; exact hm) h1 h2
    refine ⟨_, ?_, r1, s1⟩
    simp [Builtin.delete_, run_underlying ht, MapKept.run_getObj_map hb, run_checkKey hk hkey, run_findKey hk a2, MapKept.run_setObj_map _ hb, Result.andThen]
  · rw [Nat.zero_add] at a5
    have hej : es[j]? = some e := by simpa using a2
    have hjs := (Array.getElem?_eq_some_iff.1 hej).1
    have he := erase_toList hjs
    obtain ⟨r1, s1⟩ := set_map (es' := es.eraseIdxIfInBounds j) (clock' := clock) r hi hl hb (by rw [he]; exact a7) (fun x hx => by
      have hx : x ∈ (es.eraseIdxIfInBounds j).toList := Array.mem_toList_iff.2 hx
      rw [he] at hx
      exact h1 x (Array.mem_toList_iff.1 ((List.eraseIdx_sublist _ _).subset hx))) (by
      rw [he]
      exact h2.sublist ((List.eraseIdx_sublist _ _).map _))
    refine ⟨_, ?_, r1, s1⟩
    simp [Builtin.delete_, run_underlying ht, MapKept.run_getObj_map hb, run_checkKey hk hkey, run_findKey hk a5, MapKept.run_setObj_map _ hb, Result.andThen]
theorem run_lookup {ρ : Rho} {h : H} {w : World} {i : Nat} {own : Bool} {ms : List (Int × V)} {l : Loc} (ht : P.underlying t = some (.map kt et)) (hk : P.underlying kt = some (.int k)) (r : Rel ρ h w) (hi : h.obj i = some (.map own (mpE k ms))) (hl : ρ i = some l) (n : Int) {z : V} {uz : Value} (hz : VRel ρ z uz) (hzr : (zeroValue et).run P w = .ok uz w) (ok : Bool) :
    ∃ u, (Instr.lookup t (.map (some l.b)) (.int k n) ok).run P w = .ok (if ok then .tuple #[u, .bool (mget ms n).isSome] else u) w ∧ VRel ρ ((mget ms n).getD z) u := by
  obtain ⟨es, clock, hb, hm, h1, h2⟩ := r.map hi hl
  have hkey : IsKey (.int k) (.int k n) := rfl
  rcases hm.find (n := n) 0 with ⟨a1, a2, a3, a4⟩ | ⟨j, v0, e, a1, a2, a3, a4, a5, a6, a7⟩
  · refine ⟨uz, ?_, by rw [a1]; exact hz⟩
    simp [Instr.lookup, run_underlying ht, MapKept.run_getObj_map hb, run_checkKey hk hkey, run_findKey hk a2, hzr, a1, Result.andThen]
  · refine ⟨e.val, ?_, by rw [a1]; exact a4⟩
    simp [Instr.lookup, run_underlying ht, MapKept.run_getObj_map hb, run_checkKey hk hkey, run_findKey hk a5, a1, Result.andThen]
theorem run_lookup_nil {w : World} (ht : P.underlying t = some (.map kt et)) (hk : P.underlying kt = some (.int k)) (n : Int) {uz : Value} (hzr : (zeroValue et).run P w = .ok uz w) (ok : Bool) :
    (Instr.lookup t (.map none) (.int k n) ok).run P w = .ok (if ok then .tuple #[uz, .bool false] else uz) w := by
  have hkey : IsKey (.int k) (.int k n) := rfl
  have a2 : Instr.findNow (.int k) (.int k n) [] 0 = some none := rfl
  simp [Instr.lookup, run_underlying ht, run_checkKey hk hkey, run_findKey hk a2, hzr, Result.andThen]
end
/-! ### To go through a map -/
theorem MRel.bdel {ρ : Rho} {k : IntKind} {n : Int} : ∀ {ms : List (Int × V)} {es : List MapEntry} (i : Nat), MRel ρ k ms es →
    (Instr.findNow (.int k) (.int k n) es i = some none → bdel ms (es.map (·.born)) n = es.map (·.born)) ∧
    (∀ j v, Instr.findNow (.int k) (.int k n) es i = some (some (i + j, v)) → bdel ms (es.map (·.born)) n = (es.eraseIdx j).map (·.born))
  | [], [], i, _ => ⟨fun _ => rfl, fun j v e => by simp [Instr.findNow] at e⟩
  | [], _ :: _, _, h => h.elim
  | _ :: _, [], _, h => h.elim
  | p :: ms, e :: es, i, h => by
    obtain ⟨h1, h2, h3⟩ := h
    by_cases hp : p.1 = n
    · have hs : Instr.findNow (.int k) (.int k n) (e :: es) i = some (some (i, e.val)) := by
        rw [Instr.findNow, h1]
        simp [Instr.sameNow, hp]
      refine ⟨fun e1 => (by rw [hs] at e1; cases e1), fun j v e1 => ?_⟩
      rw [hs] at e1
      injection e1 with e1
      injection e1 with e1
      injection e1 with e1 _
      have : j = 0 := by omega
      subst this
      rw [List.map_cons, Ab.bdel, if_pos hp]
      rfl
    · have hs : Instr.findNow (.int k) (.int k n) (e :: es) i = Instr.findNow (.int k) (.int k n) es (i + 1) := by
        have : Instr.sameNow (.int k) (.int k n) e.key = some false := by
          rw [h1]
          simp [Instr.sameNow]
          exact fun q => hp q.symm
        rw [Instr.findNow, this]
      obtain ⟨a1, a2⟩ := h3.bdel (n := n) (i + 1)
      have hb : Ab.bdel (p :: ms) ((e :: es).map (·.born)) n = e.born :: Ab.bdel ms (es.map (·.born)) n := by
        rw [List.map_cons, Ab.bdel, if_neg hp]
      refine ⟨fun e1 => by rw [hb, a1 (by rw [← hs]; exact e1)]; rfl, fun j v e1 => ?_⟩
      rw [hs] at e1
      rcases h3.find (n := n) (i + 1) with ⟨_, b2, _, _⟩ | ⟨j2, v2, e2, _, _, _, _, b2, _, _⟩
      · rw [b2] at e1
        cases e1
      · have e3 := e1
        rw [b2] at e3
        injection e3 with e3
        injection e3 with e3
        injection e3 with e3 _
        have : j = j2 + 1 := by omega
        subst this
        rw [hb, a2 j2 v (by rw [e1, show i + 1 + j2 = i + (j2 + 1) by omega])]
        rfl
theorem Rel.mapb {ρ : Rho} {h : H} {w : World} {i : Nat} {k : IntKind} {ms : List (Int × V)} {bs : List Nat} {cl : Nat} {l : Loc} (r : Rel ρ h w) (hi : h.obj i = some (.mapb (mpE k ms) bs cl)) (hl : ρ i = some l) :
    ∃ es, w.heap[l.b]? = some (.map es cl) ∧ MRel ρ k ms es.toList ∧ (∀ e ∈ es, e.born < cl) ∧ es.toList.map (·.born) = bs ∧ bs.Nodup := by
  obtain ⟨l', e1, es, g1, g2, g3, g4, g5, g6⟩ := r.obj i _ hi
  rw [hl] at e1
  injection e1 with e1
  subst e1
  exact ⟨es, g1, MRel.of_obj (by simpa using g2) (fun j kv m a b => g6 j kv m a (by simpa using b)), g3, g4, g5⟩
theorem set_mapb {ρ : Rho} {h : H} {w : World} {i : Nat} {k : IntKind} {ms' : List (Int × V)} {l : Loc} {es es' : Array MapEntry} {bs' : List Nat} {cl : Nat} {ob : Ab.Obj} (r : Rel ρ h w) (hi : h.obj i = some ob) (ho : ob.own = true) (hl : ρ i = some l) (hb : w.heap[l.b]? = some (.map es cl))
    (hm : MRel ρ k ms' es'.toList) (h1 : ∀ e ∈ es', e.born < cl) (h2 : es'.toList.map (·.born) = bs') (h3 : bs'.Nodup) :
    Rel ρ (h.set i (.mapb (mpE k ms') bs' cl)) { w with heap := w.heap.setIfInBounds l.b (.map es' cl) } ∧ Since ρ h w ρ (h.set i (.mapb (mpE k ms') bs' cl)) { w with heap := w.heap.setIfInBounds l.b (.map es' cl) } := by
  have hlt := (Array.getElem?_eq_some_iff.1 hb).1
  have hother : ∀ b, b ≠ l.b → (w.heap.setIfInBounds l.b (.map es' cl))[b]? = w.heap[b]? := fun b hne => by
    rw [Array.getElem?_setIfInBounds_ne (fun e => hne e.symm)]
  refine ⟨r.upd hi ho hl hother ?_ rfl, Since.upd r hi ho hl hother rfl rfl rfl rfl (by simp)⟩
  obtain ⟨a1, a2⟩ := hm.to_obj
  exact ⟨es', by simp [hlt], by simpa using a1, h1, h2, h3, fun j kv m a b => a2 j kv m a (by simpa using b)⟩
section
variable {P : Program} {t kt et : TypeId} {k : IntKind}
theorem run_delete_b {ρ : Rho} {h : H} {w : World} {i : Nat} {ms : List (Int × V)} {bs : List Nat} {cl : Nat} {l : Loc} {ty kt' : TypeId} (ht : P.underlying t = some (.map kt et)) (hk : P.underlying kt = some (.int k)) (r : Rel ρ h w) (hi : h.obj i = some (.mapb (mpE k ms) bs cl)) (hl : ρ i = some l) (n : Int) :
    ∃ w', (Builtin.delete_ #[t, kt'] ty #[.map (some l.b), .int k n]).run P w = .ok (.tuple #[]) w' ∧ Rel ρ (h.set i (.mapb (mpE k (mdel ms n)) (bdel ms bs n) cl)) w' ∧ Since ρ h w ρ (h.set i (.mapb (mpE k (mdel ms n)) (bdel ms bs n) cl)) w' := by
  obtain ⟨es, hb, hm, h1, h2, h3⟩ := r.mapb hi hl
  have hkey : IsKey (.int k) (.int k n) := rfl
  obtain ⟨d1, d2⟩ := hm.bdel (n := n) 0
  rw [h2] at d1 d2
  rcases hm.find (n := n) 0 with ⟨a1, a2, a3, a4⟩ | ⟨j, v0, e, a1, a2, a3, a4, a5, a6, a7⟩
  · obtain ⟨r1, s1⟩ := set_mapb (ms' := mdel ms n) (es' := es) (bs' := bdel ms bs n) r hi rfl hl hb (by rw [a4]; exact hm) h1 (by rw [d1 a2, h2]) (by rw [d1 a2]; exact h3)
    refine ⟨_, ?_, r1, s1⟩
    simp [Builtin.delete_, run_underlying ht, MapKept.run_getObj_map hb, run_checkKey hk hkey, run_findKey hk a2, MapKept.run_setObj_map _ hb, Result.andThen]
  · have hd := d2 j _ a5
    rw [Nat.zero_add] at a5
    have hej : es[j]? = some e := by simpa using a2
    have hjs := (Array.getElem?_eq_some_iff.1 hej).1
    have he := erase_toList hjs
    obtain ⟨r1, s1⟩ := set_mapb (es' := es.eraseIdxIfInBounds j) (bs' := bdel ms bs n) (ms' := mdel ms n) r hi rfl hl hb (by rw [he]; exact a7) (fun x hx => by
      have hx : x ∈ (es.eraseIdxIfInBounds j).toList := Array.mem_toList_iff.2 hx
      rw [he] at hx
      exact h1 x (Array.mem_toList_iff.1 ((List.eraseIdx_sublist _ _).subset hx))) (by rw [he, hd]) (by
      rw [hd]
      rw [← h2] at h3
      exact h3.sublist ((List.eraseIdx_sublist _ _).map _))
    refine ⟨_, ?_, r1, s1⟩
    simp [Builtin.delete_, run_underlying ht, MapKept.run_getObj_map hb, run_checkKey hk hkey, run_findKey hk a5, MapKept.run_setObj_map _ hb, Result.andThen]
/-- to begin -/
theorem run_range_b {ρ : Rho} {h : H} {w : World} {i : Nat} {ms : List (Int × V)} {l : Loc} (ht : P.underlying t = some (.map kt et)) (r : Rel ρ h w) (hd : Dom ρ h.next) (hi : h.obj i = some (.map true (mpE k ms))) (hl : ρ i = some l) :
    ∃ bs cl, bs.length = ms.length ∧ bs.Nodup ∧ (∀ b ∈ bs, b < cl) ∧ (Instr.range t (.map (some l.b))).run P w = .ok (.pointer (some ⟨w.heap.size, 0, none⟩)) (w.alloc (.mapIter (some l.b) cl #[] cl)) ∧
      Rel (ρ.add h.next ⟨w.heap.size, 0, 0, 0⟩) ((h.set i (.mapb (mpE k ms) bs cl)).push (.itr i cl [] cl)) (w.alloc (.mapIter (some l.b) cl #[] cl)) ∧
      Since ρ h w (ρ.add h.next ⟨w.heap.size, 0, 0, 0⟩) ((h.set i (.mapb (mpE k ms) bs cl)).push (.itr i cl [] cl)) (w.alloc (.mapIter (some l.b) cl #[] cl)) := by
  obtain ⟨es, cl, hb, hm, h1, h2⟩ := r.map hi hl
  obtain ⟨m1, m2⟩ := hm.to_obj
  have ho : ObjRel ρ w l (.mapb (mpE k ms) (es.toList.map (·.born)) cl) := ⟨es, hb, by simpa using m1, h1, rfl, h2, fun j kv m a b => m2 j kv m a (by simpa using b)⟩
  have r1 : Rel ρ (h.set i (.mapb (mpE k ms) (es.toList.map (·.born)) cl)) w := r.upd hi rfl hl (fun _ _ => rfl) ho rfl
  have s1 : Since ρ h w ρ (h.set i (.mapb (mpE k ms) (es.toList.map (·.born)) cl)) w := Since.upd r hi rfl hl (fun _ _ => rfl) rfl rfl rfl rfl (Nat.le_refl _)
  have hold : ∀ b, b < w.heap.size → (w.alloc (.mapIter (some l.b) cl #[] cl)).heap[b]? = w.heap[b]? := fun b hb => heap_alloc_old w _ hb
  have r2 := Rel.push (l := ⟨w.heap.size, 0, 0, 0⟩) (ob := .itr i cl [] cl) r1 hd (Nat.le_refl _) hold ⟨l, Rho.add_ext hd _ _ _ hl, rfl, heap_alloc_new w _⟩
  have s2 := Since.push (l := ⟨w.heap.size, 0, 0, 0⟩) (ob := .itr i cl [] cl) (w' := w.alloc (.mapIter (some l.b) cl #[] cl)) r1 hd (Nat.le_refl _) rfl rfl rfl (by show w.heap.size ≤ (w.heap.push _).size; rw [Array.size_push]; omega) hold
  refine ⟨es.toList.map (fun (e : MapEntry) => e.born), cl, ?_, h2, fun b hb => ?_, run_range_map w t kt et l.b es cl ht hb, r2, s1.trans s2⟩
  · rw [List.length_map]
    exact hm.len
  · obtain ⟨e, he, rfl⟩ := List.mem_map.1 hb
    exact h1 e (Array.mem_toList_iff.1 he)
theorem MRel.at {ρ : Rho} {k : IntKind} : ∀ {ms : List (Int × V)} {es : List MapEntry}, MRel ρ k ms es → ∀ {p : Nat} {e : MapEntry}, es[p]? = some e → ∃ n v, ms[p]? = some (n, v) ∧ e.key = .int k n ∧ VRel ρ v e.val
  | [], [], _, p, e, h => by simp at h
  | [], _ :: _, h, _, _, _ => h.elim
  | _ :: _, [], h, _, _, _ => h.elim
  | q :: ms, x :: es, h, p, e, he => by
    obtain ⟨h1, h2, h3⟩ := h
    cases p with
    | zero =>
      simp at he
      subst he
      exact ⟨q.1, q.2, rfl, h1, h2⟩
    | succ p =>
      obtain ⟨n, v, a, b⟩ := h3.at (p := p) (e := e) (by simpa using he)
      exact ⟨n, v, by simpa using a, b⟩
/-- a step -/
theorem run_next_b {ρ : Rho} {h : H} {w : World} {i j cl : Nat} {seen : List Nat} {ms : List (Int × V)} {bs : List Nat} {l : Loc} (r : Rel ρ h w) (hj : h.obj j = some (.itr i cl seen cl)) (hi : h.obj i = some (.mapb (mpE k ms) bs cl)) (hl : ρ j = some l) (ty : TypeId) :
    ((∀ b ∈ bs, b ∈ seen) ∧ (Instr.next (.pointer (some ⟨l.b, l.o + 0, none⟩)) false ty).run P w = .ok (.tuple #[.bool false]) w) ∨
    ∃ (p : Nat) (n : Int) (v : V) (b : Nat) (u : Value) (w' : World), ms[p]? = some (n, v) ∧ bs[p]? = some b ∧ b ∉ seen ∧ VRel ρ v u ∧ (Instr.next (.pointer (some ⟨l.b, l.o + 0, none⟩)) false ty).run P w = .ok (.tuple #[.bool true, .int k n, u]) w' ∧
      Rel ρ (h.set j (.itr i cl (seen ++ [b]) cl)) w' ∧ Since ρ h w ρ (h.set j (.itr i cl (seen ++ [b]) cl)) w' := by
  obtain ⟨l', e1, lm, e2, e3, e4⟩ := r.obj j _ hj
  rw [hl] at e1
  injection e1 with e1
  subst e1
  obtain ⟨es, hb, hm, h1, h2, h3⟩ := r.mapb hi e2
  rw [e3]
  rcases run_next_at (P := P) w ty l.b lm.b cl cl seen.toArray es cl e4 hb (fun x hx => h1 x (Array.mem_toList_iff.1 hx)) (Nat.le_refl _) with ⟨a1, a2⟩ | ⟨e, a1, w1, a2, a3⟩
  · refine .inl ⟨fun b hbm => ?_, a2⟩
    rw [← h2] at hbm
    obtain ⟨e, he, rfl⟩ := List.mem_map.1 hbm
    refine Decidable.by_contra (fun hn => ?_)
    have : e ∈ leftOf es seen.toArray := by
      unfold leftOf
      rw [Array.mem_filter]
      exact ⟨Array.mem_toList_iff.1 he, by simpa using hn⟩
    have := Array.size_pos_of_mem this
    omega
  · have hmem : e ∈ es ∧ e.born ∉ seen := by
      have : e ∈ leftOf es seen.toArray := Array.mem_toList_iff.1 a1
      unfold leftOf at this
      rw [Array.mem_filter] at this
      exact ⟨this.1, by simpa using this.2⟩
    obtain ⟨p, hp, hpe⟩ := List.getElem_of_mem (Array.mem_toList_iff.2 hmem.1)
    have hpe : es.toList[p]? = some e := by rw [List.getElem?_eq_getElem hp, hpe]
    obtain ⟨n, v, m1, m2, m3⟩ := hm.at hpe
    have hw1 : w1.heap = w.heap ∧ w1.os = w.os ∧ w1.tape = w.tape ∧ w1.output = w.output := by
      rcases a2 with rfl | rfl <;> exact ⟨rfl, rfl, rfl, rfl⟩
    have hother : ∀ b, b ≠ l.b → (ChangeMaps.setBlock w1 l.b (.mapIter (some lm.b) cl (seen.toArray.push e.born) cl)).heap[b]? = w.heap[b]? := fun b hne => by
      show (w1.heap.setIfInBounds l.b _)[b]? = _
      rw [hw1.1, Array.getElem?_setIfInBounds_ne (fun x => hne x.symm)]
    have hlt := (Array.getElem?_eq_some_iff.1 e4).1
    have hob : ObjRel ρ (ChangeMaps.setBlock w1 l.b (.mapIter (some lm.b) cl (seen.toArray.push e.born) cl)) l (.itr i cl (seen ++ [e.born]) cl) := by
      refine ⟨lm, e2, e3, ?_⟩
      show (w1.heap.setIfInBounds l.b _)[l.b]? = _
      rw [hw1.1]
      simp [hlt]
    rw [m2] at a3
    refine .inr ⟨p, n, v, e.born, e.val, _, m1, by rw [← h2, List.getElem?_map, hpe]; rfl, hmem.2, m3, a3, r.upd hj rfl hl hother hob rfl, Since.upd r hj rfl hl hother rfl hw1.2.1 hw1.2.2.1 hw1.2.2.2 ?_⟩
    show w.heap.size ≤ (w1.heap.setIfInBounds l.b _).size
    rw [hw1.1, Array.size_setIfInBounds]
    exact Nat.le_refl _
/-- what came -/
theorem run_entry_b {ρ : Rho} {h : H} {w : World} {i j cl : Nat} {seen : List Nat} {b p : Nat} {n : Int} {v : V} {ms : List (Int × V)} {bs : List Nat} {l : Loc} (r : Rel ρ h w) (hj : h.obj j = some (.itr i cl (seen ++ [b]) cl)) (hi : h.obj i = some (.mapb (mpE k ms) bs cl)) (hl : ρ j = some l) (hp : bs[p]? = some b) (hm : ms[p]? = some (n, v)) :
    ∃ u, VRel ρ v u ∧ (Instr.entry (.pointer (some ⟨l.b, l.o + 0, none⟩))).run P w = .ok (.tuple #[.int k n, u]) w := by
  obtain ⟨l', e1, lm, e2, e3, e4⟩ := r.obj j _ hj
  rw [hl] at e1
  injection e1 with e1
  subst e1
  obtain ⟨es, hb, hr, h1, h2, h3⟩ := r.mapb hi e2
  rw [e3]
  have hpe : ∃ e, es.toList[p]? = some e ∧ e.born = b := by
    rw [← h2, List.getElem?_map] at hp
    cases hx : es.toList[p]? with
    | none => rw [hx] at hp; cases hp
    | some e =>
      rw [hx] at hp
      injection hp with hp
      exact ⟨e, rfl, hp⟩
  obtain ⟨e, hpe, rfl⟩ := hpe
  obtain ⟨n', v', m1, m2, m3⟩ := hr.at hpe
  rw [hm] at m1
  injection m1 with m1
  injection m1 with m1 m1'
  subst m1 m1'
  refine ⟨e.val, m3, ?_⟩
  rw [← m2]
  have e5 : (seen ++ [e.born]).toArray = seen.toArray.push e.born := by simp
  rw [e5] at e4
  exact run_entry_at (P := P) w l.b lm.b cl seen.toArray es cl e e4 hb (List.mem_of_getElem? hpe) (by rw [h2]; exact h3)
end
end Go.Ab
