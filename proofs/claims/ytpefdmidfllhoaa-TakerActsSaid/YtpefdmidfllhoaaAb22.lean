/- Maps with integers for keys: what the model's map operations do. -/
import Derived.Test.YtpefdmidfllhoaaAb6
import Derived.MapKept
set_option linter.unusedVariables false
set_option linter.unusedSimpArgs false
namespace Go.Ab
open Go Go.MapKept
def MRel (ρ : Rho) (k : IntKind) : List (Int × V) → List MapEntry → Prop
  | [], [] => True
  | p :: ms, e :: es => e.key = .int k p.1 ∧ VRel ρ p.2 e.val ∧ MRel ρ k ms es
  | _, _ => False
section
variable {ρ : Rho} {k : IntKind}
theorem MRel.of_obj : ∀ {ms : List (Int × V)} {es : List MapEntry}, es.length = (mpE k ms).length → (∀ (j : Nat) (kv : V × V) (m : MapEntry), (mpE k ms)[j]? = some kv → es[j]? = some m → VRel ρ kv.1 m.key ∧ VRel ρ kv.2 m.val) → MRel ρ k ms es
  | [], [], _, _ => trivial
  | [], _ :: _, h, _ => by simp [mpE] at h
  | _ :: _, [], h, _ => by simp [mpE] at h
  | p :: ms, e :: es, h, hr => by
    obtain ⟨h1, h2⟩ := hr 0 (.int k p.1, p.2) e rfl rfl
    exact ⟨h1.int_inv, h2, MRel.of_obj (by simpa [mpE] using h) fun j kv m a b => hr (j + 1) kv m (by simpa [mpE] using a) (by simpa using b)⟩
theorem MRel.to_obj : ∀ {ms : List (Int × V)} {es : List MapEntry}, MRel ρ k ms es → es.length = (mpE k ms).length ∧ ∀ (j : Nat) (kv : V × V) (m : MapEntry), (mpE k ms)[j]? = some kv → es[j]? = some m → VRel ρ kv.1 m.key ∧ VRel ρ kv.2 m.val
  | [], [], _ => ⟨rfl, fun j kv m a _ => by simp [mpE] at a⟩
  | [], _ :: _, h => h.elim
  | _ :: _, [], h => h.elim
  | p :: ms, e :: es, h => by
    obtain ⟨h1, h2, h3⟩ := h
    obtain ⟨h4, h5⟩ := h3.to_obj
    refine ⟨by simpa [mpE] using h4, fun j kv m a b => ?_⟩
    cases j with
    | zero =>
      have a : (V.int k p.1, p.2) = kv := by simpa [mpE] using a
      have b : e = m := by simpa using b
      subst a b
      exact ⟨by rw [h1]; exact .int _ _, h2⟩
    | succ j => exact h5 j kv m (by simpa [mpE] using a) (by simpa using b)
theorem MRel.len : ∀ {ms : List (Int × V)} {es : List MapEntry}, MRel ρ k ms es → es.length = ms.length
  | [], [], _ => rfl
  | [], _ :: _, h => h.elim
  | _ :: _, [], h => h.elim
  | p :: ms, e :: es, h => by simpa using h.2.2.len
/-- what is there under a key, and what stays when it turns, or goes -/
theorem MRel.find {n : Int} : ∀ {ms : List (Int × V)} {es : List MapEntry} (i : Nat), MRel ρ k ms es →
    (mget ms n = none ∧ Instr.findNow (.int k) (.int k n) es i = some none ∧ (∀ v, mput ms n v = ms ++ [(n, v)]) ∧ mdel ms n = ms) ∨
    ∃ j v e, mget ms n = some v ∧ es[j]? = some e ∧ e.key = .int k n ∧ VRel ρ v e.val ∧ Instr.findNow (.int k) (.int k n) es i = some (some (i + j, e.val)) ∧ (∀ v' u', VRel ρ v' u' → MRel ρ k (mput ms n v') (es.set j { e with val := u' })) ∧ MRel ρ k (mdel ms n) (es.eraseIdx j)
  | [], [], i, _ => .inl ⟨rfl, rfl, fun _ => rfl, rfl⟩
  | [], _ :: _, _, h => h.elim
  | _ :: _, [], _, h => h.elim
  | p :: ms, e :: es, i, h => by
    obtain ⟨h1, h2, h3⟩ := h
    by_cases hp : p.1 = n
    · refine .inr ⟨0, p.2, e, by simp [mget, hp], rfl, by rw [h1, hp], h2, ?_, fun v' u' hv => ?_, ?_⟩
      · rw [Instr.findNow, h1]
        simp [Instr.sameNow, hp]
      · rw [mput, if_pos hp]
        exact ⟨h1, hv, h3⟩
      · rw [mdel, if_pos hp]
        exact h3
    · have hs : Instr.sameNow (.int k) (.int k n) e.key = some false := by
        rw [h1]
        simp [Instr.sameNow]
        exact fun q => hp q.symm
      have hg : mget (p :: ms) n = mget ms n := by simp [mget, hp]
      rcases h3.find (n := n) (i + 1) with ⟨a1, a2, a3, a4⟩ | ⟨j, v, e0, a1, a2, a3, a4, a5, a6, a7⟩
      · refine .inl ⟨by rw [hg, a1], ?_, fun v => ?_, ?_⟩
        · rw [Instr.findNow, hs]
          exact a2
        · rw [mput, if_neg hp, a3]
          rfl
        · rw [mdel, if_neg hp, a4]
      · refine .inr ⟨j + 1, v, e0, by rw [hg, a1], by simpa using a2, a3, a4, ?_, fun v' u' hv => ?_, ?_⟩
        · rw [Instr.findNow, hs]
          simp only
          rw [a5, show i + 1 + j = i + (j + 1) by omega]
        · rw [mput, if_neg hp]
          exact ⟨h1, h2, a6 v' u' hv⟩
        · rw [mdel, if_neg hp]
          exact ⟨h1, h2, a7⟩
end
theorem Rel.map {ρ : Rho} {h : H} {w : World} {i : Nat} {own : Bool} {k : IntKind} {ms : List (Int × V)} {l : Loc} (r : Rel ρ h w) (hi : h.obj i = some (.map own (mpE k ms))) (hl : ρ i = some l) :
    ∃ es clock, w.heap[l.b]? = some (.map es clock) ∧ MRel ρ k ms es.toList ∧ (∀ e ∈ es, e.born < clock) ∧ (es.toList.map (·.born)).Nodup := by
  obtain ⟨l', e1, es, clock, g1, g2, g3, g4, g5⟩ := r.obj i _ hi
  rw [hl] at e1
  injection e1 with e1
  subst e1
  exact ⟨es, clock, g1, MRel.of_obj (by simpa using g2) (fun j kv m a b => g5 j kv m a (by simpa using b)), g3, g4⟩
theorem set_map {ρ : Rho} {h : H} {w : World} {i : Nat} {k : IntKind} {ms ms' : List (Int × V)} {l : Loc} {es es' : Array MapEntry} {clock clock' : Nat} (r : Rel ρ h w) (hi : h.obj i = some (.map true (mpE k ms))) (hl : ρ i = some l) (hb : w.heap[l.b]? = some (.map es clock))
    (hm : MRel ρ k ms' es'.toList) (h1 : ∀ e ∈ es', e.born < clock') (h2 : (es'.toList.map (·.born)).Nodup) :
    Rel ρ (h.set i (.map true (mpE k ms'))) { w with heap := w.heap.setIfInBounds l.b (.map es' clock') } ∧ Since ρ h w ρ (h.set i (.map true (mpE k ms'))) { w with heap := w.heap.setIfInBounds l.b (.map es' clock') } := by
  have hlt := (Array.getElem?_eq_some_iff.1 hb).1
  have hother : ∀ b, b ≠ l.b → (w.heap.setIfInBounds l.b (.map es' clock'))[b]? = w.heap[b]? := fun b hne => by
    rw [Array.getElem?_setIfInBounds_ne (fun e => hne e.symm)]
  refine ⟨r.upd hi rfl hl hother ?_ rfl, Since.upd r hi rfl hl hother rfl rfl rfl rfl (by simp)⟩
  obtain ⟨a1, a2⟩ := hm.to_obj
  exact ⟨es', clock', by simp [hlt], by simpa using a1, h1, h2, fun j kv m a b => a2 j kv m a (by simpa using b)⟩
theorem nodup_set_born {es : List MapEntry} {j : Nat} {e : MapEntry} (he : es[j]? = some e) (u : Value) : (es.set j { e with val := u }).map (·.born) = es.map (·.born) := by
  rw [List.map_set]
  apply List.ext_getElem?
  intro i
  rw [List.getElem?_set]
  by_cases hij : j = i
  · subst hij
    simp [he]
    exact (List.getElem?_eq_some_iff.1 he).1
  · rw [if_neg hij]
theorem modify_set {es : Array MapEntry} {j : Nat} {e : MapEntry} (he : es.toList[j]? = some e) (f : MapEntry → MapEntry) : (es.modify j f).toList = es.toList.set j (f e) := by
  apply List.ext_getElem?
  intro i
  have he' : es[j]? = some e := by simpa using he
  rw [Array.getElem?_toList, Array.getElem?_modify, List.getElem?_set]
  by_cases hij : j = i
  · subst hij
    have := (Array.getElem?_eq_some_iff.1 he').1
    have e2 := (Array.getElem?_eq_some_iff.1 he').2
    simp [this, e2]
  · simp [hij]
theorem erase_toList {es : Array MapEntry} {j : Nat} (hj : j < es.size) : (es.eraseIdxIfInBounds j).toList = es.toList.eraseIdx j := by
  unfold Array.eraseIdxIfInBounds
  rw [dif_pos hj]
  simp
section
variable {P : Program} {t kt et : TypeId} {k : IntKind}
theorem run_mapUpdate {ρ : Rho} {h : H} {w : World} {i : Nat} {ms : List (Int × V)} {l : Loc} (ht : P.underlying t = some (.map kt et)) (hk : P.underlying kt = some (.int k)) (r : Rel ρ h w) (hi : h.obj i = some (.map true (mpE k ms))) (hl : ρ i = some l) (n : Int) {v : V} {u : Value} (hv : VRel ρ v u) :
    ∃ w', (Instr.mapUpdate t (.map (some l.b)) (.int k n) u).run P w = .ok () w' ∧ Rel ρ (h.set i (.map true (mpE k (mput ms n v)))) w' ∧ Since ρ h w ρ (h.set i (.map true (mpE k (mput ms n v)))) w' := by
  obtain ⟨es, clock, hb, hm, h1, h2⟩ := r.map hi hl
  have hkey : IsKey (.int k) (.int k n) := rfl
  rcases hm.find (n := n) 0 with ⟨a1, a2, a3, a4⟩ | ⟨j, v0, e, a1, a2, a3, a4, a5, a6, a7⟩
  · have hm' : MRel ρ k (mput ms n v) (es.push ⟨.int k n, u, clock⟩).toList := by
      rw [a3, Array.toList_push]
      clear a1 a2 a3 a4 h1 h2 hb hi
      revert hm
      generalize es.toList = l1
      intro hm
      induction ms generalizing l1 with
      | nil =>
        cases l1 with
        | nil => exact ⟨rfl, hv, trivial⟩
        | cons _ _ => exact hm.elim
      | cons p ms ih =>
        cases l1 with
        | nil => exact hm.elim
        | cons e l1 => exact ⟨hm.1, hm.2.1, ih l1 hm.2.2⟩
    obtain ⟨r1, s1⟩ := set_map (clock' := clock + 1) r hi hl hb hm' (fun e he => by
      rcases Array.mem_push.1 he with he | rfl
      · have := h1 e he
        omega
      · exact Nat.lt_succ_self _) (by
      rw [Array.toList_push, List.map_append, List.nodup_append]
      refine ⟨h2, by simp, fun x hx y hy e => ?_⟩
      obtain ⟨m, hm1, rfl⟩ := List.mem_map.1 hx
      have hy : y = clock := by simpa using hy
      have := h1 m (Array.mem_toList_iff.1 hm1)
      omega)
    refine ⟨_, ?_, r1, s1⟩
    simp [Instr.mapUpdate, run_underlying ht, MapKept.run_getObj_map hb, run_checkKey hk hkey, run_findKey hk a2, MapKept.run_setObj_map _ hb, Result.andThen]
  · rw [Nat.zero_add] at a5
    have hej : es[j]? = some e := by simpa using a2
    have hmod := modify_set (es := es) a2 (fun e => { e with key := .int k n, val := u })
    have hf : ({ e with key := .int k n, val := u } : MapEntry) = { e with val := u } := by rw [← a3]
    rw [hf] at hmod
    have hm' : MRel ρ k (mput ms n v) (es.modify j fun e => { e with key := .int k n, val := u }).toList := by
      rw [hmod]
      exact a6 v u hv
    obtain ⟨r1, s1⟩ := set_map (clock' := clock) r hi hl hb hm' (fun x hx => by
      have hx : x ∈ (es.modify j fun e => { e with key := .int k n, val := u }).toList := Array.mem_toList_iff.2 hx
      rw [hmod] at hx
      rcases List.mem_or_eq_of_mem_set hx with hx | rfl
      · exact h1 x (Array.mem_toList_iff.1 hx)
      · exact h1 e (Array.mem_of_getElem? hej)) (by
      rw [hmod, nodup_set_born a2]
      exact h2)
    refine ⟨_, ?_, r1, s1⟩
    simp [Instr.mapUpdate, run_underlying ht, MapKept.run_getObj_map hb, run_checkKey hk hkey, run_findKey hk a5, hej, a3, run_keyThatStays hkey, MapKept.run_setObj_map _ hb, Result.andThen]
theorem run_delete {ρ : Rho} {h : H} {w : World} {i : Nat} {ms : List (Int × V)} {l : Loc} {ty kt' : TypeId} (ht : P.underlying t = some (.map kt et)) (hk : P.underlying kt = some (.int k)) (r : Rel ρ h w) (hi : h.obj i = some (.map true (mpE k ms))) (hl : ρ i = some l) (n : Int) :
    ∃ w', (Builtin.delete_ #[t, kt'] ty #[.map (some l.b), .int k n]).run P w = .ok (.tuple #[]) w' ∧ Rel ρ (h.set i (.map true (mpE k (mdel ms n)))) w' ∧ Since ρ h w ρ (h.set i (.map true (mpE k (mdel ms n)))) w' := by
  obtain ⟨es, clock, hb, hm, h1, h2⟩ := r.map hi hl
  have hkey : IsKey (.int k) (.int k n) := rfl
  rcases hm.find (n := n) 0 with ⟨a1, a2, a3, a4⟩ | ⟨j, v0, e, a1, a2, a3, a4, a5, a6, a7⟩
  · obtain ⟨r1, s1⟩ := set_map (ms' := mdel ms n) (clock' := clock) r hi hl hb (by rw [a4]; exact hm) h1 h2
    refine ⟨_, ?_, r1, s1⟩
    simp [Builtin.delete_, run_underlying ht, MapKept.run_getObj_map hb, run_checkKey hk hkey, run_findKey hk a2, MapKept.run_setObj_map _ hb, Result.andThen]
  · rw [Nat.zero_add] at a5
    have hej : es[j]? = some e := by simpa using a2
    have hjs := (Array.getElem?_eq_some_iff.1 hej).1
    have he := erase_toList hjs
    obtain ⟨r1, s1⟩ := set_map (es' := es.eraseIdxIfInBounds j) (clock' := clock) r hi hl hb (by rw [he]; exact a7) (fun x hx => by
      have hx : x ∈ (es.eraseIdxIfInBounds j).toList := Array.mem_toList_iff.2 hx
      rw [he] at hx
      exact h1 x (Array.mem_toList_iff.1 ((List.eraseIdx_sublist _ _).subset hx))) (by
      rw [he]
      exact h2.sublist ((List.eraseIdx_sublist _ _).map _))
    refine ⟨_, ?_, r1, s1⟩
    simp [Builtin.delete_, run_underlying ht, MapKept.run_getObj_map hb, run_checkKey hk hkey, run_findKey hk a5, MapKept.run_setObj_map _ hb, Result.andThen]
theorem run_lookup {ρ : Rho} {h : H} {w : World} {i : Nat} {own : Bool} {ms : List (Int × V)} {l : Loc} (ht : P.underlying t = some (.map kt et)) (hk : P.underlying kt = some (.int k)) (r : Rel ρ h w) (hi : h.obj i = some (.map own (mpE k ms))) (hl : ρ i = some l) (n : Int) {z : V} {uz : Value} (hz : VRel ρ z uz) (hzr : (zeroValue et).run P w = .ok uz w) (ok : Bool) :
    ∃ u, (Instr.lookup t (.map (some l.b)) (.int k n) ok).run P w = .ok (if ok then .tuple #[u, .bool (mget ms n).isSome] else u) w ∧ VRel ρ ((mget ms n).getD z) u := by
  obtain ⟨es, clock, hb, hm, h1, h2⟩ := r.map hi hl
  have hkey : IsKey (.int k) (.int k n) := rfl
  rcases hm.find (n := n) 0 with ⟨a1, a2, a3, a4⟩ | ⟨j, v0, e, a1, a2, a3, a4, a5, a6, a7⟩
  · refine ⟨uz, ?_, by rw [a1]; exact hz⟩
    simp [Instr.lookup, run_underlying ht, MapKept.run_getObj_map hb, run_checkKey hk hkey, run_findKey hk a2, hzr, a1, Result.andThen]
  · refine ⟨e.val, ?_, by rw [a1]; exact a4⟩
    simp [Instr.lookup, run_underlying ht, MapKept.run_getObj_map hb, run_checkKey hk hkey, run_findKey hk a5, a1, Result.andThen]
theorem run_lookup_nil {w : World} (ht : P.underlying t = some (.map kt et)) (hk : P.underlying kt = some (.int k)) (n : Int) {uz : Value} (hzr : (zeroValue et).run P w = .ok uz w) (ok : Bool) :
    (Instr.lookup t (.map none) (.int k n) ok).run P w = .ok (if ok then .tuple #[uz, .bool false] else uz) w := by
  have hkey : IsKey (.int k) (.int k n) := rfl
  have a2 : Instr.findNow (.int k) (.int k n) [] 0 = some none := rfl
  simp [Instr.lookup, run_underlying ht, run_checkKey hk hkey, run_findKey hk a2, hzr, Result.andThen]
end
end Go.Ab
