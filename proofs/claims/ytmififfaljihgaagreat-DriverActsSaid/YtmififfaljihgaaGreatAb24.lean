/- Maps with integers for keys: an entry is found first, and written later. -/
import Derived.Test.YtmififfaljihgaaGreatAb22
import Derived.WideKeyEntry
set_option linter.unusedVariables false
set_option linter.unusedSimpArgs false
namespace Go.Ab
open Go Go.MapKept
theorem MRel.find_set {ρ : Rho} {k : IntKind} {n : Int} : ∀ {ms : List (Int × V)} {es : List MapEntry} (i : Nat), MRel ρ k ms es →
    ∀ j u, Instr.findNow (.int k) (.int k n) es i = some (some (i + j, u)) → (ms[j]?).map (·.1) = some n ∧ (∀ v, ms.set j (n, v) = mput ms n v)
  | [], [], i, _ => fun j u e => by simp [Instr.findNow] at e
  | [], _ :: _, _, h => h.elim
  | _ :: _, [], _, h => h.elim
  | p :: ms, e :: es, i, h => by
    obtain ⟨h1, h2, h3⟩ := h
    intro j u e1
    by_cases hp : p.1 = n
    · have hs : Instr.findNow (.int k) (.int k n) (e :: es) i = some (some (i, e.val)) := by
        rw [Instr.findNow, h1]
        simp [Instr.sameNow, hp]
      rw [hs] at e1
      injection e1 with e1
      injection e1 with e1
      injection e1 with e1 _
      have : j = 0 := by omega
      subst this
      exact ⟨by simp [hp], fun v => by rw [mput, if_pos hp, List.set_cons_zero, hp]⟩
    · have hs : Instr.findNow (.int k) (.int k n) (e :: es) i = Instr.findNow (.int k) (.int k n) es (i + 1) := by
        have : Instr.sameNow (.int k) (.int k n) e.key = some false := by
          rw [h1]
          simp [Instr.sameNow]
          exact fun q => hp q.symm
        rw [Instr.findNow, this]
      rw [hs] at e1
      rcases h3.find (n := n) (i + 1) with ⟨_, b2, _, _⟩ | ⟨j2, v2, e2, _, _, _, _, b2, _, _⟩
      · rw [b2] at e1
        cases e1
      · have e3 := e1
        rw [b2] at e3
        injection e3 with e3
        injection e3 with e3
        injection e3 with e3 _
        have : j = j2 + 1 := by omega
        subst this
        obtain ⟨a1, a2⟩ := h3.find_set (n := n) (i + 1) j2 u (by rw [e1, show i + 1 + j2 = i + (j2 + 1) by omega])
        exact ⟨by simpa using a1, fun v => by rw [mput, if_neg hp, List.set_cons_succ, a2]⟩
theorem set_map' {ρ : Rho} {h : H} {w : World} {i : Nat} {k : IntKind} {ms' : List (Int × V)} {l : Loc} {es es' : Array MapEntry} {clock clock' : Nat} {ob : Ab.Obj} (r : Rel ρ h w) (hi : h.obj i = some ob) (ho : ob.own = true) (hl : ρ i = some l) (hb : w.heap[l.b]? = some (.map es clock))
    (hm : MRel ρ k ms' es'.toList) (h1 : ∀ e ∈ es', e.born < clock') (h2 : (es'.toList.map (·.born)).Nodup) :
    Rel ρ (h.set i (.map true (mpE k ms'))) { w with heap := w.heap.setIfInBounds l.b (.map es' clock') } ∧ Since ρ h w ρ (h.set i (.map true (mpE k ms'))) { w with heap := w.heap.setIfInBounds l.b (.map es' clock') } := by
  have hlt := (Array.getElem?_eq_some_iff.1 hb).1
  have hother : ∀ b, b ≠ l.b → (w.heap.setIfInBounds l.b (.map es' clock'))[b]? = w.heap[b]? := fun b hne => by
    rw [Array.getElem?_setIfInBounds_ne (fun e => hne e.symm)]
  refine ⟨r.upd hi ho hl hother ?_ rfl, Since.upd r hi ho hl hother rfl rfl rfl rfl (by simp)⟩
  obtain ⟨a1, a2⟩ := hm.to_obj
  exact ⟨es', clock', by simp [hlt], by simpa using a1, h1, h2, fun j kv m a b => a2 j kv m a (by simpa using b)⟩
theorem set_mapb2 {ρ : Rho} {h : H} {w : World} {i : Nat} {k : IntKind} {ms' : List (Int × V)} {l : Loc} {es es' : Array MapEntry} {bs' : List Nat} {cl0 cl : Nat} {ob : Ab.Obj} (r : Rel ρ h w) (hi : h.obj i = some ob) (ho : ob.own = true) (hl : ρ i = some l) (hb : w.heap[l.b]? = some (.map es cl0))
    (hm : MRel ρ k ms' es'.toList) (h1 : ∀ e ∈ es', e.born < cl) (h2 : es'.toList.map (·.born) = bs') (h3 : bs'.Nodup) :
    Rel ρ (h.set i (.mapb (mpE k ms') bs' cl)) { w with heap := w.heap.setIfInBounds l.b (.map es' cl) } ∧ Since ρ h w ρ (h.set i (.mapb (mpE k ms') bs' cl)) { w with heap := w.heap.setIfInBounds l.b (.map es' cl) } := by
  have hlt := (Array.getElem?_eq_some_iff.1 hb).1
  have hother : ∀ b, b ≠ l.b → (w.heap.setIfInBounds l.b (.map es' cl))[b]? = w.heap[b]? := fun b hne => by
    rw [Array.getElem?_setIfInBounds_ne (fun e => hne e.symm)]
  refine ⟨r.upd hi ho hl hother ?_ rfl, Since.upd r hi ho hl hother rfl rfl rfl rfl (by simp)⟩
  obtain ⟨a1, a2⟩ := hm.to_obj
  exact ⟨es', by simp [hlt], by simpa using a1, h1, h2, h3, fun j kv m a b => a2 j kv m a (by simpa using b)⟩
theorem MRel.snoc {ρ : Rho} {k : IntKind} {n : Int} {v : V} {u : Value} {b : Nat} (hv : VRel ρ v u) : ∀ {ms : List (Int × V)} {es : List MapEntry}, MRel ρ k ms es → MRel ρ k (ms ++ [(n, v)]) (es ++ [⟨.int k n, u, b⟩])
  | [], [], _ => ⟨rfl, hv, trivial⟩
  | [], _ :: _, h => h.elim
  | _ :: _, [], h => h.elim
  | p :: ms, e :: es, h => ⟨h.1, h.2.1, h.2.2.snoc hv⟩
theorem MRel.setv {ρ : Rho} {k : IntKind} {n : Int} {v : V} {u : Value} (hv : VRel ρ v u) : ∀ {ms : List (Int × V)} {es : List MapEntry} {j : Nat} {e : MapEntry}, MRel ρ k ms es → es[j]? = some e → (ms[j]?).map (·.1) = some n → MRel ρ k (ms.set j (n, v)) (es.set j { e with val := u })
  | [], [], j, e, _, he, _ => by simp at he
  | [], _ :: _, _, _, h, _, _ => h.elim
  | _ :: _, [], _, _, h, _, _ => h.elim
  | p :: ms, x :: es, 0, e, h, he, hn => by
    have he : x = e := by simpa using he
    have hn : p.1 = n := by simpa using hn
    subst he
    rw [List.set_cons_zero, List.set_cons_zero]
    exact ⟨by rw [← hn]; exact h.1, hv, h.2.2⟩
  | p :: ms, x :: es, j + 1, e, h, he, hn => by
    rw [List.set_cons_succ, List.set_cons_succ]
    exact ⟨h.1, h.2.1, h.2.2.setv hv (by simpa using he) (by simpa using hn)⟩
section
variable {P : Program} {t kt et : TypeId} {k : IntKind}
theorem run_mapEntry {ρ : Rho} {h : H} {w : World} {i : Nat} {ms : List (Int × V)} {l : Loc} (ht : P.underlying t = some (.map kt et)) (hk : P.underlying kt = some (.int k)) (r : Rel ρ h w) (hi : h.obj i = some (.map true (mpE k ms))) (hl : ρ i = some l) (n : Int) {uz : Value} (hzr : (zeroValue et).run P w = .ok uz w) :
    ∃ (ms' : List (Int × V)) (bs : List Nat) (cl p b : Nat) (u : Value) (w' : World), bs.length = ms'.length ∧ bs.Nodup ∧ (∀ x ∈ bs, x < cl) ∧ (ms'[p]?).map (·.1) = some n ∧ bs[p]? = some b ∧ (∀ v, ms'.set p (n, v) = mput ms n v) ∧
      (Instr.mapEntry t (.map (some l.b)) (.int k n)).run P w = .ok (.tuple #[u, .int .i64 (b : Int)]) w' ∧ Rel ρ (h.set i (.mapb (mpE k ms') bs cl)) w' ∧ Since ρ h w ρ (h.set i (.mapb (mpE k ms') bs cl)) w' := by
  obtain ⟨es, clock, hb, hm, h1, h2⟩ := r.map hi hl
  have hkey : IsKey (.int k) (.int k n) := rfl
  have hl0 := hm.len
  rcases hm.find (n := n) 0 with ⟨a1, a2, a3, a4⟩ | ⟨j, v0, e, a1, a2, a3, a4, a5, a6, a7⟩
  · have hm' : MRel ρ k (ms ++ [(n, .undef)]) (es.push ⟨.int k n, uz, clock⟩).toList := by
      rw [Array.toList_push]
      exact hm.snoc (.undef uz)
    have hbs : (es.push ⟨.int k n, uz, clock⟩).toList.map (·.born) = es.toList.map (·.born) ++ [clock] := by
      rw [Array.toList_push, List.map_append]
      rfl
    have hnd : (es.toList.map (·.born) ++ [clock]).Nodup := by
      rw [List.nodup_append]
      refine ⟨h2, by simp, fun x hx y hy e => ?_⟩
      obtain ⟨m, hm1, rfl⟩ := List.mem_map.1 hx
      have hy : y = clock := by simpa using hy
      have := h1 m (Array.mem_toList_iff.1 hm1)
      omega
    obtain ⟨r1, s1⟩ := set_mapb2 (es' := es.push ⟨.int k n, uz, clock⟩) (bs' := es.toList.map (·.born) ++ [clock]) (cl := clock + 1) r hi rfl hl hb hm' (fun e he => by
        rcases Array.mem_push.1 he with he | rfl
        · have := h1 e he
          omega
        · exact Nat.lt_succ_self _) hbs hnd
    refine ⟨ms ++ [(n, .undef)], es.toList.map (·.born) ++ [clock], clock + 1, ms.length, clock, uz, _, ?_, hnd, fun x hx => ?_, ?_, ?_, fun v => ?_, ?_, r1, s1⟩
    · simp only [List.length_append, List.length_map, hl0, List.length_cons, List.length_nil]
    · rcases List.mem_append.1 hx with hx | hx
      · obtain ⟨m, hm1, rfl⟩ := List.mem_map.1 hx
        have := h1 m (Array.mem_toList_iff.1 hm1)
        omega
      · have : x = clock := by simpa using hx
        omega
    · simp
    · rw [List.getElem?_append_right (by rw [List.length_map, hl0]; exact Nat.le_refl _), List.length_map, hl0, Nat.sub_self]
      rfl
    · rw [a3, List.set_append_right _ _ (Nat.le_refl _), Nat.sub_self]
      rfl
    · simp [Instr.mapEntry, run_underlying ht, MapKept.run_getObj_map hb, run_checkKey hk hkey, run_findKey hk a2, hzr, MapKept.run_setObj_map _ hb, Result.andThen, goInt]
  · obtain ⟨f1, f2⟩ := hm.find_set (n := n) 0 j _ a5
    rw [Nat.zero_add] at a5
    have hej : es[j]? = some e := by simpa using a2
    have hmod := modify_set (es := es) a2 (fun e => { e with key := .int k n })
    have hf : ({ e with key := .int k n } : MapEntry) = e := by rw [← a3]
    rw [hf] at hmod
    have hsame : es.modify j (fun e => { e with key := .int k n }) = es := by
      apply Array.ext'
      rw [hmod]
      exact WideElems.set_self _ _ _ a2
    have hbs : es.toList.map (·.born) = es.toList.map (·.born) := rfl
    obtain ⟨r1, s1⟩ := set_mapb (es' := es) (bs' := es.toList.map (·.born)) r hi rfl hl hb hm h1 rfl h2
    refine ⟨ms, es.toList.map (·.born), clock, j, e.born, e.val, _, ?_, h2, fun x hx => ?_, f1, ?_, f2, ?_, r1, s1⟩
    · rw [List.length_map]
      exact hl0
    · obtain ⟨m, hm1, rfl⟩ := List.mem_map.1 hx
      exact h1 m (Array.mem_toList_iff.1 hm1)
    · rw [List.getElem?_map, a2]
      rfl
    · simp [Instr.mapEntry, run_underlying ht, MapKept.run_getObj_map hb, run_checkKey hk hkey, run_findKey hk a5, hej, a3, run_keyThatStays hkey, hsame, MapKept.run_setObj_map _ hb, Result.andThen, goInt]
theorem run_entryStore {ρ : Rho} {h : H} {w : World} {i p b cl : Nat} {n : Int} {ms : List (Int × V)} {bs : List Nat} {l : Loc} {k2 : IntKind} (r : Rel ρ h w) (hi : h.obj i = some (.mapb (mpE k ms) bs cl)) (hl : ρ i = some l) (hp : bs[p]? = some b) (hn : (ms[p]?).map (·.1) = some n) {v : V} {u : Value} (hv : VRel ρ v u) :
    ∃ w', (Instr.entryStore t (.map (some l.b)) (.int k2 (b : Int)) u).run P w = .ok () w' ∧ Rel ρ (h.set i (.map true (mpE k (ms.set p (n, v))))) w' ∧ Since ρ h w ρ (h.set i (.map true (mpE k (ms.set p (n, v))))) w' := by
  obtain ⟨es, hb, hm, h1, h2, h3⟩ := r.mapb hi hl
  have hpe : ∃ e, es.toList[p]? = some e ∧ e.born = b := by
    rw [← h2, List.getElem?_map] at hp
    cases hx : es.toList[p]? with
    | none => rw [hx] at hp; cases hp
    | some e =>
      rw [hx] at hp
      injection hp with hp
      exact ⟨e, rfl, hp⟩
  obtain ⟨e, hpe, rfl⟩ := hpe
  have hmod := modify_set (es := es) hpe (fun e => { e with val := u })
  have hnd : (es.toList.map (·.born)).Nodup := by rw [h2]; exact h3
  obtain ⟨r1, s1⟩ := set_map' (es' := es.modify p fun e => { e with val := u }) (clock' := cl) (ms' := ms.set p (n, v)) r hi rfl hl hb (by rw [hmod]; exact hm.setv hv hpe hn) (fun x hx => by
    have hx : x ∈ (es.modify p fun e => { e with val := u }).toList := Array.mem_toList_iff.2 hx
    rw [hmod] at hx
    rcases List.mem_or_eq_of_mem_set hx with hx | rfl
    · exact h1 x (Array.mem_toList_iff.1 hx)
    · exact h1 e (Array.mem_toList_iff.1 (List.mem_of_getElem? hpe))) (by
    rw [hmod, nodup_set_born hpe]
    exact hnd)
  have hidx : es.findIdx? (fun x => ((x.born : Nat) : Int) == ((e.born : Nat) : Int)) = some p := by
    rw [WideElems.findIdx_arr]
    exact WideElems.findIdx_born hnd hpe
  refine ⟨_, ?_, r1, s1⟩
  simp [Instr.entryStore, MapKept.run_getObj_map hb, asInt, asIntOf, hidx, MapKept.run_setObj_map _ hb, Result.andThen]
end
end Go.Ab
