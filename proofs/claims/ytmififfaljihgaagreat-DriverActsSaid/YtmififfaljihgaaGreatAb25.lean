/- Maps with pairs of integers for keys: what the model's map operations do. -/
import Derived.Test.YtmififfaljihgaaGreatAb22
import Derived.WideKeyPair
set_option linter.unusedVariables false
set_option linter.unusedSimpArgs false
namespace Go.Ab
open Go Go.MapKept Go.WideMaps
def pkv (k : IntKind) (n : Int × Int) : Value := .agg #[.int k n.1, .int k n.2]
theorem pk_inv {ρ : Rho} {k : IntKind} {n : Int × Int} {u : Value} (h : VRel ρ (pk k n) u) : u = pkv k n := by
  unfold pk at h
  cases h with
  | agg cs us h1 hl hc =>
    match us, hl with
    | [a, b], _ =>
      have e1 := (hc 0 _ _ rfl rfl).int_inv
      have e2 := (hc 1 _ _ rfl rfl).int_inv
      rw [e1, e2]
      rfl
theorem pk_of (ρ : Rho) (k : IntKind) (n : Int × Int) : VRel ρ (pk k n) (pkv k n) := by
  refine .agg [.int k n.1, .int k n.2] [.int k n.1, .int k n.2] (fun u hu => ?_) rfl (fun j c u h1 h2 => ?_)
  · simp at hu
    rcases hu with rfl | rfl <;> rfl
  · match j with
    | 0 => cases h1; cases h2; exact .int _ _
    | 1 => cases h1; cases h2; exact .int _ _
    | j + 2 => simp at h1
theorem pkv_inj {k : IntKind} {a b : Int × Int} (h : pkv k a = pkv k b) : a = b := by
  unfold pkv at h
  injection h with h
  have h := congrArg Array.toList h
  simp at h
  exact Prod.ext h.1 h.2
section
variable {α : Type}
theorem pget_none {ms : List ((Int × Int) × α)} {n : Int × Int} (h : ∀ p ∈ ms, p.1 ≠ n) : pget ms n = none := by
  unfold pget
  rw [List.find?_eq_none.2 (fun p hp => by simpa using h p hp)]
  rfl
theorem pget_at : ∀ {ms : List ((Int × Int) × α)} {n : Int × Int} {v : α} {j : Nat}, (ms.map (·.1)).Nodup → ms[j]? = some (n, v) → pget ms n = some v
  | [], _, _, _, _, h => by simp at h
  | p :: ms, n, v, 0, _, h => by
    simp at h
    simp [pget, h]
  | p :: ms, n, v, j + 1, hn, h => by
    simp at h
    rw [List.map_cons, List.nodup_cons] at hn
    have hne : p.1 ≠ n := fun e => hn.1 (List.mem_map.2 ⟨(n, v), List.mem_of_getElem? h, e.symm⟩)
    have := pget_at hn.2 h
    unfold pget at this ⊢
    rw [List.find?_cons_of_neg (by simpa using hne)]
    exact this
theorem pput_none {ms : List ((Int × Int) × α)} {n : Int × Int} (h : ∀ p ∈ ms, p.1 ≠ n) (v : α) : pput ms n v = ms ++ [(n, v)] := by
  induction ms with
  | nil => rfl
  | cons p ms ih => rw [pput, if_neg (h p (List.mem_cons_self ..)), ih (fun q hq => h q (List.mem_cons_of_mem _ hq))]; rfl
theorem pput_at : ∀ {ms : List ((Int × Int) × α)} {n : Int × Int} {v0 : α} {j : Nat} (v : α), (ms.map (·.1)).Nodup → ms[j]? = some (n, v0) → pput ms n v = ms.set j (n, v)
  | [], _, _, _, _, _, h => by simp at h
  | p :: ms, n, v0, 0, v, _, h => by
    simp at h
    rw [pput, if_pos (by rw [h])]
    simp [h]
  | p :: ms, n, v0, j + 1, v, hn, h => by
    simp at h
    rw [List.map_cons, List.nodup_cons] at hn
    have hne : p.1 ≠ n := fun e => hn.1 (List.mem_map.2 ⟨(n, v0), List.mem_of_getElem? h, e.symm⟩)
    rw [pput, if_neg hne, pput_at v hn.2 h]
    rfl
end
theorem TOk.arrKey {P : Program} {T : TT} (hT : TOk P T) {t e : Nat} {k : IntKind} (ht : (T.at_ t).d = .arr 2 e) (he : (T.at_ e).d = .int k) (h1 : (T.at_ t).size = 2) (h2 : (T.at_ e).size = 1) : ArrKey P t e 2 := by
  obtain ⟨i, z, a1, a2, _⟩ := (hT t (by simp [has, ht])).info
  obtain ⟨i', z', b1, b2, _⟩ := (hT e (by simp [has, he])).info
  exact ⟨hT.of_arr ht, by unfold Program.plainKey; rw [hT.of_int he], by simp [Program.cellsOf, b1, b2, h2], by simp [Program.cellsOf, a1, a2, h1]⟩
/-- entry by entry -/
def PRel (ρ : Rho) (k : IntKind) (ms : List ((Int × Int) × V)) (es : List MapEntry) : Prop := es.length = ms.length ∧ ∀ (j : Nat) (p : (Int × Int) × V) (e : MapEntry), ms[j]? = some p → es[j]? = some e → e.key = pkv k p.1 ∧ VRel ρ p.2 e.val
theorem Rel.pmap {ρ : Rho} {h : H} {w : World} {i : Nat} {own : Bool} {k : IntKind} {ms : List ((Int × Int) × V)} {l : Loc} (r : Rel ρ h w) (hi : h.obj i = some (.map own (mpP k ms))) (hl : ρ i = some l) :
    ∃ es clock, w.heap[l.b]? = some (.map es clock) ∧ PRel ρ k ms es.toList ∧ (∀ e ∈ es, e.born < clock) ∧ (es.toList.map (·.born)).Nodup := by
  obtain ⟨l', e1, es, clock, g1, g2, g3, g4, g5⟩ := r.obj i _ hi
  rw [hl] at e1
  injection e1 with e1
  subst e1
  refine ⟨es, clock, g1, ⟨by simpa [mpP] using g2, fun j p e a b => ?_⟩, g3, g4⟩
  obtain ⟨a1, a2⟩ := g5 j (pk k p.1, p.2) e (by simp [mpP, a]) (by simpa using b)
  exact ⟨pk_inv a1, a2⟩
theorem set_pmap {ρ : Rho} {h : H} {w : World} {i : Nat} {k : IntKind} {ms ms' : List ((Int × Int) × V)} {l : Loc} {es es' : Array MapEntry} {clock clock' : Nat} (r : Rel ρ h w) (hi : h.obj i = some (.map true (mpP k ms))) (hl : ρ i = some l) (hb : w.heap[l.b]? = some (.map es clock))
    (hm : PRel ρ k ms' es'.toList) (h1 : ∀ e ∈ es', e.born < clock') (h2 : (es'.toList.map (·.born)).Nodup) :
    Rel ρ (h.set i (.map true (mpP k ms'))) { w with heap := w.heap.setIfInBounds l.b (.map es' clock') } ∧ Since ρ h w ρ (h.set i (.map true (mpP k ms'))) { w with heap := w.heap.setIfInBounds l.b (.map es' clock') } := by
  have hlt := (Array.getElem?_eq_some_iff.1 hb).1
  have hother : ∀ b, b ≠ l.b → (w.heap.setIfInBounds l.b (.map es' clock'))[b]? = w.heap[b]? := fun b hne => by
    rw [Array.getElem?_setIfInBounds_ne (fun e => hne e.symm)]
  refine ⟨r.upd hi rfl hl hother ?_ rfl, Since.upd r hi rfl hl hother rfl rfl rfl rfl (by simp)⟩
  obtain ⟨a1, a2⟩ := hm
  refine ⟨es', clock', by simp [hlt], by simpa [mpP] using a1, h1, h2, fun j kv m a b => ?_⟩
  obtain ⟨p, hp, rfl⟩ : ∃ p, ms'[j]? = some p ∧ (pk k p.1, p.2) = kv := by
    simp only [mpP, List.getElem?_map, Option.map_eq_some_iff] at a
    exact a
  obtain ⟨b1, b2⟩ := a2 j p m hp (by simpa using b)
  exact ⟨by rw [b1]; exact pk_of _ _ _, b2⟩
section
variable {P : Program} {t kt et e2 : TypeId} {k : IntKind}
theorem PRel.find {ρ : Rho} {w : World} (A : ArrKey P kt e2 2) (he : P.underlying e2 = some (.int k)) (hsz : ∃ m, P.types.size = m + 1) {ms : List ((Int × Int) × V)} {es : List MapEntry} (hm : PRel ρ k ms es) (hn : (ms.map (·.1)).Nodup) (hw : ∀ p ∈ ms, pwf k p.1) {n : Int × Int} (wn : pwf k n) :
    (∃ kl, Go.keyOf P kt (pkv k n) = some kl) ∧ (((Instr.findKey kt (pkv k n) es).run P w = .ok none w ∧ pget ms n = none ∧ ∀ v, pput ms n v = ms ++ [(n, v)]) ∨
    ∃ j v e, (Instr.findKey kt (pkv k n) es).run P w = .ok (some (j, e.val)) w ∧ es[j]? = some e ∧ e.key = pkv k n ∧ VRel ρ v e.val ∧ pget ms n = some v ∧ ∀ v', pput ms n v' = ms.set j (n, v')) := by
  have hk : ∀ {m : Int × Int}, pwf k m → Go.keyOf P kt (pkv k m) = some (.string (keyBytes [.int k m.1, .int k m.2])) := fun q => keyOf_pair A he hsz q.1 q.2
  have hks : ∀ e ∈ es, ∃ l, Go.keyOf P kt e.key = some l := fun e hh => by
    obtain ⟨j, hj, rfl⟩ := List.getElem_of_mem hh
    have hj2 : j < ms.length := by rw [← hm.1]; exact hj
    obtain ⟨b1, b2⟩ := hm.2 j ms[j] es[j] (List.getElem?_eq_getElem hj2) (List.getElem?_eq_getElem hj)
    exact ⟨_, by rw [b1]; exact hk (hw _ (List.getElem_mem hj2))⟩
  refine ⟨⟨_, hk wn⟩, ?_⟩
  rcases A.law.find w (hk wn) es hks with ⟨h1, h2⟩ | ⟨j, e, h1, h2, h3⟩
  · have hne : ∀ p ∈ ms, p.1 ≠ n := fun p hp q => by
      obtain ⟨j, hj, rfl⟩ := List.getElem_of_mem hp
      have hj2 : j < es.length := by rw [hm.1]; exact hj
      obtain ⟨b1, b2⟩ := hm.2 j ms[j] es[j] (List.getElem?_eq_getElem hj) (List.getElem?_eq_getElem hj2)
      exact h2 _ (List.getElem_mem hj2) (by rw [b1, q])
    exact .inl ⟨h1, pget_none hne, pput_none hne⟩
  · have hj : j < es.length := (List.getElem?_eq_some_iff.1 h2).1
    have hj2 : j < ms.length := by rw [← hm.1]; exact hj
    obtain ⟨b1, b2⟩ := hm.2 j ms[j] e (List.getElem?_eq_getElem hj2) h2
    have hkey : ms[j].1 = n := pkv_inj (by rw [← b1, h3])
    have hat : ms[j]? = some (n, ms[j].2) := by rw [List.getElem?_eq_getElem hj2, ← hkey]
    exact .inr ⟨j, ms[j].2, e, h1, h2, h3, b2, pget_at hn hat, fun v' => pput_at v' hn hat⟩
theorem run_lookup_p {ρ : Rho} {h : H} {w : World} {i : Nat} {own : Bool} {ms : List ((Int × Int) × V)} {l : Loc} (ht : P.underlying t = some (.map kt et)) (A : ArrKey P kt e2 2) (he : P.underlying e2 = some (.int k)) (hsz : ∃ m, P.types.size = m + 1) (r : Rel ρ h w) (hi : h.obj i = some (.map own (mpP k ms))) (hl : ρ i = some l) (hn : (ms.map (·.1)).Nodup) (hw : ∀ p ∈ ms, pwf k p.1) {n : Int × Int} (wn : pwf k n) {z : V} {uz : Value} (hz : VRel ρ z uz) (hzr : (zeroValue et).run P w = .ok uz w) (ok : Bool) :
    ∃ u, (Instr.lookup t (.map (some l.b)) (pkv k n) ok).run P w = .ok (if ok then .tuple #[u, .bool (pget ms n).isSome] else u) w ∧ VRel ρ ((pget ms n).getD z) u := by
  obtain ⟨es, clock, hb, hm, h1, h2⟩ := r.pmap hi hl
  obtain ⟨⟨kl, hkl⟩, hf⟩ := hm.find (w := w) A he hsz hn hw wn
  rcases hf with ⟨a1, a2, a3⟩ | ⟨j, v, e, a1, a2, a3, a4, a5, a6⟩
  · refine ⟨uz, ?_, by rw [a2]; exact hz⟩
    simp [Instr.lookup, run_underlying ht, MapKept.run_getObj_map hb, A.law.check w _ hkl, a1, hzr, a2, Result.andThen]
  · refine ⟨e.val, ?_, by rw [a5]; exact a4⟩
    simp [Instr.lookup, run_underlying ht, MapKept.run_getObj_map hb, A.law.check w _ hkl, a1, a5, Result.andThen]
theorem run_mapUpdate_p {ρ : Rho} {h : H} {w : World} {i : Nat} {ms : List ((Int × Int) × V)} {l : Loc} (ht : P.underlying t = some (.map kt et)) (A : ArrKey P kt e2 2) (he : P.underlying e2 = some (.int k)) (hsz : ∃ m, P.types.size = m + 1) (r : Rel ρ h w) (hi : h.obj i = some (.map true (mpP k ms))) (hl : ρ i = some l) (hn : (ms.map (·.1)).Nodup) (hw : ∀ p ∈ ms, pwf k p.1) {n : Int × Int} (wn : pwf k n) {v : V} {u : Value} (hv : VRel ρ v u) :
    ∃ w', (Instr.mapUpdate t (.map (some l.b)) (pkv k n) u).run P w = .ok () w' ∧ Rel ρ (h.set i (.map true (mpP k (pput ms n v)))) w' ∧ Since ρ h w ρ (h.set i (.map true (mpP k (pput ms n v)))) w' := by
  obtain ⟨es, clock, hb, hm, h1, h2⟩ := r.pmap hi hl
  obtain ⟨⟨kl, hkl⟩, hf⟩ := hm.find (w := w) A he hsz hn hw wn
  rcases hf with ⟨a1, a2, a3⟩ | ⟨j, v0, e, a1, a2, a3, a4, a5, a6⟩
  · have hm' : PRel ρ k (pput ms n v) (es.push ⟨pkv k n, u, clock⟩).toList := by
      rw [a3, Array.toList_push]
      refine ⟨by simp [hm.1], fun j p e b1 b2 => ?_⟩
      rw [List.getElem?_append] at b1 b2
      have hl := hm.1
      by_cases hj : j < ms.length
      · rw [if_pos hj] at b1
        rw [if_pos (by omega)] at b2
        exact hm.2 j p e b1 b2
      · rw [if_neg hj] at b1
        rw [if_neg (by omega), hl] at b2
        cases hq : j - ms.length with
        | zero =>
          rw [hq] at b1 b2
          simp at b1 b2
          subst b1 b2
          exact ⟨rfl, hv⟩
        | succ q =>
          rw [hq] at b1
          simp at b1
    obtain ⟨r1, s1⟩ := set_pmap (clock' := clock + 1) r hi hl hb hm' (fun e he => by
      rcases Array.mem_push.1 he with he | rfl
      · have := h1 e he
        omega
      · exact Nat.lt_succ_self _) (by
      rw [Array.toList_push, List.map_append, List.nodup_append]
      refine ⟨h2, by simp, fun x hx y hy e => ?_⟩
      obtain ⟨m, hm1, rfl⟩ := List.mem_map.1 hx
      have hy : y = clock := by simpa using hy
      have := h1 m (Array.mem_toList_iff.1 hm1)
      omega)
    refine ⟨_, ?_, r1, s1⟩
    simp [Instr.mapUpdate, run_underlying ht, MapKept.run_getObj_map hb, A.law.check w _ hkl, a1, MapKept.run_setObj_map _ hb, Result.andThen]
  · have hej : es[j]? = some e := by simpa using a2
    have hmod := modify_set (es := es) a2 (fun e => { e with key := pkv k n, val := u })
    have hf : ({ e with key := pkv k n, val := u } : MapEntry) = { e with val := u } := by rw [← a3]
    rw [hf] at hmod
    have hm' : PRel ρ k (pput ms n v) (es.modify j fun e => { e with key := pkv k n, val := u }).toList := by
      rw [hmod, a6]
      refine ⟨by simp [hm.1], fun i p e' b1 b2 => ?_⟩
      rw [List.getElem?_set] at b1 b2
      by_cases hij : j = i
      · subst hij
        rw [if_pos rfl] at b1 b2
        split at b1
        · split at b2
          · cases b1
            cases b2
            exact ⟨a3, hv⟩
          · cases b2
        · cases b1
      · rw [if_neg hij] at b1 b2
        exact hm.2 i p e' b1 b2
    obtain ⟨r1, s1⟩ := set_pmap (clock' := clock) r hi hl hb hm' (fun x hx => by
      have hx : x ∈ (es.modify j fun e => { e with key := pkv k n, val := u }).toList := Array.mem_toList_iff.2 hx
      rw [hmod] at hx
      rcases List.mem_or_eq_of_mem_set hx with hx | rfl
      · exact h1 x (Array.mem_toList_iff.1 hx)
      · exact h1 e (Array.mem_of_getElem? hej)) (by
      rw [hmod, nodup_set_born a2]
      exact h2)
    refine ⟨_, ?_, r1, s1⟩
    simp [Instr.mapUpdate, run_underlying ht, MapKept.run_getObj_map hb, A.law.check w _ hkl, a1, hej, a3, A.law.stays w hkl, MapKept.run_setObj_map _ hb, Result.andThen]
end
end Go.Ab
