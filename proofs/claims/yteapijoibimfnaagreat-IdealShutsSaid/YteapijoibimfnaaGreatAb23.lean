/- The keys of a map with integer keys, sorted: from contracts over the model. -/
import Derived.Test.YteapijoibimfnaaGreatAb21
import Derived.Shelf.SlIterI.Sorted
set_option linter.unusedVariables false
set_option linter.unusedSimpArgs false
namespace Go.Ab
open Go Go.RowKit Go.Proofs Go.Shelf Go.Maps Go.WideElems Go.WideShapes
theorem Rel.below {ρ : Rho} {h : H} {w w' : World} (r : Rel ρ h w) (hb : Below w.heap.size w w') : Rel ρ h w' :=
  ⟨fun i ob hi => by
    obtain ⟨l, e, k⟩ := r.obj i ob hi
    exact ⟨l, e, k.mono (fun _ _ e => e) (hb.block _ k.lt)⟩, r.sep⟩
theorem Since.below (ρ : Rho) (h : H) {w w' : World} (hb : Below w.heap.size w w') : Since ρ h w ρ h w' :=
  ⟨fun _ _ e => e, hb.os, hb.tape, hb.output, hb.size, Nat.le_refl _, fun b h1 _ => hb.block b h1, fun i ob l h1 h2 h3 => .inl ⟨i, ob, l, h1, h2, h3, rfl⟩⟩
/-- an iterator over the keys of a map -/
theorem keys_acalls {P : Program} {r : Ren} (L : SlLaysZI.n7 P r) (hcall : Callable P (r.f 7)) (h : H) (i : Nat) :
    ACalls P (r.f 7) [.mp (some i)] h (fun v h' => v = .clz (r.f 10) h.next ∧ h' = h.push (.row true 1 [.mp (some i)])) := by
  refine ⟨hcall, fun ρ w vs rr hd hv => ?_⟩
  obtain ⟨u, vs', rfl, hu, hv'⟩ := hv.uncons
  obtain rfl : vs' = [] := List.eq_nil_of_length_eq_zero hv'.1.symm
  rcases hu.mp_inv with ⟨h0, _⟩ | ⟨i', l, e, rfl, hl⟩
  · cases h0
  injection e with e
  subst e
  refine ((callsIn_wide (n := 1)).1 (AnyZI.keys_in L Fence.wide 1 trivial rfl (some l.b) w)).mono fun e w' he => ?_
  obtain ⟨rfl, rfl⟩ := he
  have hm : VRel ρ (.mp (some i)) (.map (some l.b)) := .mp i l hl
  obtain ⟨r1, d1, s1⟩ := new_row rr hd (cells := [.map (some l.b)]) (cs := [.mp (some i)]) (VsRel.cons hm (VsRel.nil ρ)) (fun x hx => by simp at hx; subst hx; rfl) [] (r.t 23) 1
  exact ⟨.clz (r.f 10) h.next, _, _, _, rfl, ⟨rfl, rfl⟩, .clz _ _ _ (Rho.add_self _ _ _) rfl, r1, d1, s1⟩
theorem MRel.keys {ρ : Rho} {k : IntKind} : ∀ {ms : List (Int × V)} {es : List MapEntry}, MRel ρ k ms es → es.map (·.key) = ms.map fun p => Value.int k p.1
  | [], [], _ => rfl
  | [], _ :: _, h => h.elim
  | _ :: _, [], h => h.elim
  | p :: ms, e :: es, h => by
    rw [List.map_cons, List.map_cons, h.1, h.2.2.keys]
def anyR (_ : Value) : Option (DataW Unit × List MemPlace) := some (.nil, [])
theorem keyOf_int {P : Program} {t : TypeId} (ht : P.underlying t = some (.int .i64)) {x : Int} (h1 : IntKind.i64.min ≤ x) (h2 : x ≤ IntKind.i64.max) : Go.keyOf P t (.int .i64 x) = some (.int .i64 x) := by
  have h1' : (-9223372036854775808 : Int) ≤ x := h1
  have h2' : x ≤ 9223372036854775807 := h2
  simp [Go.keyOf, ht, mapKey, Lit.wf, IntKind.min, IntKind.max, IntKind.bits, IntKind.signed, h1', h2']
theorem MRel.rgs {P : Program} {t : TypeId} (ht : P.underlying t = some (.int .i64)) {ρ : Rho} : ∀ {ms : List (Int × V)} {es : List MapEntry}, MRel ρ .i64 ms es → (∀ p ∈ ms, IntKind.i64.min ≤ p.1 ∧ p.1 ≤ IntKind.i64.max) →
    (∀ x ∈ es, ∃ y, rd P t anyR x = some y) ∧ es.map (rg P t anyR) = ms.map fun p => (Lit.int .i64 p.1, DataW.nil)
  | [], [], _, _ => ⟨fun x hx => by simp at hx, rfl⟩
  | [], _ :: _, h, _ => h.elim
  | _ :: _, [], h, _ => h.elim
  | p :: ms, e :: es, h, hr => by
    obtain ⟨a1, a2⟩ := MRel.rgs ht h.2.2 (fun p hp => hr p (by simp [hp]))
    obtain ⟨b1, b2⟩ := hr p (by simp)
    have he : rd P t anyR e = some (Lit.int .i64 p.1, DataW.nil) := by
      cases e with
      | mk key val born =>
        obtain rfl : key = Value.int .i64 p.1 := h.1
        exact rd_mk (yv := (.nil, [])) (keyOf_int ht b1 b2) rfl
    refine ⟨fun x hx => ?_, ?_⟩
    · rcases List.mem_cons.1 hx with rfl | hx
      · exact ⟨_, he⟩
      · exact a1 x hx
    · rw [List.map_cons, List.map_cons, a2, rg_of he]
theorem sorted_acalls {P : Program} {r r2 : Ren} (L : SlLaysZI.n6 P r) (L10 : SlLaysZI.n10 P r2) (hcall : Callable P (r.f 6)) (hsort : ∀ m, AnyZI.SortsIn P r Fence.wide m) (e9 : ∀ args w, (callFunc (r.f 9) args).run P w = .ok (.enter (r.f 9) args) w) (e10 : ∀ args w, (callFunc (r2.f 10) args).run P w = .ok (.enter (r2.f 10) args) w)
    {h : H} {b i : Nat} {ob om : Bool} {ms : List (Int × V)} (hb : h.obj b = some (.row ob 1 [.mp (some i)])) (hi : h.obj i = some (.map om (mpE .i64 ms))) (hnd : (ms.map (·.1)).Nodup) (hr : ∀ p ∈ ms, IntKind.i64.min ≤ p.1 ∧ p.1 ≤ IntKind.i64.max) (hl : ms.length ≤ 1000000) :
    ACalls P (r.f 6) [.clz (r2.f 10) b] h (fun v h' => ∃ q, v = .sl q ms.length ∧ NewSl h h' q ms.length 1 (ints .i64 ((ms.map (·.1)).mergeSort fun x y => decide (x ≤ y))) ∧ Mod none_ h h') := by
  refine ⟨hcall, fun ρ w vs rr hd hv => ?_⟩
  obtain ⟨u, vs', rfl, hu, hv'⟩ := hv.uncons
  obtain rfl : vs' = [] := List.eq_nil_of_length_eq_zero hv'.1.symm
  cases hu with
  | clz f j l hlc h0 =>
  obtain ⟨u0, c1, c2, c3⟩ := rr.cell (Cell.mk hb (show ([.mp (some i)] : List V)[0]? = some _ from rfl)) hlc
  rw [h0, Nat.zero_add] at c1
  rcases c3.mp_inv with ⟨q0, _⟩ | ⟨i', li, e, rfl, hli⟩
  · cases q0
  injection e with e
  subst e
  obtain ⟨es, clock, g1, g2, g3, g4⟩ := rr.map hi hli
  obtain ⟨k1, k2⟩ := MRel.rgs L10.t26 g2 hr
  have hes : es.size = ms.length := by
    have := g2.len
    simpa using this
  have hfit : Fit P (r2.t 26) anyR es clock := ⟨by rw [hes]; exact Nat.le_trans hl (by decide), ⟨by simpa using g3, g4, by
    rw [g2.keys]
    rw [show (ms.map fun p => Value.int .i64 p.1) = (ms.map (·.1)).map (Value.int .i64) by rw [List.map_map]; rfl]
    exact hnd.map _ (fun a b hab e => hab (by simpa using e))⟩, k1⟩
  have hown : w.ownsMap P (r2.t 26) anyR li.b es.size (.map ((es.toList.map (rg P (r2.t 26) anyR)).foldr DataW.insert [])) := ⟨es, clock, g1, hfit, Nat.le_refl _, rfl⟩
  have hbm : l.b < w.heap.size := by
    obtain ⟨l', e1, ob'⟩ := rr.obj b _ hb
    rw [hlc] at e1
    injection e1 with e1
    subst e1
    exact ob'.lt
  have hseq := AnyZI.keys_gives L10 Fence.wide 2 trivial rfl (by omega) l.b li.b es.size _ w hbm c1 hown
  have hsz : Maps.size (DataW.map (H := Unit) ((es.toList.map (rg P (r2.t 26) anyR)).foldr DataW.insert [])) = ms.length := by
    rw [Maps.size_eq, length_sorted, List.length_map, Array.length_toList, hes]
  rw [hsz] at hseq
  refine ((callsIn_wide (n := 5)).1 (AnyZI.sorted_in L Fence.wide 5 trivial trivial trivial trivial rfl (by omega) (hsort _) e9 (r2.f 10) #[.pointer (some ⟨l.b, 0, none⟩)] trivial e10 _ ms.length (Nat.le_trans hl (by decide)) (by omega) w hseq)).mono fun e w' he => ?_
  obtain ⟨v, ss, rfl, hS, hrow, hnil, hbel⟩ := he
  have hp : ss.Perm (ms.map (·.1)) := by
    refine hS.trans ?_
    have h1 : (intKeys (DataW.map (H := Unit) ((es.toList.map (rg P (r2.t 26) anyR)).foldr DataW.insert []))).Perm ((es.toList.map (rg P (r2.t 26) anyR)).map fun p => intOf p.1) := (sorted_perm _).map _
    refine h1.trans ?_
    rw [k2, List.map_map]
    exact List.Perm.of_eq rfl
  have hsrt : (ss.mergeSort fun x y => decide (x ≤ y)) = (ms.map (·.1)).mergeSort fun x y => decide (x ≤ y) := mergeSort_of_perm_i hp
  have hlen : ss.length = ms.length := by rw [hp.length_eq, List.length_map]
  rw [hsrt, hlen] at hrow
  have hil : (ints .i64 ((ms.map (·.1)).mergeSort fun x y => decide (x ≤ y))).length = ms.length := by rw [ints_length, List.length_mergeSort, List.length_map]
  rcases hrow.2 with ⟨rfl, hz⟩ | ⟨g, cap, cur, rfl, hg, q1, q2, q3, q4, q5⟩
  · have hms : ms = [] := List.eq_nil_of_length_eq_zero hz
    subst hms
    exact ⟨.sl none 0, h, ρ, _, rfl, ⟨none, rfl, by simpa [ints] using NewSl.nil h h 1, ⟨Nat.le_refl _, fun _ _ _ => rfl⟩⟩, .nils, rr.below hbel, hd, Since.below ρ h hbel⟩
  · refine ⟨.sl (some (h.next, 0)) ms.length, h.push (.row true 1 (ints .i64 ((ms.map (·.1)).mergeSort fun x y => decide (x ≤ y)))), ρ.add h.next ⟨g, 0, cur.size, 1⟩, _, rfl, ⟨some (h.next, 0), rfl, ⟨slIs_new h (by rw [hil, Nat.mul_one]), fun i o e => ?_⟩, Mod.push none_ h _⟩, ?_, ?_, hd.add _, ?_⟩
    · injection e with e
      injection e with e _
      omega
    · exact .sl h.next 0 _ cap _ _ (Rho.add_self _ _ _) q2 q3 (fun _ => rfl) (by simp [q4])
    · refine Rel.push rr hd hg (fun b hb => hbel.block b hb) ⟨rfl, by rw [hil, q4]; simp only; omega, cur, _, _, q1, by simp, fun _ => .inl rfl, fun j c hc => ?_⟩
      have hj : j < ms.length := by
        have := (List.getElem?_eq_some_iff.1 hc).1
        omega
      simp only [Nat.zero_add]
      have h5 : (cur.toList.take (ms.length * 1))[j]? = (((ms.map (·.1)).mergeSort fun x y => decide (x ≤ y)).map encZ)[j]? := by rw [q5]
      rw [List.getElem?_take, if_pos (by omega)] at h5
      simp only [ints, List.getElem?_map] at hc
      rw [List.getElem?_map] at h5
      obtain ⟨x, hx, rfl⟩ := Option.map_eq_some_iff.1 hc
      rw [hx] at h5
      exact ⟨.int .i64 x, by simpa using h5, rfl, .int _ _⟩
    · exact Since.push rr hd hg hbel.os hbel.tape hbel.output hbel.size (fun b hb => hbel.block b hb)
end Go.Ab
