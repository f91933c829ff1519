/- Stores, appends, calls: soundness. -/
import Derived.Test.YtmififfaljihgaaGreatAb8
set_option linter.unusedVariables false
set_option linter.unusedSimpArgs false
namespace Go.Ab
open Go

theorem Mod.refl (S : Nat → Prop) (h : H) : Mod S h h := ⟨Nat.le_refl _, fun _ _ _ => rfl⟩

section
variable {P : Program} {T : TT}
theorem run_grow {t t' ty e n m cap : Nat} {i : TypeInfo} {z : Value} (ht : P.underlying t = some (.slice e)) (ht' : P.underlying t' = some (.slice e)) (hi : P.info? e = some i) (hz : i.zero = some z) {A : Option Addr} {ux : Value} {w : World} {os ns : List Value}
    (hl : (Builtin.lenOf ux).run P w = .ok m w) (ho : (Builtin.firstCells i.size n (.slice A n cap)).run P w.drew = .ok os.toArray w.drew) (hn : (Builtin.firstCells i.size m ux).run P w.drew = .ok ns.toArray w.drew)
    (hlt : cap < n + m) (h63 : n + m ≤ 9223372036854775807) (hfit : Builtin.nextslicecap (n + m) cap * i.bytes ≤ 281474976710656) :
    (Builtin.append_ #[t, t'] ty #[.slice A n cap, ux]).run P w = .ok (.slice (some ⟨w.heap.size, 0, none⟩) (n + m) (grownCap w (n + m) cap e))
      { w.drew with heap := w.drew.heap.push (.cells (os ++ ns ++ (Builtin.zeroCells z.cells (grownCap w (n + m) cap e - (n + m))).toList).toArray e) } := by
  have hn' : ¬ (n + m ≤ cap) := by omega
  have h63' : ¬ (9223372036854775807 < ((n : Int) + (m : Int))) := by omega
  have h48' : ¬ (281474976710656 < Builtin.nextslicecap (n + m) cap * i.bytes) := by omega
  simp [Builtin.append_, run_underlying ht, run_underlying ht', sizeOf, typeInfo, zeroValue, hi, hz, hl, hn', h63', h48', Question.forced, ho, hn, newRow, grownCap]
  congr 2
  apply Array.ext'
  simp [List.append_assoc]
theorem run_room {t t' ty e n m cap : Nat} {i : TypeInfo} (ht : P.underlying t = some (.slice e)) (ht' : P.underlying t' = some (.slice e)) (hi : P.info? e = some i) {a : Addr} {ux : Value} {w w' : World} {ns : List Value}
    (hl : (Builtin.lenOf ux).run P w = .ok m w) (hn : (Builtin.firstCells i.size m ux).run P w = .ok ns.toArray w) (hle : n + m ≤ cap) (hs : (storeCells (a.add (n * i.size)) ns).run P w = .ok () w') :
    (Builtin.append_ #[t, t'] ty #[.slice (some a) n cap, ux]).run P w = .ok (.slice (some a) (n + m) cap) w' := by
  simp [Builtin.append_, run_underlying ht, run_underlying ht', sizeOf, typeInfo, hi, hl, hle, hn, hs]
theorem run_none {t t' ty e : Nat} {i : TypeInfo} (ht : P.underlying t = some (.slice e)) (ht' : P.underlying t' = some (.slice e)) (hi : P.info? e = some i) {ux : Value} {w : World} 
    (hl : (Builtin.lenOf ux).run P w = .ok 0 w) (hn : (Builtin.firstCells i.size 0 ux).run P w = .ok #[] w) :
    (Builtin.append_ #[t, t'] ty #[.slice none 0 0, ux]).run P w = .ok (.slice none 0 0) w := by
  simp [Builtin.append_, run_underlying ht, run_underlying ht', sizeOf, typeInfo, hi, hl, hn]

/-- cells stored one behind the other where none is frozen -/
theorem storeCells_fr (g o : Nat) (t : TypeId) (fr : Nat × Nat) : ∀ (vs : List Value) (i : Nat) (cur : Array Value) (w : World), w.heap[g]? = some (.cells cur t fr) → frOk fr cur.size → o + i + vs.length ≤ cur.size → (∀ v ∈ vs, v.oneCell' = true) →
    (storeCells ⟨g, o, none⟩ vs i).run P w = .ok () (w.setRow g (cur.toList.take (o + i) ++ vs ++ cur.toList.drop (o + i + vs.length)).toArray)
  | [], i, cur, w, hg, _, _, _ => by
    rw [List.append_nil, List.length_nil, Nat.add_zero, List.take_append_drop, Array.toArray_toList, setRow_self w g cur t fr hg]
    rfl
  | v :: rest, i, cur, w, hg, hf, hl, h1 => by
    rw [List.length_cons] at hl
    have hi : o + i < cur.size := by omega
    have e1 : (⟨g, o, none⟩ : Addr).add i = ⟨g, o + i, none⟩ := add_plain g o i
    have e2 : w.cell? ⟨g, o + i, none⟩ = some cur[o + i] := by simp [World.cell?, hg, hi]
    have e3 : w.frozen? ⟨g, o + i, none⟩ = false := by
      obtain ⟨a, b⟩ := fr
      simp only [World.frozen?, hg, Bool.and_eq_false_iff, decide_eq_false_iff_not]
      have := hf.no hi
      omega
    have e4 : (store ((⟨g, o, none⟩ : Addr).add i) v).run P w = .ok () (w.setRow g (cur.setIfInBounds (o + i) v)) := by
      rw [e1, run_store P w _ v _ (h1 v (by simp)), e2]
      simp [e3, setCell_eq_setRow w g (o + i) cur t fr v hg]
    have ih := storeCells_fr g o t fr rest (i + 1) (cur.setIfInBounds (o + i) v) (w.setRow g (cur.setIfInBounds (o + i) v)) (setRow_heap w g cur _ t _ hg) (by simpa using hf) (by simp; omega) (fun x hx => h1 x (by simp [hx]))
    rw [storeCells, Sem.run_bind, e4, Result.andThen_ok, ih, setRow_setRow]
    congr 3
    have hs := list_seg_step cur.toList (o + i) v rest (by simpa using hl)
    rw [Array.toList_setIfInBounds, List.length_cons, ← Nat.add_assoc o i 1]
    exact hs
theorem frOk_eq {fr : Nat × Nat} {n m : Nat} (h : frOk fr n) (e : m = n) : frOk fr m := e ▸ h
/-- What an append leaves. -/
def AppOut (ρ : Rho) (h : H) (w : World) (p : Option (Nat × Nat)) (k sz : Nat) (zs : List V) (u : Value) (w' : World) : Prop :=
  ∃ p' h' ρ', SlIs h' p' k true sz zs ∧ Mod (inSl p) h h' ∧ isFresh h p p' ∧ VRel ρ' (.sl p' k) u ∧ Rel ρ' h' w' ∧ Dom ρ' h'.next ∧ Since ρ h w ρ' h' w'
theorem kill_mod {h : H} {p : Option (Nat × Nat)} {ob : Obj} (hp : ∀ i o, p = some (i, o) → ∃ ob', h.obj i = some ob' ∧ ob'.own = true) : Mod (inSl p) h ((h.kill ((p.map (·.1)).getD h.next)).push ob) := by
  refine ⟨Nat.le_succ _, fun i hi hn => ?_⟩
  have h1 : ((h.kill ((p.map (·.1)).getD h.next)).push ob).obj i = (h.kill ((p.map (·.1)).getD h.next)).obj i := H.obj_push_old (h := h.kill _) ob (Nat.ne_of_lt hi)
  rw [h1]
  refine H.obj_kill_ne _ ?_
  cases p with
  | none => simp; omega
  | some q =>
    obtain ⟨j, o⟩ := q
    simp
    rintro rfl
    rcases hn with hn | ⟨ob1, e1, e2⟩
    · exact hn ⟨o, rfl⟩
    · obtain ⟨ob2, e3, e4⟩ := hp i o rfl
      rw [e1] at e3
      injection e3 with e3
      subst e3
      rw [e2] at e4
      cases e4
theorem slIs_new (h : H) {k sz : Nat} {zs : List V} (hl : zs.length = k * sz) : SlIs (h.push (.row true sz zs)) (some (h.next, 0)) k true sz zs :=
  ⟨hl, .inr ⟨h.next, 0, true, zs, rfl, H.obj_push_new h _, fun _ => rfl, by omega, by rw [List.drop_zero, ← hl, List.take_length]⟩⟩
theorem append_sound (hT : TOk P T) {t t' e : Nat} (ht : (T.at_ t).d = .sl e) (ht' : (T.at_ t').d = .sl e) (hh : has T e = true) {ty : Nat} {ρ : Rho} {h : H} {w : World} {p q : Option (Nat × Nat)} {n m : Nat} {xs ys : List V} {us ux : Value}
    (r : Rel ρ h w) (hd : Dom ρ h.next) (hs : SlIs h p n true (T.at_ e).size xs) (hx : SlIs h q m false (T.at_ e).size ys) (vs : VRel ρ (.sl p n) us) (vx : VRel ρ (.sl q m) ux) (hb : (n + m) * (T.at_ e).bytes ≤ 70368744177664) (hnm : n + m ≤ 70368744177664) :
    ∃ u w', (Builtin.append_ #[t, t'] ty #[us, ux]).run P w = .ok u w' ∧ AppOut ρ h w p (n + m) (T.at_ e).size (xs ++ ys) u w' := by
  obtain ⟨ti, z, g1, g2, g3, g4, g5, g6, g7⟩ := (hT e hh).info
  obtain ⟨zv, z1⟩ := (g5 ρ).cells g6
  have hzs : z.cells.size = (T.at_ e).size := by rw [← Array.length_toList, ← zv.1, g7]
  have hut := hT.of_sl ht
  have hut' := hT.of_sl ht'
  have hml : maxLen = 9223372036854775807 := rfl
  have hxl : xs.length = n * (T.at_ e).size := hs.1
  have hyl : ys.length = m * (T.at_ e).size := hx.1
  have hlen : (xs ++ ys).length = (n + m) * (T.at_ e).size := by rw [List.length_append, hxl, hyl, Nat.add_mul]
  have hlenx : (Builtin.lenOf ux).run P w = .ok m w := by
    rcases vx.sl_inv with ⟨_, rfl, rfl⟩ | ⟨_, _, _, _, _, _, rfl, _⟩ <;> rfl
  have howns : ∀ i o, p = some (i, o) → ∃ ob', h.obj i = some ob' ∧ ob'.own = true := by
    intro i o hp
    rcases hs.2 with ⟨_, e1 | e1⟩ | ⟨i', o', ow, rest, e1, hi, ho, _⟩
    · rw [e1] at hp
      cases hp
    · cases e1
    · rw [e1] at hp
      injection hp with hp
      injection hp with hp _
      subst hp
      exact ⟨_, hi, ho rfl⟩
  -- the arm that grows
  have grow : ∀ A cap, us = .slice A n cap → cap < n + m → ∃ u w', (Builtin.append_ #[t, t'] ty #[us, ux]).run P w = .ok u w' ∧ AppOut ρ h w p (n + m) (T.at_ e).size (xs ++ ys) u w' := by
    rintro A cap rfl hlt
    obtain ⟨os, o1, o2, o3, o4⟩ := (r.drew).firstCells (P := P) hs vs
    obtain ⟨ns, n1, n2, n3, n4⟩ := (r.drew).firstCells (P := P) hx vx
    have h1 := (r.kill ((p.map (·.1)).getD h.next)).drew
    have s1 := (Since.kill ρ h w ((p.map (·.1)).getD h.next)).trans (Since.drew ρ (h.kill ((p.map (·.1)).getD h.next)) w)
    have hgc := grownCap_ge w (n + m) cap e
    have hgm := grownCap_le_maxLen w (n + m) cap e (by omega)
    have hfit := growslice_fits (need := n + m) (old := cap) (bytes := ti.bytes) hlt (by rw [g3]; omega)
    obtain ⟨k1, k2, k3⟩ := new_row h1 (by exact hd) (o2.append n2) (fun u hu => by
      rcases List.mem_append.1 hu with hu | hu
      · exact o4 u hu
      · exact n4 u hu) (Builtin.zeroCells z.cells (grownCap w (n + m) cap e - (n + m))).toList e (T.at_ e).size
    rw [← g2] at o1 n1
    refine ⟨_, _, run_grow hut hut' g1 g4 hlenx o1 n1 hlt (by omega) hfit, some (h.next, 0), _, _, ?_, kill_mod howns, ?_, VRel.sl_new hgc hgm rfl ?_, k1, k2, s1.trans k3⟩
    · exact slIs_new (h.kill _) hlen
    · intro i o hi
      injection hi with hi
      injection hi with hi _
      exact .inr (by omega)
    · simp only [List.length_append, Array.length_toList, size_zeroCells, o3, n3, hzs]
      rw [← Nat.add_mul, ← Nat.add_mul, Nat.add_sub_cancel' hgc]
      exact Nat.le_refl _
  obtain ⟨ns, n1, n2, n3, n4⟩ := r.firstCells (P := P) hx vx
  rcases r.sl hs vs with ⟨rfl, rfl, rfl, rfl⟩ | ⟨_, _, e, _⟩ | ⟨i, o, l, cap, a, o', rest, osv, rfl, rfl, hlc, hsz, hn, hmx, had, hlim, hi, ho, hle, hc, hus, hul, hu1, hcell⟩
  · rcases Nat.eq_zero_or_pos m with h0 | h0
    · subst h0
      have hy0 : ys = [] := List.eq_nil_of_length_eq_zero (by omega)
      subst hy0
      have hn0 : ns = [] := List.eq_nil_of_length_eq_zero (by omega)
      subst hn0
      rw [← g2] at n1
      refine ⟨_, _, run_none hut hut' g1 hlenx n1, none, h, ρ, ?_, Mod.refl _ _, ?_, .nils, r, hd, Since.refl _ _ _⟩
      · exact ⟨by simp, .inl ⟨rfl, .inl rfl⟩⟩
      · intro i o hi
        cases hi
    · exact grow none 0 rfl (by omega)
  · cases e
  · rcases Nat.lt_or_ge cap (n + m) with hlt | hge
    · exact grow (some a) cap rfl hlt
    · have hot := ho rfl
      subst hot
      rcases Nat.eq_zero_or_pos m with h0 | h0
      · subst h0
        have hy0 : ys = [] := List.eq_nil_of_length_eq_zero (by omega)
        subst hy0
        have hn0 : ns = [] := List.eq_nil_of_length_eq_zero (by omega)
        subst hn0
        rw [← g2] at n1
        refine ⟨_, _, run_room hut hut' g1 hlenx n1 hge rfl, some (i, o), h, ρ, ?_, Mod.refl _ _, ?_, vs, r, hd, Since.refl _ _ _⟩
        · rw [List.append_nil]
          exact hs
        · intro i' o' hi'
          exact .inl rfl
      · have := had (by omega)
        subst this
        obtain ⟨l', e1, q1, q2, cells, et, fr, q3, q4, q5, q6⟩ := r.obj i _ hi
        rw [hlc] at e1
        injection e1 with e1
        subst e1
        have hfr : frOk fr cells.size := q5 rfl
        have hmul : n * (T.at_ e).size + m * (T.at_ e).size ≤ cap * (T.at_ e).size := by
          rw [← Nat.add_mul]
          exact Nat.mul_le_mul_right _ hge
        have hst := storeCells_fr (P := P) l.b (l.o + o + n * (T.at_ e).size) et fr ns 0 cells w q3 hfr (by omega) n4
        have hnx : h.next ≠ i := Ne.symm (Nat.ne_of_lt (h.lt i _ hi))
        rw [← g2] at n1
        rw [← g2] at hst
        have hst' := hst
        rw [← add_plain l.b (l.o + o) (n * ti.size)] at hst'
        rw [g2] at hst'
        refine ⟨_, _, run_room hut hut' g1 hlenx n1 hge (by rw [g2]; exact hst'), some (h.next, 0), (h.kill i).push (.row true (T.at_ e).size (xs ++ ys)), ρ.add h.next ⟨l.b, l.o + o, l.lim - o, (T.at_ e).size⟩, ?_, kill_mod howns, ?_, ?_, ?_, hd.add _, ?_⟩
        · exact slIs_new (h.kill _) hlen
        · intro i' o' hi'
          injection hi' with hi'
          injection hi' with hi' _
          exact .inr (by omega)
        · refine .sl h.next 0 (n + m) cap _ _ (Rho.add_self _ _ _) hge hmx (fun _ => rfl) ?_
          simp only
          omega
        · refine Rel.move r hd hi rfl hlc rfl (fun b hb' => setRow_other _ _ _ _ hb') ?_
          refine ⟨rfl, ?_, _, et, fr, setRow_heap _ _ _ _ _ _ q3, ?_, fun _ => frOk_eq hfr (by simp only [List.size_toArray, List.length_append, List.length_take, List.length_drop, Array.length_toList]; omega), fun j c hj => ?_⟩
          · rw [hlen, Nat.add_mul]
            simp only
            omega
          · show l.o + o + (l.lim - o) ≤ _
            simp only [List.size_toArray, List.length_append, List.length_take, List.length_drop, Array.length_toList]
            omega
          · have hjl := (List.getElem?_eq_some_iff.1 hj).1
            simp only [Nat.add_zero, List.getElem?_toArray]
            rcases Nat.lt_or_ge j (n * (T.at_ e).size) with hjn | hjn
            · rw [List.getElem?_append_left (by omega), ← hc, List.getElem?_take, if_pos hjn, List.getElem?_drop] at hj
              obtain ⟨u, a1, a2, a3⟩ := q6 (o + j) c hj
              refine ⟨u, ?_, a2, a3.mono (Rho.add_ext hd _)⟩
              rw [List.append_assoc, List.getElem?_append_left (by simp; omega), List.getElem?_take, if_pos (by omega), Array.getElem?_toList, Nat.add_assoc]
              exact a1
            · rw [List.getElem?_append_right (by omega), hxl] at hj
              obtain ⟨u, a1, a2⟩ := n2.get hj
              refine ⟨u, ?_, n4 u (List.mem_of_getElem? a1), a2.mono (Rho.add_ext hd _)⟩
              have hul' := (List.getElem?_eq_some_iff.1 a1).1
              rw [List.append_assoc, List.getElem?_append_right (by simp; omega), List.getElem?_append_left (by simp; omega)]
              rw [← a1]
              congr 1
              simp
              omega
        · exact Since.move r hd hi rfl hlc rfl (fun b hb' => setRow_other _ _ _ _ hb') rfl rfl rfl (by simp)
end
end Go.Ab
