/- MB: several texts in one. -/
import Derived.Test.YteapijoibimfnaaGreatMA
import Derived.Laws.StructEq
import Derived.ChangeArms
import Derived.OpenShut
import Derived.Carry
import Derived.ProofKit
set_option linter.unusedVariables false
set_option linter.unusedSimpArgs false
/-! Copies: soundness. -/
namespace Go.Ab
open Go
section
variable {P : Program} {T : TT}
theorem copy_sound (hT : TOk P T) {t t' e : Nat} (ht : (T.at_ t).d = .sl e) (hh : has T e = true) {ty : Nat} {ρ : Rho} {h : H} {w : World} {i off : Nat} {q : Option (Nat × Nat)} {n m sz : Nat} {cs ys : List V} {us ux : Value}
    (r : Rel ρ h w) (hx : SlIs h q m false (T.at_ e).size ys) (hi : h.obj i = some (.row true sz cs)) (hn : 0 < n) (hle : off + n * (T.at_ e).size ≤ cs.length) (vs : VRel ρ (.sl (some (i, off)) n) us) (vx : VRel ρ (.sl q m) ux) :
    ∃ w', (Builtin.copy_ #[t, t'] ty #[us, ux]).run P w = .ok (.int .i64 ((min m n : Nat) : Int)) w' ∧ Rel ρ (h.set i (.row true sz (splice cs off (ys.take (min m n * (T.at_ e).size))))) w' ∧ Since ρ h w ρ (h.set i (.row true sz (splice cs off (ys.take (min m n * (T.at_ e).size))))) w' := by
  obtain ⟨ti, z, g1, g2, g3, g4, g5, g6, g7⟩ := (hT e hh).info
  have hut := hT.of_sl ht
  rcases vs.sl_inv with ⟨e1, _⟩ | ⟨i2, o2, cap, a, l, e1, rfl, hl, hc1, hc2, hc3, hc4⟩
  · cases e1
  injection e1 with e1
  injection e1 with e1 e2
  subst e1 e2
  obtain rfl := hc3 (by omega)
  have hyl : ys.length = m * (T.at_ e).size := hx.1
  have hlen : (Builtin.lenOf ux).run P w = .ok m w := by
    rcases vx.sl_inv with ⟨_, rfl, rfl⟩ | ⟨_, _, _, _, _, _, rfl, _⟩ <;> rfl
  have key : ∃ ns : List Value, (Builtin.firstCells (T.at_ e).size (min m n) ux).run P w = .ok ns.toArray w ∧ VsRel ρ (ys.take (min m n * (T.at_ e).size)) ns ∧ ∀ u ∈ ns, u.oneCell' = true := by
    rcases r.sl hx vx with ⟨_, rfl, rfl, rfl⟩ | ⟨rfl, rfl, _, i, o, cap, a, l, rfl, rfl, _⟩ | ⟨i3, o, l3, cap3, a, o', rest, os, rfl, rfl, hlc, hsz, hn3, hm, had, hlim, hi3, ho, hle3, hc, hus, hul, hu1, hcell⟩
    · exact ⟨[], by simp [Builtin.firstCells], by simpa using VsRel.nil _, by simp⟩
    · exact ⟨[], by simp [Builtin.firstCells, loadCells, loadCellsFrom], by simpa using VsRel.nil _, by simp⟩
    · have hk : min m n * (T.at_ e).size ≤ m * (T.at_ e).size := Nat.mul_le_mul_right _ (Nat.min_le_left _ _)
      refine ⟨os.take (min m n * (T.at_ e).size), run_firstCells_some w (T.at_ e).size (min m n) a m cap3 _ (by rw [List.length_take]; omega) (fun j u hj => ?_), hus.take _, fun u hu => hu1 u (List.mem_of_mem_take hu)⟩
      rw [List.getElem?_take] at hj
      split at hj
      · exact hcell j u hj
      · cases hj
  obtain ⟨ns, n1, n2, n3⟩ := key
  have hk : min m n * (T.at_ e).size ≤ n * (T.at_ e).size := Nat.mul_le_mul_right _ (Nat.min_le_right _ _)
  obtain ⟨w', s1, s2, s3⟩ := stores (P := P) (off := off) hl ns _ 0 cs h w r hi n2 n3 (by rw [List.length_take]; omega)
  refine ⟨w', ?_, s2, s3⟩
  have hmin : Nat.min m n = min m n := rfl
  rw [← g2] at n1
  simp [Builtin.copy_, run_underlying hut, sizeOf, typeInfo, g1, hlen, hmin, n1, s1, goInt]
end
end Go.Ab
/-! Every operation that makes or turns memory, and the regions whose order is the text's. -/
namespace Go.Ab
open Go

section
variable {P : Program} {T : TT}
theorem args_rel {ρ : Rho} {N : Nat} {env : Env} {a : Act} (ha : ERel ρ N env a) : ∀ l : List Operand, VsRel ρ (l.map (opv env)) (l.map a.eval)
  | [] => VsRel.nil ρ
  | x :: l => VsRel.cons (opv_rel ha x) (args_rel ha l)
theorem cO_sound (hT : TOk P T) {o : Oper} {env : Env} {h : H} {K : V → H → Prop} (hr : cO P T o env h K) {ρ : Rho} {N : Nat} {a : Act} {w : World} (ha : ERel ρ N env a) (r : Rel ρ h w) (hd : Dom ρ h.next) (Q : Exit → Act → World → Prop) :
    o.wp P a w (COut ρ h w o a K) Q := by
  obtain ⟨dst, op, type, pos, after, guard⟩ := o
  cases op with
  | store t x y =>
    simp only [cO] at hr
    split at hr
    · rename_i i off hx
      rw [chk_iff, fv_iff, chk_iff] at hr
      obtain ⟨hh, hv, sz, cs, hi, hr⟩ := hr
      rw [chk_iff] at hr
      obtain ⟨hlen, hle, hK⟩ := hr
      have hlen' := Nat.eq_of_beq_eq_true hlen
      have rx := opv_rel ha x
      rw [hx] at rx
      obtain ⟨l, hl, e⟩ := rx.ptr_inv
      obtain ⟨c1, c2⟩ := (opv_rel ha y).cells hv
      obtain ⟨w', s1, s2, s3⟩ := stores (P := P) (off := off) hl (a.eval y).cells.toList (vcells (opv env y)) 0 cs h w r hi c1 c2 (by omega)
      have hcs : (a.eval y).cells.size = (T.at_ t).size := by rw [← Array.length_toList, ← c1.1, hlen']
      refine wp_skip_ (w' := w') ?_ ⟨.undef, _, ρ, Go.undef, rfl, hK, .undef _, s2, hd, s3⟩
      simp only [execOp, Instr.storeAt, e, Instr.sureAddr, storeVar, Sem.run_bind, Sem.run_pure, Result.andThen_ok, hT.size hh, hcs]
      simp only [ne_eq, not_true_eq_false, if_false, Sem.run_bind, Sem.run_pure, Result.andThen_ok, s1]
    · exact hr.elim
  | call c =>
    obtain ⟨callee, ⟨args⟩, ⟨argTypes⟩⟩ := c
    simp only [cO, cCall] at hr
    split at hr
    · rename_i s x t t'
      split at hr
      · rename_i e e' p n q m ht ht' hs hx
        rw [chk_iff, chk_iff] at hr
        obtain ⟨hh, hee, xs, ys, hsl, hxl, hb, hnm, hK⟩ := hr
        have := Nat.eq_of_beq_eq_true hee
        subst this
        have rs := opv_rel ha s
        have rx := opv_rel ha x
        rw [hs] at rs
        rw [hx] at rx
        obtain ⟨u, w', hrun, p', h', ρ', a1, a2, a3, a4, a5, a6, a7⟩ := append_sound hT ht ht' hh (ty := type) r hd hsl hxl rs rx hb hnm
        refine wp_value (u := u) (w' := w') ?_ ⟨_, h', ρ', u, rfl, hK p' h' a1 a2 a3, a4, a5, a6, a7⟩
        simp [execOp, resolve, invoke, builtin, hrun]
      · exact hr.elim
    · rename_i x
      split at hr
      rotate_left
      · rename_i f caps hx
        have rx := opv_rel ha x
        rw [hx] at rx
        obtain ⟨⟨fn, f1, f2, f3⟩, hc⟩ := hr
        unfold Oper.wp
        have e0 : ∃ us : List Value, a.eval x = .func (.func f) #[] us.toArray ∧ VsRel ρ caps us := by
          generalize a.eval x = u at rx
          cases rx with
          | clo _ _ us hl hcs => exact ⟨us, rfl, hl, hcs⟩
        obtain ⟨us, e0, hus⟩ := e0
        have hcall := hc ρ w _ r hd ((args_rel ha args).append hus)
        have hrun : (execOp a.eval ⟨dst, .call ⟨.value x, ⟨args⟩, ⟨argTypes⟩⟩, type, pos, after, guard⟩).run P w = .ok (.enter f (args.map a.eval ++ us).toArray) w := by
          have e1 : (#[] ++ (⟨args⟩ : Array Operand).map a.eval ++ us.toArray : Array Value) = (args.map a.eval ++ us).toArray := by
            apply Array.ext'
            simp
          simp only [execOp, resolve, e0, Deferred.ofValue, Sem.run_bind, Sem.run_pure, Result.andThen_ok, invoke, callFunc, run_program, f1, f3, f2, Bool.false_eq_true, if_false]
          rw [e1]
        rw [hrun, Oper.upon_enter]
        refine hcall.mono fun e w' he => ?_
        obtain ⟨v, h', ρ', u, rfl, k1, k2, k3, k4, k5⟩ := he
        exact ⟨v, h', ρ', u, rfl, k1, k2, k3, k4, k5⟩
      · exact hr.elim
      rename_i f hx
      have rx := opv_rel ha x
      rw [hx] at rx
      obtain ⟨⟨fn, f1, f2, f3⟩, hc⟩ := hr
      have hcall := hc ρ w _ r hd (args_rel ha args)
      unfold Oper.wp
      have hrun : (execOp a.eval ⟨dst, .call ⟨.value x, ⟨args⟩, ⟨argTypes⟩⟩, type, pos, after, guard⟩).run P w = .ok (.enter f (args.map a.eval).toArray) w := by
        have e0 : a.eval x = .func (.func f) #[] #[] := by
          generalize a.eval x = u at rx
          cases rx
          rfl
        have e1 : (#[] ++ (⟨args⟩ : Array Operand).map a.eval ++ #[] : Array Value) = (args.map a.eval).toArray := by
          apply Array.ext'
          simp
        simp only [execOp, resolve, e0, Deferred.ofValue, Sem.run_bind, Sem.run_pure, Result.andThen_ok, invoke, callFunc, run_program, f1, f3, f2, Bool.false_eq_true, if_false]
        rw [e1]
      rw [hrun, Oper.upon_enter]
      refine hcall.mono fun e w' he => ?_
      obtain ⟨v, h', ρ', u, rfl, k1, k2, k3, k4, k5⟩ := he
      exact ⟨v, h', ρ', u, rfl, k1, k2, k3, k4, k5⟩
    · rename_i x kx t t'
      split at hr
      · rename_i kt et i k n ht hx hkx
        split at hr
        · rename_i k' hk
          rw [chk_iff] at hr
          obtain ⟨hkk, hor⟩ := hr
          have := kEq_eq hkk
          subst this
          have rx := opv_rel ha x
          rw [hx] at rx
          have ri := opv_rel ha kx
          rw [hkx] at ri
          rcases rx.mp_inv with ⟨e, _⟩ | ⟨i2, l, e, e2, e3⟩
          · cases e
          injection e with e
          subst e
          rcases hor with ⟨ms, hi, hK⟩ | ⟨ms, bs, cl, hi, hK⟩
          · obtain ⟨w', s1, s2, s3⟩ := run_delete (P := P) (kt' := t') (ty := type) (hT.of_mp ht) (hT.of_int hk) r hi e3 n
            refine wp_value (u := .tuple #[]) (w' := w') ?_ ⟨_, _, ρ, _, rfl, hK, .tup [] [] rfl (fun j c u h => by simp at h), s2, hd, s3⟩
            simp [execOp, resolve, invoke, builtin, e2, ri.int_inv, s1]
          · obtain ⟨w', s1, s2, s3⟩ := run_delete_b (P := P) (kt' := t') (ty := type) (hT.of_mp ht) (hT.of_int hk) r hi e3 n
            refine wp_value (u := .tuple #[]) (w' := w') ?_ ⟨_, _, ρ, _, rfl, hK, .tup [] [] rfl (fun j c u h => by simp at h), s2, hd, s3⟩
            simp [execOp, resolve, invoke, builtin, e2, ri.int_inv, s1]
        · exact hr.elim
      · exact hr.elim
    · rename_i s x t t'
      split at hr
      · rename_i e i off n q m ht hs hx
        rw [chk_iff] at hr
        obtain ⟨hh, sz, cs, ys, h1, h2, h3, h4, hK⟩ := hr
        have rs := opv_rel ha s
        rw [hs] at rs
        have rx := opv_rel ha x
        rw [hx] at rx
        obtain ⟨w', s1, s2, s3⟩ := copy_sound (P := P) (t' := t') (ty := type) hT ht hh r h1 h2 h3 h4 rs rx
        refine wp_value (u := .int .i64 ((min m n : Nat) : Int)) (w' := w') ?_ ⟨_, _, ρ, _, rfl, hK, .int _ _, s2, hd, s3⟩
        simp [execOp, resolve, invoke, builtin, s1]
      · exact hr.elim
    · exact hr.elim
  | mapUpdate t x kx vx =>
    simp only [cO] at hr
    split at hr
    · rename_i kt et i k n ht hx hkx
      split at hr
      · rename_i k' hk
        rw [chk_iff, fv_iff] at hr
        obtain ⟨hkk, ms, hi, hK⟩ := hr
        have := kEq_eq hkk
        subst this
        have rx := opv_rel ha x
        rw [hx] at rx
        have ri := opv_rel ha kx
        rw [hkx] at ri
        rcases rx.mp_inv with ⟨e, _⟩ | ⟨i2, l, e, e2, e3⟩
        · cases e
        injection e with e
        subst e
        obtain ⟨w', s1, s2, s3⟩ := run_mapUpdate (P := P) (hT.of_mp ht) (hT.of_int hk) r hi e3 n (opv_rel ha vx)
        refine wp_skip_ (w' := w') ?_ ⟨.undef, _, ρ, Go.undef, rfl, hK, .undef _, s2, hd, s3⟩
        simp [execOp, e2, ri.int_inv, s1]
      · exact hr.elim
    · rename_i kt et i cs ht hx hkx
      split at hr
      · rename_i k' k a' b' hk hcs
        · obtain rfl := pairL_eq hcs
          simp only [chk_iff, fv_iff] at hr
          obtain ⟨q1, ms, hi, hn, hw, wn, hK⟩ := hr
          obtain rfl := kEq_eq q1
          have A := hT.pairK ht hk
          have rx := opv_rel ha x
          rw [hx] at rx
          have ri := opv_rel ha kx
          rw [hkx] at ri
          have ri := pk_inv (n := (_, _)) ri
          rcases rx.mp_inv with ⟨e, _⟩ | ⟨i2, l, e, e2, e3⟩
          · cases e
          injection e with e
          subst e
          obtain ⟨w', s1, s2, s3⟩ := run_mapUpdate_p (P := P) (hT.of_mp ht) A r hi e3 hn hw wn (opv_rel ha vx)
          refine wp_skip_ (w' := w') ?_ ⟨.undef, _, ρ, Go.undef, rfl, hK, .undef _, s2, hd, s3⟩
          simp [execOp, e2, ri, s1]
      · exact hr.elim
    · exact hr.elim
  | mapEntry t x kx =>
    simp only [cO] at hr
    split at hr
    · rename_i kt et i k n ht hx hkx
      split at hr
      · rename_i k' hk
        rw [chk_iff, chk_iff] at hr
        obtain ⟨hkk, hh, ms, hi, hK⟩ := hr
        have := kEq_eq hkk
        subst this
        obtain ⟨i', z, g1, g2, g3, g4, g5, g6, g7⟩ := (hT et hh).info
        have rx := opv_rel ha x
        rw [hx] at rx
        have ri := opv_rel ha kx
        rw [hkx] at ri
        rcases rx.mp_inv with ⟨e, _⟩ | ⟨i2, l, e, e2, e3⟩
        · cases e
        injection e with e
        subst e
        obtain ⟨ms', bs, cl, p, b, u, w', q1, q2, q3, q4, q5, q6, s1, s2, s3⟩ := run_mapEntry (P := P) (hT.of_mp ht) (hT.of_int hk) r hi e3 n (uz := z) (by simp [zeroValue, typeInfo, g1, g4])
        refine wp_value (u := .tuple #[u, .int .i64 (b : Int)]) (w' := w') ?_ ⟨_, _, ρ, _, rfl, hK ms' bs cl p b q1 q2 q3 q4 q5 q6, .tup [.undef, .int .i64 (b : Int)] [u, .int .i64 (b : Int)] rfl (VsRel.cons (.undef u) (VsRel.cons (.int _ _) (VsRel.nil ρ))).2, s2, hd, s3⟩
        simp [execOp, e2, ri.int_inv, s1]
      · exact hr.elim
    · rename_i kt et i cs ht hx hkx
      split at hr
      · rename_i k' k a' b' hk hcs
        obtain rfl := pairL_eq hcs
        simp only [chk_iff] at hr
        obtain ⟨q1, hh, ms, hi, hn, hw, wn, hK⟩ := hr
        obtain rfl := kEq_eq q1
        have A := hT.pairK ht hk
        obtain ⟨i', z, g1, g2, g3, g4, g5, g6, g7⟩ := (hT et hh).info
        have rx := opv_rel ha x
        rw [hx] at rx
        have ri := opv_rel ha kx
        rw [hkx] at ri
        have ri := pk_inv (n := (_, _)) ri
        rcases rx.mp_inv with ⟨e, _⟩ | ⟨i2, l, e, e2, e3⟩
        · cases e
        injection e with e
        subst e
        obtain ⟨ms', bs, cl, p, b, u, w', q1, q2, q3, q4, q5, q6, q7, s1, s2, s3⟩ := run_mapEntry_p (P := P) (hT.of_mp ht) A r hi e3 hn hw wn (g5 ρ) (uz := z) (by simp [zeroValue, typeInfo, g1, g4])
        refine wp_value (u := .tuple #[u, .int .i64 (b : Int)]) (w' := w') ?_ ⟨_, _, ρ, _, rfl, hK ms' bs cl p b q1 q2 q3 q4 q5 q6, .tup [_, .int .i64 (b : Int)] [u, .int .i64 (b : Int)] rfl (VsRel.cons q7 (VsRel.cons (.int _ _) (VsRel.nil ρ))).2, s2, hd, s3⟩
        simp [execOp, e2, ri, s1]
      · exact hr.elim
    · exact hr.elim
  | entryStore t x sx vx =>
    simp only [cO] at hr
    split at hr
    · rename_i i k2 s hx hsx hmp
      rw [fv_iff] at hr
      obtain ⟨k, ms, bs, cl, p, b, n, hi, hs, hp, hn, hK⟩ := hr
      have rx := opv_rel ha x
      rw [hx] at rx
      have ri := opv_rel ha sx
      rw [hsx, hs] at ri
      rcases rx.mp_inv with ⟨e, _⟩ | ⟨i2, l, e, e2, e3⟩
      · cases e
      injection e with e
      subst e
      obtain ⟨w', s1, s2, s3⟩ := run_entryStore (P := P) (t := t) (k2 := k2) r hi e3 hp hn (opv_rel ha vx)
      refine wp_skip_ (w' := w') ?_ ⟨.undef, _, ρ, Go.undef, rfl, hK, .undef _, s2, hd, s3⟩
      simp [execOp, e2, ri.int_inv, s1]
    · rename_i i k2 s k hx hsx hmp
      rw [fv_iff] at hr
      obtain ⟨ms, bs, cl, p, b, n, hi, hs, hp, hn, hK⟩ := hr
      have rx := opv_rel ha x
      rw [hx] at rx
      have ri := opv_rel ha sx
      rw [hsx, hs] at ri
      rcases rx.mp_inv with ⟨e, _⟩ | ⟨i2, l, e, e2, e3⟩
      · cases e
      injection e with e
      subst e
      obtain ⟨w', s1, s2, s3⟩ := run_entryStore_p (t := t) (P := P) (k2 := k2) r hi e3 hp hn (opv_rel ha vx)
      refine wp_skip_ (w' := w') ?_ ⟨.undef, _, ρ, Go.undef, rfl, hK, .undef _, s2, hd, s3⟩
      simp [execOp, e2, ri.int_inv, s1]
    · exact hr.elim
  | convert src t2 x =>
    simp only [cO] at hr
    split at hr
    · rename_i e e' i off n hs hs' hx
      split at hr
      · rename_i hk
        rw [chk_iff, chk_iff, chk_iff] at hr
        obtain ⟨hh, hsd, hn1, sz, cs, hi, hK⟩ := hr
        have hsd := Nat.eq_of_beq_eq_true hsd
        have hn1 := Nat.le_of_ble_eq_true hn1
        subst hsd
        have rx := opv_rel ha x
        rw [hx] at rx
        have rx0 := rx
        generalize hux : a.eval x = ux at rx
        cases rx with
        | sl i o n cap ad l hρ hn hm had hl =>
          have had := had (by omega)
          subst had
          obtain ⟨l', e1, g1, g2, cells, et, fr, g3, g4, g5, g6⟩ := r.obj i _ hi
          rw [hρ] at e1
          injection e1 with e1
          subst e1
          have hb := (Array.getElem?_eq_some_iff.1 g3).1
          obtain ⟨f1, f2⟩ := fr
          have hfr : frOk (f1, f2) cells.size := g5 rfl
          have hother : ∀ b, b ≠ l.b → (w.freeze ⟨l.b, cells.size, none⟩ 1).heap[b]? = w.heap[b]? := fun b hne => by
            simp [World.freeze, Array.getElem?_modify, hne.symm]
          have hself : ∃ fr', (w.freeze ⟨l.b, cells.size, none⟩ 1).heap[l.b]? = some (.cells cells et fr') ∧ frOk fr' cells.size := by
            refine ⟨_, by simp [World.freeze, Array.getElem?_modify, g3]; rfl, ?_⟩
            split
            · exact .inr (Nat.le_refl _)
            · rename_i hne
              rcases hfr with k | k
              · injection k with k1 k2
                subst k1 k2
                simp at hne
              · refine .inr ?_
                simp only at k ⊢
                omega
          obtain ⟨fr', s1, s2⟩ := hself
          have hset : h.set i (.row true sz cs) = h := H.set_self hi
          have r' : Rel ρ h (w.freeze ⟨l.b, cells.size, none⟩ 1) := by
            have := r.upd (ob' := .row true sz cs) hi rfl hρ hother ⟨g1, g2, cells, et, fr', s1, g4, fun _ => s2, g6⟩ rfl
            rw [hset] at this
            exact this
          have s' : Since ρ h w ρ h (w.freeze ⟨l.b, cells.size, none⟩ 1) := by
            have := Since.upd r (ob' := .row true sz cs) hi rfl hρ hother rfl rfl rfl rfl (by simp [World.freeze])
            rw [hset] at this
            exact this
          refine wp_value (u := a.eval x) (w' := w.freeze ⟨l.b, cells.size, none⟩ 1) ?_ ⟨_, h, ρ, a.eval x, rfl, hK, rx0, r', hd, s'⟩
          have hsh : w.shape? l.b = some (et, cells.size) := by simp [World.shape?, g3]
          simp only [execOp, hux]
          simp [convert, run_underlying (hT.of_sl hs), run_underlying (hT.of_int hk), markStringish, hsh]
      · exact hr.elim
    · exact hr.elim
  | range t x =>
    simp only [cO] at hr
    split at hr
    · rename_i kt et i ht hx
      split at hr
      · rename_i k hk
        obtain ⟨ms, hi, hK⟩ := hr
        have rx := opv_rel ha x
        rw [hx] at rx
        rcases rx.mp_inv with ⟨e, _⟩ | ⟨i2, l, e, e2, e3⟩
        · cases e
        injection e with e
        subst e
        obtain ⟨bs, cl, b1, b2, b3, s1, s2, s3⟩ := run_range_b (P := P) (hT.of_mp ht) r hd hi e3
        refine wp_value (u := .pointer (some ⟨w.heap.size, 0, none⟩)) (w' := w.alloc (.mapIter (some l.b) cl #[] cl)) ?_ ⟨_, _, _, _, rfl, hK bs cl b1 b2 b3, .ptr _ 0 ⟨w.heap.size, 0, 0, 0⟩ (Rho.add_self _ _ _), s2, hd.add _, s3⟩
        simp [execOp, e2, s1]
      · rename_i hne
        split at hr
        · rename_i k hk
          obtain ⟨ms, hi, hK⟩ := hr
          have rx := opv_rel ha x
          rw [hx] at rx
          rcases rx.mp_inv with ⟨e, _⟩ | ⟨i2, l, e, e2, e3⟩
          · cases e
          injection e with e
          subst e
          obtain ⟨bs, cl, b1, b2, b3, s1, s2, s3⟩ := run_range_p (P := P) (hT.of_mp ht) r hd hi e3
          refine wp_value (u := .pointer (some ⟨w.heap.size, 0, none⟩)) (w' := w.alloc (.mapIter (some l.b) cl #[] cl)) ?_ ⟨_, _, _, _, rfl, hK bs cl b1 b2 b3, .ptr _ 0 ⟨w.heap.size, 0, 0, 0⟩ (Rho.add_self _ _ _), s2, hd.add _, s3⟩
          simp [execOp, e2, s1]
        · exact hr.elim
    · exact hr.elim
  | next x isS =>
    cases isS with
    | true => exact hr.elim
    | false =>
    simp only [cO] at hr
    split at hr
    · rename_i j hx
      rcases hr with hr | hr
      · obtain ⟨i, cl, seen, k, ms, bs, hj, hi, h1, h2⟩ := hr
        have rx := opv_rel ha x
        rw [hx] at rx
        obtain ⟨l, hl, e⟩ := rx.ptr_inv
        rcases run_next_b (P := P) r hj hi hl type with ⟨a1, a2⟩ | ⟨p, n, v, b, u, w', m1, m2, m3, m4, m5, m6, m7⟩
        · refine wp_value (u := .tuple #[.bool false]) (w' := w) ?_ ⟨_, _, ρ, _, rfl, h2 a1, .tup [.bool false] [.bool false] rfl (fun j c u h1 h2 => ?_), r, hd, Since.refl _ _ _⟩
          · simp only [execOp, e]
            rw [Nat.add_zero] at a2
            simp [a2]
          · cases j with
            | zero =>
              simp at h1 h2
              subst h1 h2
              exact .bool false
            | succ j => simp at h1
        · refine wp_value (u := .tuple #[.bool true, .int k n, u]) (w' := w') ?_ ⟨_, _, ρ, _, rfl, h1 p n v b m1 m2 m3, .tup [.bool true, .int k n, v] [.bool true, .int k n, u] rfl (fun j c u' h1 h2 => ?_), m6, hd, m7⟩
          · simp only [execOp, e]
            rw [Nat.add_zero] at m5
            simp [m5]
          · cases j with
            | zero =>
              simp at h1 h2
              subst h1 h2
              exact .bool true
            | succ j =>
              cases j with
              | zero =>
                simp at h1 h2
                subst h1 h2
                exact .int k n
              | succ j =>
                cases j with
                | zero =>
                  simp at h1 h2
                  subst h1 h2
                  exact m4
                | succ j => simp at h1
      · obtain ⟨i, cl, seen, k, ms, bs, hj, hi, h1, h2⟩ := hr
        have rx := opv_rel ha x
        rw [hx] at rx
        obtain ⟨l, hl, e⟩ := rx.ptr_inv
        rcases run_next_p (P := P) r hj hi hl type with ⟨a1, a2⟩ | ⟨p, n, v, b, u, w', m1, m2, m3, m4, m5, m6, m7⟩
        · refine wp_value (u := .tuple #[.bool false]) (w' := w) ?_ ⟨_, _, ρ, _, rfl, h2 a1, .tup [.bool false] [.bool false] rfl (fun j c u h1 h2 => ?_), r, hd, Since.refl _ _ _⟩
          · simp only [execOp, e]
            rw [Nat.add_zero] at a2
            simp [a2]
          · cases j with
            | zero =>
              simp at h1 h2
              subst h1 h2
              exact .bool false
            | succ j => simp at h1
        · refine wp_value (u := .tuple #[.bool true, pkv k n, u]) (w' := w') ?_ ⟨_, _, ρ, _, rfl, h1 p n v b m1 m2 m3, .tup [.bool true, pk k n, v] [.bool true, pkv k n, u] rfl (fun j c u' h1 h2 => ?_), m6, hd, m7⟩
          · simp only [execOp, e]
            rw [Nat.add_zero] at m5
            simp [m5]
          · cases j with
            | zero =>
              simp at h1 h2
              subst h1 h2
              exact .bool true
            | succ j =>
              cases j with
              | zero =>
                simp at h1 h2
                subst h1 h2
                exact pk_of _ _ _
              | succ j =>
                cases j with
                | zero =>
                  simp at h1 h2
                  subst h1 h2
                  exact m4
                | succ j => simp at h1
    · exact hr.elim
  | entry x =>
    simp only [cO] at hr
    split at hr
    · rename_i j hx
      rcases hr with hr | hr
      · obtain ⟨i, cl, seen, k, ms, bs, p, n, v, b, hj, hi, hp, hm, hK⟩ := hr
        have rx := opv_rel ha x
        rw [hx] at rx
        obtain ⟨l, hl, e⟩ := rx.ptr_inv
        obtain ⟨u, m4, m5⟩ := run_entry_b (P := P) r hj hi hl hp hm
        refine wp_value (u := .tuple #[.int k n, u]) (w' := w) ?_ ⟨_, _, ρ, _, rfl, hK, .tup [.int k n, v] [.int k n, u] rfl (fun j c u' h1 h2 => ?_), r, hd, Since.refl _ _ _⟩
        · simp only [execOp, e]
          rw [Nat.add_zero] at m5
          simp [m5]
        · cases j with
          | zero =>
            simp at h1 h2
            subst h1 h2
            exact .int k n
          | succ j =>
            cases j with
            | zero =>
              simp at h1 h2
              subst h1 h2
              exact m4
            | succ j => simp at h1
      · obtain ⟨i, cl, seen, k, ms, bs, p, n, v, b, hj, hi, hp, hm, hK⟩ := hr
        have rx := opv_rel ha x
        rw [hx] at rx
        obtain ⟨l, hl, e⟩ := rx.ptr_inv
        obtain ⟨u, m4, m5⟩ := run_entry_p (P := P) r hj hi hl hp hm
        refine wp_value (u := .tuple #[pkv k n, u]) (w' := w) ?_ ⟨_, _, ρ, _, rfl, hK, .tup [pk k n, v] [pkv k n, u] rfl (fun j c u' h1 h2 => ?_), r, hd, Since.refl _ _ _⟩
        · simp only [execOp, e]
          rw [Nat.add_zero] at m5
          simp [m5]
        · cases j with
          | zero =>
            simp at h1 h2
            subst h1 h2
            exact pk_of _ _ _
          | succ j =>
            cases j with
            | zero =>
              simp at h1 h2
              subst h1 h2
              exact m4
            | succ j => simp at h1
    · exact hr.elim
  | _ => exact hr.elim

theorem opO_sound (hT : TOk P T) (hE : EqOk P T) {o : Oper} {env : Env} {h : H} {K : V → H → Prop} (hr : opO P T o env h K) {ρ : Rho} {N : Nat} {a : Act} {w : World} (ha : ERel ρ N env a) (r : Rel ρ h w) (hd : Dom ρ h.next) (Q : Exit → Act → World → Prop) :
    o.wp P a w (COut ρ h w o a K) Q := by
  unfold opO at hr
  split at hr
  · obtain ⟨v, hK, hs⟩ := pO_sound hT hE hr
    obtain ⟨u, h1, h2⟩ := hs ρ N a w ha
    exact wp_value h1 ⟨v, h, ρ, u, rfl, hK, h2, r, hd, Since.refl _ _ _⟩
  · obtain ⟨v, hK, hs⟩ := rO_sound hT hr
    obtain ⟨u, h1, h2⟩ := hs ρ N a w ha r
    exact wp_value h1 ⟨v, h, ρ, u, rfl, hK, h2, r, hd, Since.refl _ _ _⟩
  · obtain ⟨v, ob, hK, _, hs⟩ := aO_sound hT hr
    obtain ⟨u, w', l, h1, _, h2, h3, h4, h5⟩ := hs ρ N a w ha r hd
    exact wp_value h1 ⟨v, _, _, u, rfl, hK, h2, h3, h4, h5⟩
  · exact cO_sound hT hr ha r hd Q

/-- The guard, looked at. -/
theorem guardW_at {ops : Array Oper} {o : Oper} {env : Env} {K : Env → Bool → Prop} (hg : guardW ops o env K) {N : Nat} (hN : ∀ o ∈ ops, ∀ d, o.dst = some d → d < N) :
    ∃ env' go, K env' go ∧ (∀ t, get env' t = get env t) ∧ ∀ ρ (a : Act), a.tmps.size = N → (∀ t ∈ o.looksAt ops, VRel ρ (get env t) (a.tmps.getD t Go.undef)) → Region.wanted o (yielded ops a.tmps) = go := by
  unfold guardW at hg
  split at hg
  · rename_i e
    exact ⟨env, true, hg, fun _ => rfl, fun ρ a hz ha => by simp [Region.wanted, e]⟩
  · rename_i j want e
    split at hg
    · exact hg.elim
    · rename_i t ht
      have htN : t < N := by
        obtain ⟨o', h1, h2⟩ := Option.bind_eq_some_iff.1 ht
        exact hN o' (Array.mem_of_getElem? h1) t h2
      have htl : t ∈ o.looksAt ops := by
        unfold Oper.looksAt
        simp only [e, ht]
        simp
      have hy : ∀ (ρ : Rho) (a : Act), a.tmps.size = N → ∀ u, VRel ρ (get env t) u → u = a.tmps.getD t Go.undef → yielded ops a.tmps j = match u with
          | .bool b => some b
          | _ => none := by
        intro ρ a hz u hu e
        unfold yielded
        rw [ht]
        have hlt : t < a.tmps.size := by rw [hz]; exact htN
        simp only [Option.bind_some, Array.getElem?_eq_getElem hlt]
        have : a.tmps.getD t Go.undef = a.tmps[t] := by simp [hlt]
        rw [e, this]
        generalize a.tmps[t] = z
        cases z <;> rfl
      split at hg
      · rename_i g hgt
        rw [br_iff] at hg
        have hw : ∀ ρ (a : Act), a.tmps.size = N → (∀ t ∈ o.looksAt ops, VRel ρ (get env t) (a.tmps.getD t Go.undef)) → Region.wanted o (yielded ops a.tmps) = (g == want) := by
          intro ρ a hz ha
          have := ha t htl
          rw [hgt] at this
          have e2 := this.bool_inv
          have := hy ρ a hz _ (by rw [hgt]; exact .bool g) e2.symm
          simp only [Region.wanted, e]
          rw [this]
          cases g <;> cases want <;> rfl
        cases g with
        | true => exact ⟨_, want, hg.1 rfl, fun t' => by rw [get_cons]; split <;> simp_all, fun ρ a hz ha => by rw [hw ρ a hz ha]; cases want <;> rfl⟩
        | false => exact ⟨_, !want, hg.2 rfl, fun t' => by rw [get_cons]; split <;> simp_all, fun ρ a hz ha => by rw [hw ρ a hz ha]; cases want <;> rfl⟩
      · rename_i hgt
        refine ⟨env, false, hg, fun _ => rfl, fun ρ a hz ha => ?_⟩
        have := ha t htl
        rw [hgt] at this
        obtain ⟨us, e2, hus⟩ := this.tup_inv
        have := hy ρ a hz _ (ha t htl) rfl
        simp only [Region.wanted, e]
        rw [this, e2]
        rfl
      · exact hg.elim
theorem guardW_sound {ops : Array Oper} {o : Oper} {env : Env} {K : Env → Bool → Prop} (hg : guardW ops o env K) {N : Nat} (hN : ∀ o ∈ ops, ∀ d, o.dst = some d → d < N) :
    ∃ env' go, K env' go ∧ (∀ t, get env' t = get env t) ∧ ∀ ρ (a : Act), ERel ρ N env a → Region.wanted o (yielded ops a.tmps) = go := by
  obtain ⟨env', go, h1, h2, h3⟩ := guardW_at hg hN
  exact ⟨env', go, h1, h2, fun ρ a ha => h3 ρ a ha.size (fun t _ => ha.rel t)⟩
theorem ERel.same {ρ : Rho} {N : Nat} {env env' : Env} {a : Act} (h : ERel ρ N env a) (he : ∀ t, get env' t = get env t) : ERel ρ N env' a := ⟨h.size, fun t => by rw [he]; exact h.rel t⟩

/-- The state, since the function began. -/
structure G (ρ0 : Rho) (h0 : H) (w0 : World) (N : Nat) (ρ : Rho) (env : Env) (h : H) (a : Act) (w : World) : Prop where
  e : ERel ρ N env a
  r : Rel ρ h w
  d : Dom ρ h.next
  s : Since ρ0 h0 w0 ρ h w
  z : a.defers = []
theorem put_defers (a : Act) (d : Option Tmp) (u : Value) : (a.put d u).defers = a.defers := by cases d <;> rfl
/-- The abstract states that a concrete one may stand for, all of which are well. -/
def Good (ρ0 : Rho) (h0 : H) (w0 : World) (N : Nat) (K : Env → H → Prop) (a : Act) (w : World) : Prop := ∃ ρ env h, G ρ0 h0 w0 N ρ env h a w ∧ K env h

theorem wpN_sound (hT : TOk P T) (hE : EqOk P T) {ops : Array Oper} {N : Nat} (hN : ∀ o ∈ ops, ∀ d, o.dst = some d → d < N) {ρ0 : Rho} {h0 : H} {w0 : World} {K : Env → H → Prop} {Q : Exit → Act → World → Prop}
    (hQ : ∀ a w, Good ρ0 h0 w0 N K a w → Q .normal a w) : ∀ (l : List Oper) (i : Nat), (∀ j, ops[i + j]? = l[j]?) → ∀ (env : Env) (h : H) (ρ : Rho) (a : Act) (w : World), wpN P T ops l env h K → G ρ0 h0 w0 N ρ env h a w → wpOps P ops Q ((List.range l.length).map (i + ·)) a w
  | [], i, hl, env, h, ρ, a, w, hk, g => hQ a w ⟨ρ, env, h, g, hk⟩
  | o :: l, i, hl, env, h, ρ, a, w, hk, g => by
    have ho : ops[i]? = some o := by simpa using hl 0
    have hr : (List.range (o :: l).length).map (i + ·) = i :: (List.range l.length).map (i + 1 + ·) := by
      rw [List.length_cons, List.range_succ_eq_map]
      simp [Function.comp_def, Nat.add_assoc, Nat.add_comm 1]
    have hd := hN o (Array.mem_of_getElem? ho)
    have hl' : ∀ j, ops[i + 1 + j]? = l[j]? := fun j => by
      have := hl (j + 1)
      rw [Nat.add_assoc, Nat.add_comm 1 j]
      simpa using this
    rw [hr, wpOps_cons]
    unfold wpOp
    simp only [ho]
    obtain ⟨env1, go, hk1, he, hw⟩ := guardW_sound hk hN
    have ha1 := g.e.same he
    rw [hw ρ a g.e]
    cases go with
    | true =>
      simp only [if_true]
      refine .inl (Oper.wp_mono (fun a' w' hc => ?_) (opO_sound hT hE hk1 ha1 g.r g.d Q))
      obtain ⟨v, h', ρ', u, rfl, k1, k2, k3, k4, k5⟩ := hc
      obtain ⟨env', e1, e2⟩ := (ha1.mono k5.ext).put k2 hd k1
      exact wpN_sound hT hE hN hQ l (i + 1) hl' env' h' ρ' _ w' e2 ⟨e1, k3, k4, g.s.trans k5, by rw [put_defers]; exact g.z⟩
    | false =>
      simp only [Bool.false_eq_true, if_false]
      obtain ⟨env', e1, e2⟩ := ha1.put (.tup [] [] rfl (fun j c u hc => by simp at hc)) hd hk1
      exact wpN_sound hT hE hN hQ l (i + 1) hl' env' h ρ _ w e2 ⟨e1, g.r, g.d, g.s, by rw [put_defers]; exact g.z⟩
end
end Go.Ab
/-! Regions whose order Go leaves open. -/
namespace Go.Ab
open Go

theorem get_restr (env : Env) : ∀ (ts : List Nat) (t : Nat), get (restr env ts) t = if t ∈ ts then get env t else .undef
  | [], t => rfl
  | x :: r, t => by
    rw [restr, get_cons, get_restr env r]
    by_cases h : x = t
    · subst h
      simp
    · rw [if_neg h]
      simp [Ne.symm h]
/-- What the table of what goes ahead of what must be. -/
structure DOk (T : TT) (ops : Array Oper) (L B : List Nat) : Prop where
  all : ∀ i, i < ops.size → i ∈ L
  op : ∀ i, i ∈ L → ∃ o, ops[i]? = some o
  step : ∀ pre i r, L = pre ++ i :: r → ∀ o, ops[i]? = some o → dStep T ops B pre i o = true
theorem dChk_spec {T : TT} {ops : Array Oper} {B : List Nat} : ∀ (L pre : List Nat), dChk T ops B pre L = true → (∀ i, i ∈ L → ∃ o, ops[i]? = some o) ∧ ∀ p i r, L = p ++ i :: r → ∀ o, ops[i]? = some o → dStep T ops B (pre ++ p) i o = true
  | [], pre, h => ⟨(fun i hi => by cases hi), (fun p i r e => by cases p <;> cases e)⟩
  | i :: L, pre, h => by
    simp only [dChk, Bool.and_eq_true] at h
    obtain ⟨h1, h2⟩ := h
    obtain ⟨k1, k2⟩ := dChk_spec L _ h2
    cases ho : ops[i]? with
    | none => simp [ho] at h1
    | some o =>
      simp only [ho] at h1
      refine ⟨fun j hj => ?_, fun p j r e oj hoj => ?_⟩
      · rcases List.mem_cons.1 hj with rfl | hj
        · exact ⟨o, ho⟩
        · exact k1 j hj
      · cases p with
        | nil =>
          injection e with e1 e2
          subst e1
          rw [ho] at hoj
          injection hoj with hoj
          subst hoj
          simpa using h1
        | cons x p =>
          injection e with e1 e2
          subst e1
          have := k2 p j r e2 oj hoj
          rwa [List.append_assoc] at this
theorem dOk_spec {T : TT} {ops : Array Oper} {L B : List Nat} (h : dOk T ops L B = true) : DOk T ops L B := by
  simp only [dOk, Bool.and_eq_true, List.all_eq_true, List.mem_range] at h
  obtain ⟨k1, k2⟩ := dChk_spec L [] h.1
  exact ⟨fun i hi => by simpa using (h.2 i hi).1, k1, fun pre i r e o ho => by simpa using k2 pre i r e o ho⟩
section
variable {T : TT} {ops : Array Oper} {L B : List Nat}
theorem DOk.fresh (d : DOk T ops L B) {pre : List Nat} {i : Nat} {r : List Nat} (e : L = pre ++ i :: r) : i ∉ pre := by
  obtain ⟨o, ho⟩ := d.op i (by rw [e]; simp)
  have := d.step pre i r e o ho
  simp [dStep] at this
  exact this.1.1.1.1
theorem DOk.edge (d : DOk T ops L B) {pre : List Nat} {i : Nat} {r : List Nat} (e : L = pre ++ i :: r) {o : Oper} (ho : ops[i]? = some o) {g : Edge} (hg : g ∈ o.after) (hb : Region.binds .any g = true) : g.on ∈ pre := by
  have := d.step pre i r e o ho
  simp only [dStep, Bool.and_eq_true, List.all_eq_true] at this
  have := this.1.1.1.2 g (by simpa using hg)
  rw [hb] at this
  simpa using this
theorem DOk.bef (d : DOk T ops L B) {pre : List Nat} {i : Nat} {r : List Nat} (e : L = pre ++ i :: r) {o : Oper} (ho : ops[i]? = some o) {j : Nat} (hj : j < ops.size) (hb : (B.getD i 0).testBit j = true) :
    j ∈ pre ∧ ∃ g ∈ o.after, Region.binds .any g = true ∧ (g.on = j ∨ (B.getD g.on 0).testBit j = true) := by
  have := d.step pre i r e o ho
  simp only [dStep, Bool.and_eq_true, List.all_eq_true] at this
  have := this.1.1.2 j (by simpa using hj)
  rw [hb] at this
  simp only [Bool.not_true, Bool.false_or, Bool.and_eq_true, List.any_eq_true, List.contains_iff_mem, Bool.or_eq_true, beq_iff_eq] at this
  obtain ⟨h1, g, h2, h3, h4⟩ := this
  exact ⟨h1, g, by simpa using h2, h3, h4⟩
theorem DOk.chain (d : DOk T ops L B) {pre : List Nat} {i : Nat} {r : List Nat} (e : L = pre ++ i :: r) {c : Nat} (hc : c ∈ pre) (hch : isChain T ops c = true) : (B.getD i 0).testBit c = true := by
  obtain ⟨o, ho⟩ := d.op i (by rw [e]; simp)
  have := d.step pre i r e o ho
  simp only [dStep, Bool.and_eq_true, List.all_eq_true] at this
  have := this.1.2 c hc
  rw [hch] at this
  simpa using this
theorem DOk.conf (d : DOk T ops L B) {pre : List Nat} {i : Nat} {r : List Nat} (e : L = pre ++ i :: r) {o oj : Oper} (ho : ops[i]? = some o) {j : Nat} (hj : j ∈ pre) (hoj : ops[j]? = some oj) (hc : conf ops o oj = true) : (B.getD i 0).testBit j = true := by
  have := d.step pre i r e o ho
  simp only [dStep, Bool.and_eq_true, List.all_eq_true] at this
  have := this.2 j hj
  simp only [hoj, hc] at this
  simpa using this
theorem split_at {i : Nat} (h : i ∈ L) : ∃ pre r, L = pre ++ i :: r := List.append_of_mem h
end

/-- The temporaries after some of the operations of l, in l's order. -/
def foldF (dst : Nat → Option Nat) (vals : Nat → V) (p : Nat → Bool) : List Nat → (Nat → V) → Nat → V
  | [], f => f
  | i :: l, f => foldF dst vals p l (if p i then fun t => if dst i = some t then vals i else f t else f)
theorem foldF_eq (dst : Nat → Option Nat) (vals : Nat → V) (p : Nat → Bool) : ∀ (l : List Nat) (f : Nat → V) (t : Nat), foldF dst vals p l f t = (l.filter fun i => p i && decide (dst i = some t)).foldl (fun _ i => vals i) (f t)
  | [], f, t => rfl
  | i :: l, f, t => by
    rw [foldF, foldF_eq dst vals p l]
    by_cases h1 : p i = true <;> by_cases h2 : dst i = some t <;> simp [h1, h2]
theorem foldF_append (dst : Nat → Option Nat) (vals : Nat → V) (p : Nat → Bool) (l m : List Nat) (f : Nat → V) : foldF dst vals p (l ++ m) f = foldF dst vals p m (foldF dst vals p l f) := by
  induction l generalizing f with
  | nil => rfl
  | cons i l ih => exact ih _
theorem foldF_congr {dst : Nat → Option Nat} {vals vals' : Nat → V} {p : Nat → Bool} : ∀ (l : List Nat) (f : Nat → V), (∀ i ∈ l, vals i = vals' i) → foldF dst vals p l f = foldF dst vals' p l f
  | [], f, h => rfl
  | i :: l, f, h => by
    rw [foldF, foldF, h i (by simp)]
    exact foldF_congr l _ (fun j hj => h j (by simp [hj]))
end Go.Ab
/-! Regions whose order Go leaves open: soundness. -/
namespace Go.Ab
open Go

theorem Rel.unpush {ρ : Rho} {h : H} {ob : Obj} {w : World} (r : Rel ρ (h.push ob) w) : Rel ρ h w :=
  ⟨fun i o hi => r.obj i o (H.obj_push ob hi), fun i j oi oj li lj hi hj => r.sep i j oi oj li lj (H.obj_push ob hi) (H.obj_push ob hj)⟩
section
variable {P : Program} {T : TT}
def dstOf (ops : Array Oper) (i : Nat) : Option Nat := (ops[i]?).bind (·.dst)
/-- A light operation that may be carried out later: it will give its value. -/
def Lt (P : Program) (T : TT) (ops : Array Oper) (N : Nat) (i : Nat) (ge : Nat → V) (v : V) (pend : List Pend) (h : H) : Prop :=
  ∃ o env go, ops[i]? = some o ∧ isChain T ops i = false ∧ (∀ t, get env t = ge t) ∧
    (∀ ρ (a : Act), a.tmps.size = N → (∀ t ∈ o.looksAt ops, VRel ρ (get env t) (a.tmps.getD t Go.undef)) → Region.wanted o (yielded ops a.tmps) = go) ∧
    (go = false → v = .tup []) ∧ (go = true → PSem P o (restr env (o.looksAt ops)) v ∨ (RSem P o (restr env (o.looksAt ops)) h v ∧ ⟨i, o, restr env (o.looksAt ops), v⟩ ∈ pend))
variable {ops : Array Oper} {L B : List Nat} {N : Nat}
/-- The canonical course, as far as it has come, and what has been done of it. -/
structure Inv (P : Program) (T : TT) (ops : Array Oper) (L B : List Nat) (N : Nat) (ρ0 : Rho) (h0 : H) (w0 : World) (K : Env → H → Prop) (f0 : Nat → V) (S : Nat → Bool) (L1 L2 : List Nat) (vals : Nat → V) (pend : List Pend) (env : Env) (h : H) (ρ : Rho) (a : Act) (w : World) : Prop where
  hL : L = L1 ++ L2
  sub : ∀ i, S i = true → i ∈ L1
  cl : ∀ i, S i = true → ∀ j, j < ops.size → (B.getD i 0).testBit j = true → S j = true
  ch : ∀ c ∈ L1, isChain T ops c = true → S c = true
  ev : ∀ t, get env t = foldF (dstOf ops) vals (fun _ => true) L1 f0 t
  wp : wpD P T ops B L2 pend env h K
  lt : ∀ pre i post, L1 = pre ++ i :: post → S i = false → Lt P T ops N i (foldF (dstOf ops) vals (fun _ => true) pre f0) (vals i) pend h
  size : a.tmps.size = N
  er : ∀ t, VRel ρ (foldF (dstOf ops) vals S L1 f0 t) (a.tmps.getD t Go.undef)
  r : Rel ρ h w
  d : Dom ρ h.next
  s : Since ρ0 h0 w0 ρ h w
  z : a.defers = []

theorem mem_unique {l1 l2 m1 m2 : List Nat} {i : Nat} (h : l1 ++ i :: l2 = m1 ++ i :: m2) (h1 : i ∉ l1) (h2 : i ∉ m1) : l1 = m1 := by
  induction l1 generalizing m1 with
  | nil =>
    cases m1 with
    | nil => rfl
    | cons x m1 =>
      injection h with h _
      subst h
      simp at h2
  | cons y l1 ih =>
    cases m1 with
    | nil =>
      injection h with h _
      subst h
      simp at h1
    | cons x m1 =>
      injection h with e1 e2
      subst e1
      rw [ih e2 (fun hm => h1 (by simp [hm])) (fun hm => h2 (by simp [hm]))]

/-- On with the canonical course, up to the next operation that makes or turns memory. -/
theorem advance (hT : TOk P T) (hE : EqOk P T) (dk : DOk T ops L B) (hN : ∀ o ∈ ops, ∀ d, o.dst = some d → d < N) {ρ0 : Rho} {h0 : H} {w0 : World} {K : Env → H → Prop} {f0 : Nat → V} {S : Nat → Bool} {h : H} {ρ : Rho} {a : Act} {w : World} :
    ∀ (L2 L1 : List Nat) (vals : Nat → V) (pend : List Pend) (env : Env), Inv P T ops L B N ρ0 h0 w0 K f0 S L1 L2 vals pend env h ρ a w →
      ∃ M1 M2 vals' pend' env', Inv P T ops L B N ρ0 h0 w0 K f0 S M1 M2 vals' pend' env' h ρ a w ∧ (M2 = [] ∨ ∃ c r, M2 = c :: r ∧ isChain T ops c = true)
  | [], L1, vals, pend, env, I => ⟨L1, [], vals, pend, env, I, .inl rfl⟩
  | i :: L2, L1, vals, pend, env, I => by
    cases hch : isChain T ops i with
    | true => exact ⟨L1, i :: L2, vals, pend, env, I, .inr ⟨i, L2, rfl, hch⟩⟩
    | false =>
      obtain ⟨o, ho⟩ := dk.op i (by rw [I.hL]; simp)
      have hi1 : i ∉ L1 := dk.fresh I.hL
      have hSi : S i = false := by
        cases hs : S i with
        | false => rfl
        | true => exact absurd (I.sub i hs) hi1
      have hw := I.wp
      simp only [wpD, ho] at hw
      obtain ⟨env1, go, hw, he, hg⟩ := guardW_at hw hN
      have hd := hN o (Array.mem_of_getElem? ho)
      have hdst : dstOf ops i = o.dst := by simp [dstOf, ho]
      -- what is to be shown of the next state, whatever the value
      have next : ∀ (v : V) (pend' : List Pend) (env2 : Env), (∀ p ∈ pend, p ∈ pend') → (∀ t, get env2 t = if o.dst = some t then v else get env1 t) → (go = false → v = .tup []) →
          (go = true → PSem P o (restr env1 (o.looksAt ops)) v ∨ (RSem P o (restr env1 (o.looksAt ops)) h v ∧ ⟨i, o, restr env1 (o.looksAt ops), v⟩ ∈ pend')) → wpD P T ops B L2 pend' env2 h K →
          Inv P T ops L B N ρ0 h0 w0 K f0 S (L1 ++ [i]) L2 (fun j => if j = i then v else vals j) pend' env2 h ρ a w := by
        intro v pend' env2 hp h2 hf ht hwp
        have hv : ∀ j ∈ L1, (fun j => if j = i then v else vals j) j = vals j := fun j hj => by
          simp only
          rw [if_neg]
          rintro rfl
          exact hi1 hj
        refine ⟨by rw [I.hL]; simp, fun j hj => by simp [I.sub j hj], I.cl, fun c hc hcc => ?_, fun t => ?_, hwp, fun pre j post e hsj => ?_, I.size, fun t => ?_, I.r, I.d, I.s, I.z⟩
        · rcases List.mem_append.1 hc with hc | hc
          · exact I.ch c hc hcc
          · rw [List.mem_singleton.1 hc, hch] at hcc
            cases hcc
        · rw [foldF_append, h2, foldF_congr _ _ hv]
          simp only [foldF, if_true, hdst]
          split
          · rfl
          · rw [he, I.ev]
        · rcases List.append_eq_append_iff.1 (show L1 ++ [i] = pre ++ j :: post from e) with ⟨m, e1, e2⟩ | ⟨m, e1, e2⟩
          · -- j is i, or behind it
            cases m with
            | nil =>
              simp at e1 e2
              obtain ⟨rfl, rfl⟩ := e2
              subst e1
              refine ⟨o, env1, go, ho, hch, fun t => ?_, fun ρ a hz hl => hg ρ a hz (fun t ht => by rw [← he]; exact hl t ht), by simpa using hf, by simpa using ht⟩
              rw [he, I.ev, foldF_congr _ _ hv]
            | cons x m =>
              injection e2 with e2 e3
              subst e2
              cases m <;> simp at e3
          · cases m with
            | nil =>
              simp at e1 e2
              obtain ⟨rfl, rfl⟩ := e2
              subst e1
              refine ⟨o, env1, go, ho, hch, fun t => ?_, fun ρ a hz hl => hg ρ a hz (fun t ht => by rw [← he]; exact hl t ht), by simpa using hf, by simpa using ht⟩
              rw [he, I.ev, foldF_congr _ _ hv]
            | cons x m =>
              injection e2 with e2 e3
              subst e2
              have hj1 : j ∈ L1 := by rw [e1]; simp
              obtain ⟨o', env', go', k1, k2, k3, k4, k5, k6⟩ := I.lt pre j m e1 hsj
              have hvj : (if j = i then v else vals j) = vals j := hv j hj1
              refine ⟨o', env', go', k1, k2, fun t => ?_, k4, by rw [hvj]; exact k5, fun hgo => ?_⟩
              · rw [k3, foldF_congr pre f0 (fun x hx => hv x (by rw [e1]; simp [hx]))]
              · rw [hvj]
                rcases k6 hgo with k | ⟨k, k'⟩
                · exact .inl k
                · exact .inr ⟨k, hp _ k'⟩
        · have := I.er t
          rw [foldF_append, foldF_congr _ _ hv]
          simpa [foldF, hSi] using this
      have putv : ∀ {v : V} {X : Env → Prop}, put env1 o.dst v X → ∃ env2, (∀ t, get env2 t = if o.dst = some t then v else get env1 t) ∧ X env2 := by
        intro v X hx
        unfold put at hx
        split at hx
        · rename_i t e
          exact ⟨_, fun t' => by rw [get_cons, e]; simp, hx⟩
        · rename_i e
          exact ⟨_, fun t' => by simp [e], hx⟩
      cases go with
      | false =>
        simp only at hw
        obtain ⟨env2, h2, hw⟩ := putv hw
        exact advance hT hE dk hN L2 (L1 ++ [i]) _ pend env2 (next _ pend env2 (fun p hp => hp) h2 (fun _ => rfl) (fun e => by cases e) hw)
      | true =>
        simp only at hw
        have hcls : ∀ q, cls T o.op = q → isChain T ops i = (match q with
            | .a => true
            | .c => true
            | _ => false) := by
          intro q hc
          (simp only [isChain, ho, hc]) <;> (cases q <;> rfl)
        cases hc : cls T o.op with
        | a =>
          rw [hcls _ hc] at hch
          cases hch
        | c =>
          rw [hcls _ hc] at hch
          cases hch
        | p =>
          rw [hc] at hw
          obtain ⟨v, hw, hs⟩ := pO_sound hT hE hw
          obtain ⟨env2, h2, hw⟩ := putv hw
          exact advance hT hE dk hN L2 (L1 ++ [i]) _ pend env2 (next _ pend env2 (fun p hp => hp) h2 (fun e => by cases e) (fun _ => .inl hs) hw)
        | r =>
          rw [hc] at hw
          obtain ⟨v, hw, hs⟩ := rO_sound hT hw
          obtain ⟨env2, h2, hw⟩ := putv hw
          exact advance hT hE dk hN L2 (L1 ++ [i]) _ _ env2 (next _ _ env2 (fun p hp => by simp [hp]) h2 (fun e => by cases e) (fun _ => .inr ⟨hs, by simp⟩) hw)

/-- What an operation sees, when all that must be ahead of it has been done, is what it sees in the canonical course. -/
theorem sees (dk : DOk T ops L B) {pre r : List Nat} {i : Nat} {o : Oper} (e : L = pre ++ i :: r) (ho : ops[i]? = some o) {S : Nat → Bool} {L1 : List Nat} {vals : Nat → V} {f0 : Nat → V} (hL1 : L1 = pre ∨ ∃ post, L1 = pre ++ i :: post) (hsub : ∀ j ∈ L1, j ∈ L) (hL2 : ∃ M, L = L1 ++ M)
    (hcl : ∀ i, S i = true → ∀ j, j < ops.size → (B.getD i 0).testBit j = true → S j = true) (hSi : S i = false) (hb : ∀ j, j < ops.size → (B.getD i 0).testBit j = true → S j = true) {t : Nat} (ht : t ∈ o.looksAt ops) :
    foldF (dstOf ops) vals (fun _ => true) pre f0 t = foldF (dstOf ops) vals S L1 f0 t := by
  rw [foldF_eq, foldF_eq]
  congr 1
  have hlt : ∀ j, j ∈ L → ∃ oj, ops[j]? = some oj ∧ j < ops.size := fun j hj => by
    obtain ⟨oj, h⟩ := dk.op j hj
    exact ⟨oj, h, (Array.getElem?_eq_some_iff.1 h).1⟩
  have hpre : pre.filter (fun j => true && decide (dstOf ops j = some t)) = pre.filter (fun j => S j && decide (dstOf ops j = some t)) := by
    refine List.filter_congr fun j hj => ?_
    by_cases hd : dstOf ops j = some t
    · obtain ⟨oj, hoj, hjn⟩ := hlt j (by rw [e]; simp [hj])
      have hdj : oj.dst = some t := by simpa [dstOf, hoj] using hd
      have hc : conf ops o oj = true := by simp [conf, hdj, ht]
      have := hb j hjn (dk.conf e ho hj hoj hc)
      simp [this]
    · simp [hd]
  rcases hL1 with rfl | ⟨post, rfl⟩
  · exact hpre
  · rw [List.filter_append, ← hpre, List.filter_cons]
    simp only [hSi, Bool.false_and, Bool.false_eq_true, if_false]
    have : post.filter (fun j => S j && decide (dstOf ops j = some t)) = [] := by
      rw [List.filter_eq_nil_iff]
      intro j hj hcon
      simp only [Bool.and_eq_true, decide_eq_true_eq] at hcon
      obtain ⟨hSj, hd⟩ := hcon
      obtain ⟨oj, hoj, hjn⟩ := hlt j (hsub j (by simp [hj]))
      have hdj : oj.dst = some t := by simpa [dstOf, hoj] using hd
      have hc : conf ops oj o = true := by simp [conf, hdj, ht]
      obtain ⟨p1, p2, rfl⟩ := List.append_of_mem hj
      obtain ⟨M, hM⟩ := hL2
      have e2 : L = (pre ++ i :: p1) ++ j :: (p2 ++ M) := by rw [hM]; simp
      have hbit := dk.conf e2 hoj (show i ∈ pre ++ i :: p1 by simp) ho hc
      have := hcl j hSj i (Array.getElem?_eq_some_iff.1 ho).1 hbit
      rw [hSi] at this
      cases this
    rw [this, List.append_nil]

theorem ERel.restr {ρ : Rho} {N : Nat} {env : Env} {a : Act} {ts : List Nat} (hz : a.tmps.size = N) (h : ∀ t ∈ ts, VRel ρ (get env t) (a.tmps.getD t Go.undef)) : ERel ρ N (restr env ts) a := by
  refine ⟨hz, fun t => ?_⟩
  rw [get_restr]
  split
  · rename_i ht
    exact h t ht
  · exact .undef _
theorem still_sound (hT : TOk P T) {bef : Nat} {h' : H} : ∀ (pend : List Pend) {X : Prop}, still T bef h' pend X → X ∧ ∀ p ∈ pend, bef.testBit p.j = true ∨ RSem P p.o p.env h' p.v
  | [], X, h => ⟨h, fun p hp => by cases hp⟩
  | q :: pend, X, h => by
    unfold still at h
    split at h
    · rename_i hb
      obtain ⟨k1, k2⟩ := still_sound hT pend h
      refine ⟨k1, fun p hp => ?_⟩
      rcases List.mem_cons.1 hp with rfl | hp
      · exact .inl hb
      · exact k2 p hp
    · obtain ⟨h1, h2⟩ := h
      obtain ⟨k1, k2⟩ := still_sound hT pend h2
      refine ⟨k1, fun p hp => ?_⟩
      rcases List.mem_cons.1 hp with rfl | hp
      · obtain ⟨v, rfl, hs⟩ := rO_sound (P := P) hT h1
        exact .inr hs
      · exact k2 p hp
theorem mem_ready' {i : Nat} {listed : Array Bool} (h : i ∈ Region.ready .any ops listed) : listed.getD i true = false ∧ ∃ o, ops[i]? = some o ∧ ∀ g ∈ o.after, Region.binds .any g = true → listed.getD g.on false = true := by
  simp only [Region.ready, List.mem_filter, List.mem_range, Bool.and_eq_true, Bool.not_eq_true'] at h
  obtain ⟨h1, h2, h3⟩ := h
  refine ⟨h2, ops[i], Array.getElem?_eq_getElem h1, fun g hg hb => ?_⟩
  rw [Array.getElem?_eq_getElem h1] at h3
  simp only [Option.map_some, Option.getD_some, Array.all_eq_true'] at h3
  have := h3 g hg
  rw [hb] at this
  simpa using this
theorem listed_set {listed : Array Bool} {i j : Nat} (hi : i < listed.size) : (listed.setIfInBounds i true).getD j false = if j = i then true else listed.getD j false := by
  simp only [Array.getD_eq_getD_getElem?, Array.getElem?_setIfInBounds]
  by_cases h : j = i
  · subst h
    simp [hi]
  · rw [if_neg (Ne.symm h), if_neg h]

theorem foldF_congr_p {dst : Nat → Option Nat} {vals : Nat → V} {p p' : Nat → Bool} : ∀ (l : List Nat) (f : Nat → V), (∀ i ∈ l, p i = p' i) → foldF dst vals p l f = foldF dst vals p' l f
  | [], f, h => rfl
  | i :: l, f, h => by
    rw [foldF, foldF, h i (by simp)]
    exact foldF_congr_p l _ (fun j hj => h j (by simp [hj]))
theorem put_rel {ρ : Rho} {a : Act} {d : Option Tmp} {v : V} {u : Value} {f : Nat → V} (hz : ∀ t, d = some t → t < a.tmps.size) (h : ∀ t, VRel ρ (f t) (a.tmps.getD t Go.undef)) (hv : VRel ρ v u) : ∀ t, VRel ρ (if d = some t then v else f t) ((a.put d u).tmps.getD t Go.undef) := by
  intro t
  cases d with
  | none => simpa [Act.put] using h t
  | some s =>
    simp only [Act.put, Option.some.injEq]
    split
    · rename_i e
      subst e
      have := hz s rfl
      simpa [Array.getD_eq_getD_getElem?, this] using hv
    · rename_i e
      have := h t
      simp only [Array.getD_eq_getD_getElem?] at this ⊢
      rw [Array.getElem?_setIfInBounds_ne e]
      exact this
/-- An operation that makes or turns memory has been done. -/
theorem Inv.chain {ρ0 : Rho} {h0 : H} {w0 : World} {K : Env → H → Prop} {f0 : Nat → V} {S S' : Nat → Bool} {L1 r : List Nat} {i : Nat} {vals : Nat → V} {pend : List Pend} {env env2 : Env} {h h' : H} {ρ ρ' : Rho} {a : Act} {w w' : World} {o : Oper} {v : V} {u : Value}
    (I : Inv P T ops L B N ρ0 h0 w0 K f0 S L1 (i :: r) vals pend env h ρ a w) (dk : DOk T ops L B) (ho : ops[i]? = some o) (hS' : ∀ j, S' j = if j = i then true else S j) (hcl' : ∀ k, S' k = true → ∀ j, j < ops.size → (B.getD k 0).testBit j = true → S' j = true)
    (h2 : ∀ t, get env2 t = if o.dst = some t then v else get env t) (hwp : wpD P T ops B r pend env2 h' K) (hd : ∀ d, o.dst = some d → d < N) (hv : VRel ρ' v u) (hr : Rel ρ' h' w') (hdom : Dom ρ' h'.next) (hs : Since ρ h w ρ' h' w')
    (hkeep : ∀ p ∈ pend, S p.j = false → p.j ∈ L1 → RSem P p.o p.env h p.v → RSem P p.o p.env h' p.v) :
    Inv P T ops L B N ρ0 h0 w0 K f0 S' (L1 ++ [i]) r (fun j => if j = i then v else vals j) pend env2 h' ρ' (a.put o.dst u) w' := by
  have hi1 : i ∉ L1 := dk.fresh I.hL
  have hdst : dstOf ops i = o.dst := by simp [dstOf, ho]
  have hvv : ∀ j ∈ L1, (fun j => if j = i then v else vals j) j = vals j := fun j hj => by
    simp only
    rw [if_neg]
    rintro rfl
    exact hi1 hj
  have hSS : ∀ j ∈ L1, S' j = S j := fun j hj => by
    rw [hS', if_neg]
    rintro rfl
    exact hi1 hj
  refine ⟨by rw [I.hL]; simp, fun j hj => ?_, hcl', fun c hc hcc => ?_, fun t => ?_, hwp, fun pre j post e hsj => ?_, ?_, fun t => ?_, hr, hdom, I.s.trans hs, by rw [put_defers]; exact I.z⟩
  · rw [hS'] at hj
    split at hj
    · rename_i e
      rw [e]
      simp
    · simp [I.sub j hj]
  · rcases List.mem_append.1 hc with hc | hc
    · rw [hSS c hc]
      exact I.ch c hc hcc
    · rw [List.mem_singleton.1 hc, hS', if_pos rfl]
  · rw [foldF_append, h2, foldF_congr _ _ hvv]
    simp only [foldF, if_true, hdst]
    split
    · rfl
    · rw [I.ev]
  · have hji : j ≠ i := by
      rintro rfl
      rw [hS', if_pos rfl] at hsj
      cases hsj
    have hsj' : S j = false := by
      rw [hS', if_neg hji] at hsj
      exact hsj
    have hj1 : j ∈ L1 := by
      have : j ∈ L1 ++ [i] := by rw [e]; simp
      rcases List.mem_append.1 this with h | h
      · exact h
      · exact absurd (List.mem_singleton.1 h) hji
    obtain ⟨p1, m, e1⟩ := List.append_of_mem hj1
    have hpp : p1 = pre := by
      have e2 : L = p1 ++ j :: (m ++ i :: r) := by rw [I.hL, e1]; simp
      have e3 : L = pre ++ j :: (post ++ r) := by
        rw [I.hL]
        have : L1 ++ i :: r = (L1 ++ [i]) ++ r := by simp
        rw [this, e]
        simp
      exact mem_unique (e2.symm.trans e3) (dk.fresh e2) (dk.fresh e3)
    subst hpp
    obtain ⟨o', env', go', k1, k2, k3, k4, k5, k6⟩ := I.lt p1 j m e1 hsj'
    have hvj : (if j = i then v else vals j) = vals j := hvv j hj1
    refine ⟨o', env', go', k1, k2, fun t => ?_, k4, by rw [hvj]; exact k5, fun hgo => ?_⟩
    · rw [k3, foldF_congr p1 f0 (fun x hx => hvv x (by rw [e1]; simp [hx]))]
    · rw [hvj]
      rcases k6 hgo with k | ⟨k, k'⟩
      · exact .inl k
      · exact .inr ⟨hkeep _ k' hsj' hj1 k, k'⟩
  · simpa [Act.put] using (by cases hdd : o.dst <;> simp [Act.put, I.size] : (a.put o.dst u).tmps.size = N)
  · have := put_rel (d := o.dst) (v := v) (u := u) (f := foldF (dstOf ops) vals S L1 f0) (a := a) (ρ := ρ') (fun t ht => by rw [I.size]; exact hd t ht) (fun t => (I.er t).mono hs.ext) hv t
    rw [foldF_append, foldF_congr _ _ hvv, foldF_congr_p _ _ hSS]
    simp only [foldF, hS', if_true, hdst]
    exact this
theorem wpAny_inv (hT : TOk P T) (hE : EqOk P T) (dk : DOk T ops L B) (hN : ∀ o ∈ ops, ∀ d, o.dst = some d → d < N) {ρ0 : Rho} {h0 : H} {w0 : World} {K : Env → H → Prop} {f0 : Nat → V} {Q : Exit → Act → World → Prop}
    (hQ : ∀ a w, Good ρ0 h0 w0 N K a w → Q .normal a w) : ∀ (fuel : Nat) (listed : Array Bool) (L1 L2 : List Nat) (vals : Nat → V) (pend : List Pend) (env : Env) (h : H) (ρ : Rho) (a : Act) (w : World),
      listed.size = ops.size → (listed.toList.count false ≤ fuel) → Inv P T ops L B N ρ0 h0 w0 K f0 (fun i => listed.getD i false) L1 L2 vals pend env h ρ a w → (L2 = [] ∨ ∃ c r, L2 = c :: r ∧ isChain T ops c = true) → wpAny P .any ops Q fuel listed a w := by
  -- nothing is ready: all has been done
  have fin : ∀ (listed : Array Bool) (L1 L2 : List Nat) (vals : Nat → V) (pend : List Pend) (env : Env) (h : H) (ρ : Rho) (a : Act) (w : World),
      listed.size = ops.size → Inv P T ops L B N ρ0 h0 w0 K f0 (fun i => listed.getD i false) L1 L2 vals pend env h ρ a w → Region.ready .any ops listed = [] → Q .normal a w := by
    intro listed L1 L2 vals pend env h ρ a w hsz I hr
    have hall : ∀ (m pre post : List Nat), L = pre ++ m → (∀ i ∈ pre, listed.getD i false = true) → ∀ i ∈ L, listed.getD i false = true := by
      intro m
      induction m with
      | nil => intro pre post e hp i hi; rw [e] at hi; exact hp i (by simpa using hi)
      | cons x m ih =>
        intro pre post e hp i hi
        refine ih (pre ++ [x]) post (by rw [e]; simp) (fun j hj => ?_) i hi
        rcases List.mem_append.1 hj with hj | hj
        · exact hp j hj
        · rw [List.mem_singleton.1 hj]
          obtain ⟨o, ho⟩ := dk.op x (by rw [e]; simp)
          have hxn := (Array.getElem?_eq_some_iff.1 ho).1
          cases hx : listed.getD x false with
          | true => rfl
          | false =>
            exfalso
            have hx' : listed.getD x true = false := by
              rw [Array.getD_eq_getD_getElem?, Array.getElem?_eq_getElem (by omega)] at hx ⊢
              simpa using hx
            have : x ∈ Region.ready .any ops listed := by
              simp only [Region.ready, List.mem_filter, List.mem_range, Bool.and_eq_true, Bool.not_eq_true']
              refine ⟨hxn, hx', ?_⟩
              rw [ho]
              simp only [Option.map_some, Option.getD_some, Array.all_eq_true']
              intro g hg
              cases hb : Region.binds .any g with
              | false => rfl
              | true =>
                have := hp _ (dk.edge e ho hg hb)
                simpa using this
            rw [hr] at this
            cases this
    have hS := hall L [] [] rfl (fun i hi => by cases hi)
    have hL2 : L2 = [] := by
      cases L2 with
      | nil => rfl
      | cons x m =>
        have h1 := I.sub x (hS x (by rw [I.hL]; simp))
        exact absurd h1 (dk.fresh I.hL)
    subst hL2
    refine hQ a w ⟨ρ, env, h, ⟨⟨I.size, fun t => ?_⟩, I.r, I.d, I.s, I.z⟩, I.wp⟩
    have := I.er t
    rw [I.ev]
    rw [foldF_eq] at this ⊢
    have hf : L1.filter (fun i => listed.getD i false && decide (dstOf ops i = some t)) = L1.filter (fun i => true && decide (dstOf ops i = some t)) := by
      refine List.filter_congr fun j hj => ?_
      rw [hS j (by rw [I.hL]; simp [hj])]
    rw [hf] at this
    exact this
  intro fuel
  induction fuel with
  | zero =>
    intro listed L1 L2 vals pend env h ρ a w hsz hc I hh
    have hr : Region.ready .any ops listed = [] := by
      rw [List.eq_nil_iff_forall_not_mem]
      intro i hi
      obtain ⟨h1, o, ho, _⟩ := mem_ready' hi
      have hin : i < listed.size := by rw [hsz]; exact (Array.getElem?_eq_some_iff.1 ho).1
      have : false ∈ listed.toList := by
        rw [Array.getD_eq_getD_getElem?, Array.getElem?_eq_getElem hin] at h1
        simp only [Option.getD_some] at h1
        rw [← h1]
        exact Array.mem_toList_iff.2 (Array.getElem_mem hin)
      have := List.count_pos_iff.2 this
      omega
    exact ⟨hr, fin listed L1 L2 vals pend env h ρ a w hsz I hr⟩
  | succ fuel ih =>
    intro listed L1 L2 vals pend env h ρ a w hsz hc I hh
    refine ⟨fin listed L1 L2 vals pend env h ρ a w hsz I, fun i hi => ?_⟩
    obtain ⟨hli, o, ho, hpre⟩ := mem_ready' hi
    have hin : i < listed.size := by rw [hsz]; exact (Array.getElem?_eq_some_iff.1 ho).1
    have hSi : listed.getD i false = false := by
      rw [Array.getD_eq_getD_getElem?, Array.getElem?_eq_getElem hin] at hli ⊢
      simpa using hli
    have hiL : i ∈ L := dk.all i (by omega)
    obtain ⟨pre, r, e⟩ := split_at hiL
    -- all that must be ahead has been done
    have hb : ∀ j, j < ops.size → (B.getD i 0).testBit j = true → listed.getD j false = true := by
      intro j hj hbit
      obtain ⟨_, g, hg, hbd, hor⟩ := dk.bef e ho hj hbit
      rcases hor with rfl | hor
      · exact hpre g hg hbd
      · exact I.cl g.on (hpre g hg hbd) j hj hor
    have hsz' : (listed.setIfInBounds i true).size = ops.size := by simpa using hsz
    have hcnt : (listed.setIfInBounds i true).toList.count false ≤ fuel := by
      have h1 : listed.toList[i]? = some false := by
        rw [Array.getElem?_toList, Array.getElem?_eq_getElem hin]
        rw [Array.getD_eq_getD_getElem?, Array.getElem?_eq_getElem hin] at hSi
        simpa using hSi
      rw [Array.toList_setIfInBounds]
      have h2 := List.count_set (a := true) (b := false) (l := listed.toList) (i := i) (by simpa using hin)
      have h3 : (listed.toList[i]'(by simpa using hin) == false) = true := by
        have := (List.getElem?_eq_some_iff.1 h1).2
        rw [this]
        rfl
      rw [h2, if_pos h3, if_neg (by decide)]
      omega
    have hset : ∀ j, (listed.setIfInBounds i true).getD j false = if j = i then true else listed.getD j false := fun j => listed_set hin
    have hcl' : ∀ k, (listed.setIfInBounds i true).getD k false = true → ∀ j, j < ops.size → (B.getD k 0).testBit j = true → (listed.setIfInBounds i true).getD j false = true := by
      intro k hk j hj hbit
      rw [hset] at hk ⊢
      split
      · rfl
      · by_cases hki : k = i
        · subst hki
          exact hb j hj hbit
        · rw [if_neg hki] at hk
          exact I.cl k hk j hj hbit
    have hd := hN o (Array.mem_of_getElem? ho)
    have hdst : dstOf ops i = o.dst := by simp [dstOf, ho]
    have hSz : ∀ t, o.dst = some t → t < a.tmps.size := fun t ht => by rw [I.size]; exact hd t ht
    unfold wpOp
    simp only [ho]
    cases hch : isChain T ops i with
    | false =>
      -- a light operation: it stands in L1
      have hi1 : i ∈ L1 := by
        have : i ∈ L1 ++ L2 := by rw [← I.hL]; exact hiL
        rcases List.mem_append.1 this with hm | hm
        · exact hm
        · exfalso
          rcases hh with rfl | ⟨c, r', rfl, hcc⟩
          · cases hm
          · rcases List.mem_cons.1 hm with rfl | hm
            · rw [hch] at hcc
              cases hcc
            · obtain ⟨x, y, rfl⟩ := List.append_of_mem hm
              have e2 : L = (L1 ++ c :: x) ++ i :: y := by rw [I.hL]; simp
              have hbit := dk.chain e2 (show c ∈ L1 ++ c :: x by simp) hcc
              have hcn : c < ops.size := by
                obtain ⟨oc, hoc⟩ := dk.op c (by rw [I.hL]; simp)
                exact (Array.getElem?_eq_some_iff.1 hoc).1
              exact dk.fresh I.hL (I.sub c (hb c hcn hbit))
      obtain ⟨p1, post, e1⟩ := List.append_of_mem hi1
      obtain ⟨o', env', go, k1, k2, k3, k4, k5, k6⟩ := I.lt p1 i post e1 hSi
      rw [ho] at k1
      injection k1 with k1
      subst k1
      have e2 : L = p1 ++ i :: (post ++ L2) := by rw [I.hL, e1]; simp
      have see : ∀ t ∈ o.looksAt ops, VRel ρ (get env' t) (a.tmps.getD t Go.undef) := by
        intro t ht
        rw [k3, sees dk e2 ho (S := fun i => listed.getD i false) (L1 := L1) (.inr ⟨post, e1⟩) (fun j hj => by rw [I.hL]; simp [hj]) ⟨L2, I.hL⟩ I.cl hSi hb ht]
        exact I.er t
      rw [k4 ρ a I.size see]
      -- the next state
      have next : ∀ u, VRel ρ (vals i) u → Inv P T ops L B N ρ0 h0 w0 K f0 (fun j => (listed.setIfInBounds i true).getD j false) L1 L2 vals pend env h ρ (a.put o.dst u) w := by
        intro u hu
        refine ⟨I.hL, fun j hj => ?_, hcl', fun c hc hcc => ?_, I.ev, I.wp, fun pre j post e hsj => ?_, ?_, fun t => ?_, I.r, I.d, I.s, by rw [put_defers]; exact I.z⟩
        · simp only [hset] at hj
          split at hj
          · rename_i e
            rw [e]
            exact hi1
          · exact I.sub j hj
        · simp only [hset]
          split
          · rfl
          · exact I.ch c hc hcc
        · simp only [hset] at hsj
          split at hsj
          · cases hsj
          · exact I.lt pre j post e hsj
        · simpa [Act.put] using (by cases hdd : o.dst <;> simp [Act.put, I.size] : (a.put o.dst u).tmps.size = N)
        · have hp := put_rel (d := o.dst) (v := vals i) (u := u) (f := foldF (dstOf ops) vals (fun i => listed.getD i false) L1 f0) (a := a) (ρ := ρ) hSz I.er hu t
          have heq : foldF (dstOf ops) vals (fun j => (listed.setIfInBounds i true).getD j false) L1 f0 t = if o.dst = some t then vals i else foldF (dstOf ops) vals (fun i => listed.getD i false) L1 f0 t := by
            have hnp : i ∉ p1 := dk.fresh e2
            have hnq : i ∉ post := by
              intro hm
              obtain ⟨x, y, rfl⟩ := List.append_of_mem hm
              have e3 : L = (p1 ++ i :: x) ++ i :: (y ++ L2) := by rw [e2]; simp
              exact dk.fresh e3 (by simp)
            have hpeq : foldF (dstOf ops) vals (fun j => (listed.setIfInBounds i true).getD j false) p1 f0 = foldF (dstOf ops) vals (fun i => listed.getD i false) p1 f0 := foldF_congr_p _ _ (fun j hj => by
              simp only [hset]
              rw [if_neg]
              rintro rfl
              exact hnp hj)
            have hqeq : ∀ g, foldF (dstOf ops) vals (fun j => (listed.setIfInBounds i true).getD j false) post g = foldF (dstOf ops) vals (fun i => listed.getD i false) post g := fun g => foldF_congr_p _ _ (fun j hj => by
              simp only [hset]
              rw [if_neg]
              rintro rfl
              exact hnq hj)
            rw [e1, foldF_append, foldF_append, hpeq]
            simp only [foldF]
            rw [hqeq]
            have hSi2 : (listed.setIfInBounds i true).getD i false = true := by rw [hset, if_pos rfl]
            simp only [hSi2, hSi, if_true, Bool.false_eq_true, if_false, hdst]
            have F := foldF_eq (dstOf ops) vals (fun i => listed.getD i false) post
            simp only [F]
            by_cases hdt : o.dst = some t
            · have hemp : post.filter (fun j => listed.getD j false && decide (dstOf ops j = some t)) = [] := by
                rw [List.filter_eq_nil_iff]
                intro j hj hcon
                simp only [Bool.and_eq_true, decide_eq_true_eq] at hcon
                obtain ⟨hSj, hdj⟩ := hcon
                obtain ⟨x, y, rfl⟩ := List.append_of_mem hj
                have e3 : L = (p1 ++ i :: x) ++ j :: (y ++ L2) := by rw [e2]; simp
                obtain ⟨oj, hoj⟩ := dk.op j (by rw [e3]; simp)
                have hdj' : oj.dst = some t := by simpa [dstOf, hoj] using hdj
                have hcf : conf ops oj o = true := by simp [conf, hdj', hdt]
                have hbit := dk.conf e3 hoj (show i ∈ p1 ++ i :: x by simp) ho hcf
                have := I.cl j hSj i (by omega) hbit
                rw [hSi] at this
                cases this
              rw [hemp]
              simp only [hdt, if_true, List.foldl_nil]
            · simp only [hdt, if_false]
          rw [heq]
          exact hp
      cases go with
      | false =>
        simp only [Bool.false_eq_true, if_false]
        have hv := k5 rfl
        exact ih _ L1 L2 vals pend env h ρ _ w hsz' hcnt (next Go.undef (by rw [hv]; exact .tup [] [] rfl (fun j c u hc => by simp at hc))) hh
      | true =>
        simp only [if_true]
        have hER := ERel.restr (ts := o.looksAt ops) I.size see
        have hrun : ∃ u, (execOp a.eval o).run P w = .ok (.value u) w ∧ VRel ρ (vals i) u := by
          rcases k6 rfl with k | ⟨k, _⟩
          · exact k ρ N a w hER
          · exact k ρ N a w hER I.r
        obtain ⟨u, hu1, hu2⟩ := hrun
        exact .inl (wp_value hu1 (ih _ L1 L2 vals pend env h ρ _ w hsz' hcnt (next u hu2) hh))
    | true =>
      -- an operation that makes or turns memory: it stands first in L2
      obtain ⟨r', rfl⟩ : ∃ r', L2 = i :: r' := by
        have hm : i ∈ L1 ++ L2 := by rw [← I.hL]; exact hiL
        rcases List.mem_append.1 hm with hm | hm
        · have := I.ch i hm hch
          rw [hSi] at this
          cases this
        · rcases hh with rfl | ⟨c, r', rfl, hcc⟩
          · cases hm
          · rcases List.mem_cons.1 hm with rfl | hm
            · exact ⟨r', rfl⟩
            · exfalso
              obtain ⟨x, y, rfl⟩ := List.append_of_mem hm
              have e2 : L = (L1 ++ c :: x) ++ i :: y := by rw [I.hL]; simp
              have hbit := dk.chain e2 (show c ∈ L1 ++ c :: x by simp) hcc
              have hcn : c < ops.size := by
                obtain ⟨oc, hoc⟩ := dk.op c (by rw [I.hL]; simp)
                exact (Array.getElem?_eq_some_iff.1 hoc).1
              exact dk.fresh I.hL (I.sub c (hb c hcn hbit))
      have hw := I.wp
      simp only [wpD, ho] at hw
      obtain ⟨env1, go, hw, he, hg⟩ := guardW_at hw hN
      have see : ∀ t ∈ o.looksAt ops, VRel ρ (get env t) (a.tmps.getD t Go.undef) := by
        intro t ht
        rw [I.ev, sees dk I.hL ho (S := fun i => listed.getD i false) (L1 := L1) (.inl rfl) (fun j hj => by rw [I.hL]; simp [hj]) ⟨i :: r', I.hL⟩ I.cl hSi hb ht]
        exact I.er t
      rw [hg ρ a I.size see]
      have putv : ∀ {v : V} {X : Env → Prop}, put env1 o.dst v X → ∃ env2, (∀ t, get env2 t = if o.dst = some t then v else get env t) ∧ X env2 := by
        intro v X hx
        unfold put at hx
        split at hx
        · rename_i t e
          exact ⟨_, fun t' => by rw [get_cons, e, he]; simp, hx⟩
        · rename_i e
          exact ⟨_, fun t' => by simp [e, he], hx⟩
      have hER : ERel ρ N (restr env1 (o.looksAt ops)) a := ERel.restr I.size (fun t ht => by rw [he]; exact see t ht)
      have go_on : ∀ {env2 : Env} {h' : H} {ρ' : Rho} {a' : Act} {w' : World} {vals' : Nat → V}, Inv P T ops L B N ρ0 h0 w0 K f0 (fun j => (listed.setIfInBounds i true).getD j false) (L1 ++ [i]) r' vals' pend env2 h' ρ' a' w' → wpAny P .any ops Q fuel (listed.setIfInBounds i true) a' w' := by
        intro env2 h' ρ' a' w' vals' J
        obtain ⟨M1, M2, vals2, pend2, env3, J2, hh2⟩ := advance hT hE dk hN _ _ _ _ _ J
        exact ih _ M1 M2 vals2 pend2 env3 h' ρ' a' w' hsz' hcnt J2 hh2
      cases go with
      | false =>
        simp only [Bool.false_eq_true, if_false]
        simp only at hw
        obtain ⟨env2, h2, hw⟩ := putv hw
        exact go_on (I.chain dk ho hset hcl' h2 hw hd (.tup [] [] rfl (fun j c u hc => by simp at hc)) I.r I.d (Since.refl _ _ _) (fun p _ _ _ k => k))
      | true =>
        simp only [if_true]
        simp only at hw
        refine .inl ?_
        cases hc : cls T o.op with
        | p =>
          simp [isChain, ho, hc] at hch
        | r =>
          simp [isChain, ho, hc] at hch
        | a =>
          rw [hc] at hw
          obtain ⟨v, ob, hw, _, hs⟩ := aO_sound (P := P) hT hw
          obtain ⟨u, w', l, q1, _, q2, q3, q4, q5⟩ := hs ρ N a w hER I.r I.d
          obtain ⟨env2, h2, hw⟩ := putv hw
          exact wp_value q1 (go_on (I.chain dk ho hset hcl' h2 hw hd q2 q3 q4 q5 (fun p _ _ _ k ρ N a w e r => k ρ N a w e r.unpush)))
        | c =>
          rw [hc] at hw
          refine Oper.wp_mono (fun a' w' hcout => ?_) (cO_sound hT hw hER I.r I.d Q)
          obtain ⟨v, h', ρ', u, rfl, hw, q2, q3, q4, q5⟩ := hcout
          obtain ⟨env2, h2, hw⟩ := putv hw
          obtain ⟨hw, hst⟩ := still_sound (P := P) hT pend hw
          refine go_on (I.chain dk ho hset hcl' h2 hw hd q2 q3 q4 q5 (fun p hp hSp hp1 k => ?_))
          rcases hst p hp with hbit | hrs
          · exfalso
            have hpn : p.j < ops.size := by
              obtain ⟨op, hop⟩ := dk.op p.j (by rw [I.hL]; simp [hp1])
              exact (Array.getElem?_eq_some_iff.1 hop).1
            have := hb p.j hpn hbit
            rw [hSp] at this
            cases this
          · exact hrs
end
end Go.Ab
/-! Regions with operations that nothing orders: both orders are looked at. -/
namespace Go.Ab
open Go
variable {P : Program} {ops : Array Oper} {Q : Exit → Act → World → Prop}
/-- an order that may be drawn -/
def VF (ops : Array Oper) : Nat → Array Bool → List Nat → Prop
  | 0, _, s => s = []
  | _ + 1, l, [] => Region.ready .any ops l = []
  | f + 1, l, i :: s => i ∈ Region.ready .any ops l ∧ VF ops f (l.setIfInBounds i true) s
theorem wpOps_vf : ∀ (fuel : Nat) (l : Array Bool) (s : List Nat) (a : Act) (w : World), wpAny P .any ops Q fuel l a w → VF ops fuel l s → wpOps P ops Q s a w
  | 0, l, s, a, w, h, v => by
    have v : s = [] := v
    subst v
    exact h.2
  | f + 1, l, [], a, w, h, v => h.1 v
  | f + 1, l, i :: s, a, w, h, v => by
    rw [wpOps_cons]
    exact wpOp_mono (fun a w hw => wpOps_vf f _ s a w hw v.2) (h.2 i v.1)
theorem vf_lin : ∀ (fuel t : Nat) (l : Array Bool), VF ops fuel l (Region.linearise.go .any ops fuel t l []) := by
  intro fuel
  induction fuel with
  | zero => intro t l; simp [Region.linearise.go, VF]
  | succ fuel ih =>
    intro t l
    simp only [Region.linearise.go]
    change VF ops (fuel + 1) l (match (Region.ready .any ops l)[t % (Region.ready .any ops l).length]? with
      | some i => Region.linearise.go .any ops fuel (t / (Region.ready .any ops l).length) (l.setIfInBounds i true) [i]
      | none => [].reverse)
    cases hi : (Region.ready .any ops l)[t % (Region.ready .any ops l).length]? with
    | none =>
      have hnil : Region.ready .any ops l = [] := by
        cases hr : Region.ready .any ops l with
        | nil => rfl
        | cons x xs =>
          rw [hr] at hi
          have hlt : t % (x :: xs).length < (x :: xs).length := Nat.mod_lt _ (by simp)
          simp at hi
          simp at hlt
          omega
      exact hnil
    | some i =>
      simp only []
      rw [linearise_go_acc, List.reverse_singleton, List.singleton_append]
      exact ⟨List.mem_of_getElem? hi, ih _ _⟩
def AllOrd (P : Program) (ops : Array Oper) (Q : Exit → Act → World → Prop) (a : Act) (w : World) : Prop := ∀ s, VF ops ops.size (Array.replicate ops.size false) s → wpOps P ops Q s a w
theorem allOrd_any {a : Act} {w : World} (h : wpAny P .any ops Q ops.size (Array.replicate ops.size false) a w) : AllOrd P ops Q a w := fun s v => wpOps_vf _ _ s a w h v
theorem region_allOrd {id : Nat} {a : Act} {w : World} (hm : P.follows .mixedOrders = true) (h : AllOrd P ops Q a { w with drawn := w.drawn + 1 }) : (Code.region id ops true).wp P Q a w :=
  wp_region_draw fun t => by
    simp only [Region.schedule, hm, Bool.true_or, if_true]
    exact h _ (vf_lin _ _ _)
/-! ### One edge more -/
theorem mem_ready_iff {i : Nat} {l : Array Bool} : i ∈ Region.ready .any ops l ↔ l.getD i true = false ∧ ∃ o, ops[i]? = some o ∧ ∀ g ∈ o.after, Region.binds .any g = true → l.getD g.on false = true := by
  simp only [Region.ready, List.mem_filter, List.mem_range, Bool.and_eq_true, Bool.not_eq_true']
  constructor
  · rintro ⟨h1, h2, h3⟩
    refine ⟨h2, ops[i], Array.getElem?_eq_getElem h1, fun g hg hb => ?_⟩
    rw [Array.getElem?_eq_getElem h1] at h3
    simp only [Option.map_some, Option.getD_some, Array.all_eq_true'] at h3
    have := h3 g hg
    simpa [hb] using this
  · rintro ⟨h2, o, ho, h3⟩
    refine ⟨(Array.getElem?_eq_some_iff.1 ho).1, h2, ?_⟩
    rw [ho]
    simp only [Option.map_some, Option.getD_some, Array.all_eq_true']
    intro g hg
    cases hb : Region.binds .any g with
    | false => rfl
    | true => simpa using h3 g hg hb
theorem addL_get : ∀ (l : List Oper) (a b i : Nat), (addL l a b)[i]? = (l[i]?).map fun o => if i = b then waitFor o a else o
  | [], a, b, i => by simp [addL]
  | o :: r, a, 0, 0 => by simp [addL]
  | o :: r, a, 0, i + 1 => by simp [addL]
  | o :: r, a, b + 1, 0 => by simp [addL]
  | o :: r, a, b + 1, i + 1 => by
    rw [addL, List.getElem?_cons_succ, List.getElem?_cons_succ, addL_get r a b i]
    congr 1
    funext o
    by_cases h : i = b
    · simp [h]
    · simp [h]
theorem addE_get (ops : Array Oper) (a b i : Nat) : (addE ops a b)[i]? = (ops[i]?).map fun o => if i = b then waitFor o a else o := by
  rw [addE, List.getElem?_toArray, addL_get, Array.getElem?_toList]
theorem addL_length : ∀ (l : List Oper) (a b : Nat), (addL l a b).length = l.length
  | [], _, _ => rfl
  | _ :: _, _, 0 => rfl
  | _ :: r, a, b + 1 => by simp [addL, addL_length r a b]
theorem addE_size (ops : Array Oper) (a b : Nat) : (addE ops a b).size = ops.size := by simp [addE, addL_length]
theorem mem_ready_addE {a b i : Nat} {l : Array Bool} : i ∈ Region.ready .any (addE ops a b) l ↔ i ∈ Region.ready .any ops l ∧ (i = b → l.getD a false = true) := by
  rw [mem_ready_iff, mem_ready_iff, addE_get]
  constructor
  · rintro ⟨h1, o, ho, h2⟩
    cases hi : ops[i]? with
    | none => simp [hi] at ho
    | some o' =>
      rw [hi] at ho
      simp only [Option.map_some, Option.some.injEq] at ho
      by_cases hb : i = b
      · rw [if_pos hb] at ho
        subst ho
        refine ⟨⟨h1, o', rfl, fun g hg => h2 g ?_⟩, fun _ => h2 ⟨a, .data⟩ ?_ rfl⟩
        · simp only [waitFor]
          exact Array.mem_push.2 (.inl hg)
        · simp only [waitFor]
          exact Array.mem_push.2 (.inr rfl)
      · rw [if_neg hb] at ho
        subst ho
        exact ⟨⟨h1, o', rfl, h2⟩, fun e => absurd e hb⟩
  · rintro ⟨⟨h1, o, ho, h2⟩, h3⟩
    refine ⟨h1, (if i = b then waitFor o a else o), by rw [ho]; rfl, ?_⟩
    by_cases hb : i = b
    · rw [if_pos hb]
      intro g hg hbd
      rcases Array.mem_push.1 hg with hg | rfl
      · exact h2 g hg hbd
      · exact h3 hb
    · rw [if_neg hb]
      exact h2
theorem getD_set {l : Array Bool} {i j : Nat} (h : l.getD j false = true) : (l.setIfInBounds i true).getD j false = true := by
  rw [Array.getD_eq_getD_getElem?, Array.getElem?_setIfInBounds]
  rw [Array.getD_eq_getD_getElem?] at h
  split
  · split
    · rfl
    · rename_i e hn
      subst e
      rw [Array.getElem?_eq_none (by omega)] at h
      cases h
  · exact h
theorem vf_listed {a b : Nat} : ∀ (f : Nat) (l : Array Bool) (s : List Nat), l.getD a false = true → VF ops f l s → VF (addE ops a b) f l s
  | 0, _, _, _, v => v
  | f + 1, l, [], h, v => by
    show Region.ready .any (addE ops a b) l = []
    have v : Region.ready .any ops l = [] := v
    rw [List.eq_nil_iff_forall_not_mem] at v ⊢
    exact fun i hi => v i (mem_ready_addE.1 hi).1
  | f + 1, l, i :: s, h, v => ⟨mem_ready_addE.2 ⟨v.1, fun _ => h⟩, vf_listed f _ s (getD_set h) v.2⟩
theorem set_self {l : Array Bool} {i : Nat} (h : i < l.size) : (l.setIfInBounds i true).getD i false = true := by
  rw [Array.getD_eq_getD_getElem?, Array.getElem?_setIfInBounds]
  simp [h]
theorem vf_split {a b : Nat} (hab : a ≠ b) : ∀ (f : Nat) (l : Array Bool) (s : List Nat), l.size = ops.size → VF ops f l s → VF (addE ops a b) f l s ∨ VF (addE ops b a) f l s
  | 0, _, _, _, v => .inl v
  | f + 1, l, [], _, v => by
    refine .inl ?_
    show Region.ready .any (addE ops a b) l = []
    have v : Region.ready .any ops l = [] := v
    rw [List.eq_nil_iff_forall_not_mem] at v ⊢
    exact fun i hi => v i (mem_ready_addE.1 hi).1
  | f + 1, l, i :: s, hl, v => by
    have hil : i < l.size := by
      obtain ⟨_, o, ho, _⟩ := mem_ready_iff.1 v.1
      rw [hl]
      exact (Array.getElem?_eq_some_iff.1 ho).1
    by_cases ha : i = a
    · subst ha
      exact .inl ⟨mem_ready_addE.2 ⟨v.1, fun e => absurd e hab⟩, vf_listed f _ s (set_self hil) v.2⟩
    · by_cases hb : i = b
      · subst hb
        exact .inr ⟨mem_ready_addE.2 ⟨v.1, fun e => absurd e ha⟩, vf_listed f _ s (set_self hil) v.2⟩
      · rcases vf_split hab f _ s (by simpa using hl) v.2 with k | k
        · exact .inl ⟨mem_ready_addE.2 ⟨v.1, fun e => absurd e hb⟩, k⟩
        · exact .inr ⟨mem_ready_addE.2 ⟨v.1, fun e => absurd e ha⟩, k⟩
theorem yielded_addE (ops : Array Oper) (a b : Nat) (ts : Array Value) : yielded (addE ops a b) ts = yielded ops ts := by
  funext j
  have e : ((addE ops a b)[j]?).bind (·.dst) = (ops[j]?).bind (·.dst) := by
    rw [addE_get]
    cases ops[j]? with
    | none => rfl
    | some o =>
      by_cases h : j = b
      · simp [h, waitFor]
      · simp [h]
  simp only [yielded, e]
theorem wpOps_addE {a b : Nat} : ∀ (s : List Nat) (x : Act) (w : World), wpOps P (addE ops a b) Q s x w → wpOps P ops Q s x w
  | [], _, _, h => h
  | i :: s, x, w, h => by
    rw [wpOps_cons] at h ⊢
    unfold wpOp at h ⊢
    rw [addE_get, yielded_addE] at h
    cases hi : ops[i]? with
    | none =>
      rw [hi] at h
      exact wpOps_addE s x w h
    | some o =>
      rw [hi] at h
      simp only [Option.map_some] at h
      have hw : ∀ o' : Oper, o' = (if i = b then waitFor o a else o) → Region.wanted o' (yielded ops x.tmps) = Region.wanted o (yielded ops x.tmps) ∧ o'.dst = o.dst ∧ (∀ K, o'.wp P x w K Q = o.wp P x w K Q) ∧ (o'.asks P x w = o.asks P x w) := by
        intro o' e
        subst e
        split
        · exact ⟨rfl, rfl, fun _ => rfl, rfl⟩
        · exact ⟨rfl, rfl, fun _ => rfl, rfl⟩
      obtain ⟨h1, h2, h3, h4⟩ := hw _ rfl
      simp only [h1, h2, h3, h4] at h
      simp only
      split
      · rename_i hg
        rw [if_pos hg] at h
        exact h.imp (Oper.wp_mono (fun x w k => wpOps_addE s x w k)) id
      · rename_i hg
        rw [if_neg hg] at h
        exact wpOps_addE s _ w h
theorem allOrd_split {a b : Nat} (hab : a ≠ b) {x : Act} {w : World} (h1 : AllOrd P (addE ops a b) Q x w) (h2 : AllOrd P (addE ops b a) Q x w) : AllOrd P ops Q x w := fun s v => by
  rcases vf_split hab _ _ s (by simp) v with k | k
  · exact wpOps_addE s x w (h1 s (by rw [addE_size]; exact k))
  · exact wpOps_addE s x w (h2 s (by rw [addE_size]; exact k))
end Go.Ab
/-! Code, calls: soundness. -/
namespace Go.Ab
open Go

theorem exists_min {p : Nat → Prop} (h : ∃ n, p n) : ∃ n, p n ∧ ∀ m, p m → n ≤ m := by
  obtain ⟨n, hn⟩ := h
  induction n using Nat.strongRecOn with
  | _ n ih =>
    by_cases hm : ∃ m, m < n ∧ p m
    · obtain ⟨m, h1, h2⟩ := hm
      exact ih m h1 h2
    · exact ⟨n, hn, fun m h => by
        rcases Nat.lt_or_ge m n with hlt | hge
        · exact absurd ⟨m, hlt, h⟩ hm
        · exact hge⟩
section
variable {P : Program} {T : TT}
def QR (ρ0 : Rho) (h0 : H) (w0 : World) (N : Nat) (Q : X → Env → H → Prop) : Exit → Act → World → Prop
  | .normal, a, w => Good ρ0 h0 w0 N (Q .norm) a w
  | .exit id, a, w => Good ρ0 h0 w0 N (Q (.exit id)) a w
  | .ret, a, w => Good ρ0 h0 w0 N (Q .ret) a w
  | _, _, _ => False
theorem opsOk_spec {N : Nat} {ops : Array Oper} (h : opsOk N ops = true) : ∀ o ∈ ops, ∀ d, o.dst = some d → d < N := by
  intro o ho d hd
  simp only [opsOk, List.all_eq_true] at h
  have := h o (by simpa using ho)
  rw [hd] at this
  simpa [Nat.blt_eq] using this
theorem region_any_ (hT : TOk P T) (hE : EqOk P T) (hm : P.follows .mixedOrders = true) {ρ0 : Rho} {h0 : H} {w0 : World} {N : Nat} {ops : Array Oper} (hN : ∀ o ∈ ops, ∀ d, o.dst = some d → d < N) {L B : List Nat} (hd : dOk T ops L B = true) {K : Env → H → Prop} {Q : Exit → Act → World → Prop}
    (hQ : ∀ a w, Good ρ0 h0 w0 N K a w → Q .normal a w) {env : Env} {h : H} {ρ : Rho} {a : Act} {w : World} (hw : wpD P T ops B L [] env h K) (g : G ρ0 h0 w0 N ρ env h a w) : AllOrd P ops Q a { w with drawn := w.drawn + 1 } := by
  refine allOrd_any ?_
  have dk := dOk_spec hd
  have hrep : ∀ i, (Array.replicate ops.size false).getD i false = false := by
    intro i
    rw [Array.getD_eq_getD_getElem?, Array.getElem?_replicate]
    split <;> rfl
  have I : Inv P T ops L B N ρ0 h0 w0 K (get env) (fun i => (Array.replicate ops.size false).getD i false) [] L (fun _ => .undef) [] env h ρ a w.drew := by
    refine ⟨rfl, fun i hi => ?_, fun i hi => ?_, (fun c hc => by cases hc), fun t => rfl, hw, (fun pre i post e => by cases pre <;> cases e), g.e.size, fun t => g.e.rel t, g.r.drew, g.d, g.s.trans (Since.drew _ _ _), g.z⟩
    · simp only [hrep] at hi
      cases hi
    · simp only [hrep] at hi
      cases hi
  obtain ⟨M1, M2, vals, pend, env', J, hh⟩ := advance hT hE dk hN _ _ _ _ _ I
  exact wpAny_inv hT hE dk hN hQ ops.size _ M1 M2 vals pend env' h ρ a _ (by simp) (by simp) J hh

theorem addE_dst {N : Nat} {ops : Array Oper} (hN : ∀ o ∈ ops, ∀ d, o.dst = some d → d < N) (a b : Nat) : ∀ o ∈ addE ops a b, ∀ d, o.dst = some d → d < N := by
  intro o ho d hd
  obtain ⟨i, hi, rfl⟩ := Array.getElem_of_mem ho
  have e := addE_get ops a b i
  rw [Array.getElem?_eq_getElem hi] at e
  cases hj : ops[i]? with
  | none => simp [hj] at e
  | some o' =>
    rw [hj] at e
    simp only [Option.map_some, Option.some.injEq] at e
    refine hN o' (Array.mem_of_getElem? hj) d ?_
    rw [e] at hd
    split at hd
    · exact hd
    · exact hd
theorem region_reg (hT : TOk P T) (hE : EqOk P T) (hm : P.follows .mixedOrders = true) {ρ0 : Rho} {h0 : H} {w0 : World} {N : Nat} {K : Env → H → Prop} {Q : Exit → Act → World → Prop}
    (hQ : ∀ a w, Good ρ0 h0 w0 N K a w → Q .normal a w) {env : Env} {h : H} {ρ : Rho} {a : Act} {w : World} (g : G ρ0 h0 w0 N ρ env h a w) : ∀ (f : Nat) (ops : Array Oper), (∀ o ∈ ops, ∀ d, o.dst = some d → d < N) → wpReg P T f ops env h K → AllOrd P ops Q a { w with drawn := w.drawn + 1 }
  | 0, _, _, hw => hw.elim
  | f + 1, ops, hN, hw => by
    obtain ⟨L, B, hw⟩ := hw
    split at hw
    · rename_i x y
      obtain ⟨hab, h1, h2⟩ := hw
      exact allOrd_split (Nat.ne_of_beq_eq_false hab) (region_reg hT hE hm hQ g f _ (addE_dst hN _ _) h1) (region_reg hT hE hm hQ g f _ (addE_dst hN _ _) h2)
    · exact region_any_ hT hE hm hN hw.1 hQ hw.2 g
theorem region_draw (hT : TOk P T) (hE : EqOk P T) (hm : P.follows .mixedOrders = true) {ρ0 : Rho} {h0 : H} {w0 : World} {N id f : Nat} {ops : Array Oper} (hN : ∀ o ∈ ops, ∀ d, o.dst = some d → d < N) {K : Env → H → Prop} {Q : Exit → Act → World → Prop}
    (hQ : ∀ a w, Good ρ0 h0 w0 N K a w → Q .normal a w) {env : Env} {h : H} {ρ : Rho} {a : Act} {w : World} (hw : wpReg P T f ops env h K) (g : G ρ0 h0 w0 N ρ env h a w) : (Code.region id ops true).wp P Q a w :=
  region_allOrd hm (region_reg hT hE hm hQ g f ops hN hw)

theorem wpC_sound (hT : TOk P T) (hE : EqOk P T) (hm : P.follows .mixedOrders = true) {ρ0 : Rho} {h0 : H} {w0 : World} {N : Nat} : ∀ (c : Code), codeOk N c = true → ∀ (Q : X → Env → H → Prop) (env : Env) (h : H) (ρ : Rho) (a : Act) (w : World),
    wpC P T c Q env h → G ρ0 h0 w0 N ρ env h a w → c.wp P (QR ρ0 h0 w0 N Q) a w := by
  intro c
  induction c with
  | skip => exact fun _ Q env h ρ a w hw g => wp_skip ⟨ρ, env, h, g, hw⟩
  | ret => exact fun _ Q env h ρ a w hw g => wp_ret ⟨ρ, env, h, g, hw⟩
  | exit id => exact fun _ Q env h ρ a w hw g => wp_exit ⟨ρ, env, h, g, hw⟩
  | region id ops draw =>
    intro hc Q env h ρ a w hw g
    have hN := opsOk_spec hc
    cases draw with
    | false =>
      refine wp_region ?_
      have := wpN_sound hT hE hN (Q := QR ρ0 h0 w0 N Q) (fun a w hg => hg) ops.toList 0 (fun j => by simp) env h ρ a w hw g
      simpa using this
    | true =>
      exact region_draw hT hE hm hN (fun a w hg => hg) hw g
  | seq x y ihx ihy =>
    intro hc Q env h ρ a w hw g
    simp only [codeOk, Bool.and_eq_true] at hc
    refine wp_seq (wp_mono (ihx hc.1 _ env h ρ a w hw g) fun e a' w' hq => ?_)
    cases e with
    | normal =>
      obtain ⟨ρ', env', h', g', hk⟩ := hq
      exact ihy hc.2 Q env' h' ρ' a' w' hk g'
    | exit id => exact hq
    | ret => exact hq
    | goto l => exact hq
    | panic ch => exact hq
    | outgrown => exact hq
  | cond c x y ihx ihy =>
    intro hc Q env h ρ a w hw g
    simp only [codeOk, Bool.and_eq_true] at hc
    simp only [wpC] at hw
    split at hw
    · rename_i b hb
      rw [br_iff] at hw
      have := opv_rel g.e c
      rw [hb] at this
      refine wp_cond (this.bool_inv) ?_
      cases b with
      | true => exact ihx hc.1 Q env h ρ a w (hw.1 rfl) g
      | false => exact ihy hc.2 Q env h ρ a w (hw.2 rfl) g
    · exact hw.elim
  | block id c ih =>
    intro hc Q env h ρ a w hw g
    refine wp_block (wp_mono (ih hc _ env h ρ a w hw g) fun e a' w' hq => ?_)
    cases e with
    | normal => exact hq
    | exit j =>
      have hq' : Good ρ0 h0 w0 N (inBlk id Q (.exit j)) a' w' := hq
      simp only [Exit.inBlock]
      cases hj : Nat.beq j id with
      | true =>
        rw [if_pos (Nat.eq_of_beq_eq_true hj)]
        have e : inBlk id Q (.exit j) = Q .norm := by
          funext env h
          simp only [inBlk, hj]
        rw [e] at hq'
        exact hq'
      | false =>
        rw [if_neg (Nat.ne_of_beq_eq_false hj)]
        have e : inBlk id Q (.exit j) = Q (.exit j) := by
          funext env h
          simp only [inBlk, hj]
        rw [e] at hq'
        exact hq'
    | ret => exact hq
    | goto l => exact hq
    | panic ch => exact hq
    | outgrown => exact hq
  | loop c ih =>
    intro hc Q env h ρ a w hw g
    obtain ⟨I, μ, ⟨env0, hf0, hI⟩, round⟩ := hw
    have g : G ρ0 h0 w0 N ρ env0 h a w := ⟨g.e.forget hf0, g.r, g.d, g.s, g.z⟩
    classical
    let p : Act → World → Nat → Prop := fun a w n => ∃ ρ env h, G ρ0 h0 w0 N ρ env h a w ∧ I env h ∧ μ env h = n
    let m : Act → World → Nat := fun a w => if hp : ∃ n, p a w n then Classical.choose (exists_min hp) else 0
    have hm1 : ∀ a w, (∃ n, p a w n) → p a w (m a w) ∧ ∀ k, p a w k → m a w ≤ k := by
      intro a w hp
      have := Classical.choose_spec (exists_min hp)
      simp only [m, dif_pos hp]
      exact this
    refine wp_loop (fun a w => ∃ n, p a w n) m ⟨_, ρ, env0, h, g, hI, rfl⟩ (fun a w hp => ?_)
    obtain ⟨⟨ρ1, env1, h1, g1, hI1, hμ⟩, _⟩ := hm1 a w hp
    refine wp_mono (ih hc _ env1 h1 ρ1 a w (round env1 h1 hI1) g1) fun e a' w' hq => ?_
    cases e with
    | normal =>
      obtain ⟨ρ2, env2, h2, g2, env3, hf, hI3, hlt⟩ := hq
      have hp3 : p a' w' (μ env3 h2) := ⟨ρ2, env3, h2, ⟨g2.e.forget hf, g2.r, g2.d, g2.s, g2.z⟩, hI3, rfl⟩
      refine ⟨⟨_, hp3⟩, ?_⟩
      have := (hm1 a' w' ⟨_, hp3⟩).2 _ hp3
      omega
    | exit id => exact hq
    | ret => exact hq
    | goto l => exact hq
    | panic ch => exact hq
    | outgrown => exact hq
  | _ => exact fun _ Q env h ρ a w hw g => hw.elim

def resF (a : Act) : ResultVar → Sem Value
  | .tmp t => pure (a.tmps.getD t Go.undef)
  | .cell c t => do loadVar t (← asAddr (a.tmps.getD c Go.undef))
theorem resO_sound (hT : TOk P T) {env : Env} {h : H} {ρ : Rho} {N : Nat} {a : Act} {w : World} (ha : ERel ρ N env a) (r : Rel ρ h w) : ∀ (rs : List ResultVar) (K : List V → Prop), resO T env h rs K →
    ∃ vs us, K vs ∧ VsRel ρ vs us ∧ vs.length = rs.length ∧ (rs.mapM (resF a)).run P w = .ok us w
  | [], K, hk => ⟨[], [], hk, VsRel.nil _, rfl, rfl⟩
  | .tmp t :: rs, K, hk => by
    simp only [resO, fv_iff] at hk
    obtain ⟨vs, us, k1, k2, k3, k4⟩ := resO_sound hT ha r rs _ hk
    refine ⟨_, _, k1, VsRel.cons (ha.rel t) k2, by simp [k3], ?_⟩
    rw [List.mapM_cons, Sem.run_bind]
    simp only [resF, Sem.run_pure, Result.andThen_ok, Sem.run_bind]
    rw [k4]
    rfl
  | .cell c t :: rs, K, hk => by
    simp only [resO] at hk
    split at hk
    · rename_i i off hc hk'
      obtain ⟨v, hcell, hk⟩ := hk
      rw [fv_iff] at hk
      obtain ⟨vs, us, k1, k2, k3, k4⟩ := resO_sound hT ha r rs _ hk
      have rc := ha.rel c
      rw [hc] at rc
      obtain ⟨l, hl, e⟩ := rc.ptr_inv
      obtain ⟨u, h1, h2⟩ := (r.var hT hl (t := t)).1 v hk' hcell
      refine ⟨_, _, k1, VsRel.cons h2 k2, by simp [k3], ?_⟩
      rw [List.mapM_cons, Sem.run_bind]
      simp only [resF, e, asAddr, Sem.run_pure, Result.andThen_ok, Sem.run_bind, h1]
      rw [k4]
      rfl
    · rename_i i off hc hk'
      obtain ⟨cs, hcell, hk⟩ := hk
      obtain ⟨vs, us, k1, k2, k3, k4⟩ := resO_sound hT ha r rs _ hk
      have rc := ha.rel c
      rw [hc] at rc
      obtain ⟨l, hl, e⟩ := rc.ptr_inv
      obtain ⟨u, h1, h2⟩ := (r.var hT hl (t := t)).2 cs hk' hcell
      refine ⟨_, _, k1, VsRel.cons h2 k2, by simp [k3], ?_⟩
      rw [List.mapM_cons, Sem.run_bind]
      simp only [resF, e, asAddr, Sem.run_pure, Result.andThen_ok, Sem.run_bind, h1]
      rw [k4]
      rfl
    · exact hk.elim

theorem bodyX_sound (hT : TOk P T) {fn : Func} {Q : V → H → Prop} {x : X} {ρ0 : Rho} {h0 : H} {w0 : World} {N : Nat} {ρ : Rho} {env : Env} {h : H} {a : Act} {w : World} (g : G ρ0 h0 w0 N ρ env h a w) (hx : ∀ id, x ≠ .exit id) (hq : bodyX T fn.results.toList Q x env h) :
    ∃ u, (results fn a.tmps).run P w = .ok u w ∧ ∃ r h' ρ', Q r h' ∧ VRel ρ' r u ∧ Rel ρ' h' w ∧ Dom ρ' h'.next ∧ Since ρ0 h0 w0 ρ' h' w := by
  have hq' : resO T env h fn.results.toList fun vs => match vs with
      | [v] => Q v h
      | vs => Q (.tup vs) h := by
    cases x with
    | exit id => exact absurd rfl (hx id)
    | norm => exact hq
    | ret => exact hq
  obtain ⟨vs, us, k1, k2, k3, k4⟩ := resO_sound hT g.e g.r _ _ hq'
  have hrun : ∀ u, (if hz : us.toArray.size = 1 then us.toArray[0] else .tuple us.toArray) = u → (results fn a.tmps).run P w = .ok u w := by
    rintro u rfl
    unfold results
    rw [Sem.run_bind, Array.mapM_eq_mapM_toList, Sem.run_map]
    have hf : ∀ g : ResultVar → Sem Value, (∀ x, g x = resF a x) → Sem.run P (fn.results.toList.mapM g) w = .ok us w := fun g hg => by
      rw [show g = resF a from funext hg]
      exact k4
    rw [hf _ (fun x => by cases x <;> rfl)]
    rfl
  rcases vs with _ | ⟨v, _ | ⟨v2, vs⟩⟩
  · obtain ⟨hl, hc⟩ := k2
    have : us = [] := List.eq_nil_of_length_eq_zero hl.symm
    subst this
    exact ⟨_, hrun _ rfl, .tup [], h, ρ, k1, .tup [] [] rfl hc, g.r, g.d, g.s⟩
  · obtain ⟨u, us', rfl, h1, h2⟩ := k2.uncons
    have : us' = [] := List.eq_nil_of_length_eq_zero h2.1.symm
    subst this
    exact ⟨u, hrun _ rfl, v, h, ρ, k1, h1, g.r, g.d, g.s⟩
  · obtain ⟨hl, hc⟩ := k2
    refine ⟨.tuple us.toArray, hrun _ ?_, .tup (v :: v2 :: vs), h, ρ, k1, .tup _ us hl hc, g.r, g.d, g.s⟩
    rw [dif_neg]
    simp at hl ⊢
    omega

theorem get_argsE : ∀ (vs : List V) (i t : Nat), get (argsE i vs) t = if i ≤ t then vs.getD (t - i) .undef else .undef
  | [], i, t => by simp [argsE, get]
  | v :: vs, i, t => by
    rw [argsE, get_cons, get_argsE vs (i + 1) t]
    by_cases h : i = t
    · subst h
      simp
    · rw [if_neg h]
      by_cases h2 : i ≤ t
      · rw [if_pos h2, if_pos (by omega)]
        have : t - i = (t - (i + 1)) + 1 := by omega
        rw [this]
        rfl
      · rw [if_neg h2, if_neg (by omega)]

/-- A call by its body. -/
theorem acalls_of (hT : TOk P T) (hE : EqOk P T) (hm : P.follows .mixedOrders = true) {f : Nat} {fn : Func} {c : Code} {args : List V} {h : H} {Q : V → H → Prop} (hf : P.funcs[f]? = some fn) (hb : fn.body = some c) (hname : (fn.name == "runtime.NumGoroutine") = false)
    (hok : (codeOk fn.ntmps c && Nat.ble args.length fn.ntmps) = true) (hw : wpC P T c (bodyX T fn.results.toList Q) (argsE 0 args) h) : ACalls P f args h Q := by
  simp only [Bool.and_eq_true] at hok
  obtain ⟨hok, hlen⟩ := hok
  have hlen := Nat.le_of_ble_eq_true hlen
  refine ⟨⟨fn, hf, by rw [hb]; rfl, hname⟩, fun ρ w vs r hd hv => ?_⟩
  refine calls_of_wp hf hb ?_
  have hvl : vs.length = args.length := hv.1.symm
  have g : G ρ h w fn.ntmps ρ (argsE 0 args) h { tmps := vs.toArray ++ Array.replicate (fn.ntmps - vs.toArray.size) Go.undef, defers := [] } w := by
    refine ⟨⟨by simp; omega, fun t => ?_⟩, r, hd, Since.refl _ _ _, rfl⟩
    rw [get_argsE, if_pos (Nat.zero_le t), Nat.sub_zero]
    simp only [Array.getD_eq_getD_getElem?, List.getD_eq_getElem?_getD]
    rcases Nat.lt_or_ge t args.length with ht | ht
    · obtain ⟨u, h1, h2⟩ := hv.get (List.getElem?_eq_getElem ht)
      rw [List.getElem?_eq_getElem ht, Array.getElem?_append_left (by simp; omega)]
      simp only [List.getElem?_toArray, h1, Option.getD_some]
      exact h2
    · rw [List.getElem?_eq_none ht]
      exact .undef _
  refine wp_mono (wpC_sound hT hE hm c hok _ _ h ρ _ w hw g) fun e a' w' hq => ?_
  cases e with
  | normal =>
    obtain ⟨ρ', env', h', g', hk⟩ := hq
    obtain ⟨u, k1, r, h2, ρ2, k2, k3, k4, k5, k6⟩ := bodyX_sound hT g' (fun id e => by cases e) hk
    exact ⟨g'.z, u, k1, r, h2, ρ2, u, rfl, k2, k3, k4, k5, k6⟩
  | ret =>
    obtain ⟨ρ', env', h', g', hk⟩ := hq
    obtain ⟨u, k1, r, h2, ρ2, k2, k3, k4, k5, k6⟩ := bodyX_sound hT g' (fun id e => by cases e) hk
    exact ⟨g'.z, u, k1, r, h2, ρ2, u, rfl, k2, k3, k4, k5, k6⟩
  | exit id =>
    obtain ⟨ρ', env', h', g', hk⟩ := hq
    exact hk.elim
  | goto l => exact hq.elim
  | panic ch => exact hq.elim
  | outgrown => exact hq.elim
end
end Go.Ab
/-! The table of types, asked by program; structs of numbers, held against each other. -/
namespace Go.Ab
open Go

def dmB : TypeDesc → TD → Bool
  | .bool, .bool => true
  | .int k, .int k' => kEq k k'
  | .string, .str => true
  | .pointer e, .ptr e' => Nat.beq e e'
  | .slice e, .sl e' => Nat.beq e e'
  | .map k e, .mp k' e' => Nat.beq k k' && Nat.beq e e'
  | .struct fs, .st l => (fs.toList.map (fun f => (f.type, f.offset))) == l
  | .array n e, .arr n' e' => Nat.beq n n' && Nat.beq e e'
  | _, _ => false
theorem dmB_spec {d : TypeDesc} {td : TD} (h : dmB d td = true) : DM d td := by
  cases d <;> cases td <;> simp [dmB] at h <;> simp [DM]
  case int.int k k' => exact kEq_eq h
  all_goals exact h
def vB : V → Value → Bool
  | .int k n, .int k' m => kEq k k' && n == m
  | .bool a, .bool b => a == b
  | .str [], .string s => s.data.toList.isEmpty
  | .ptr none, .pointer none => true
  | .sl none 0, .slice none 0 0 => true
  | .mp none, .map none => true
  | _, _ => false
theorem vB_spec {v : V} {u : Value} (h : vB v u = true) (ρ : Rho) : VRel ρ v u ∧ u.oneCell' = true ∧ isV v = true ∧ vcells v = [v] := by
  unfold vB at h
  split at h
  · simp only [Bool.and_eq_true, beq_iff_eq] at h
    rw [kEq_eq h.1, h.2]
    exact ⟨.int _ _, rfl, rfl, rfl⟩
  · rw [eq_of_beq h]
    exact ⟨.bool _, rfl, rfl, rfl⟩
  · rename_i s
    have : s.data.toList = [] := by simpa using h
    have e := VRel.str (ρ := ρ) s
    rw [this] at e
    exact ⟨e, rfl, rfl, rfl⟩
  · exact ⟨.nilp, rfl, rfl, rfl⟩
  · exact ⟨.nils, rfl, rfl, rfl⟩
  · exact ⟨.nilm, rfl, rfl, rfl⟩
  · cases h
def vsB : List V → List Value → Bool
  | [], [] => true
  | v :: vs, u :: us => vB v u && vsB vs us
  | _, _ => false
theorem vsB_spec : ∀ {vs : List V} {us : List Value}, vsB vs us = true → ∀ ρ, VsRel ρ vs us ∧ ∀ u ∈ us, u.oneCell' = true
  | [], [], _, ρ => ⟨VsRel.nil ρ, by simp⟩
  | v :: vs, u :: us, h, ρ => by
    simp only [vsB, Bool.and_eq_true] at h
    obtain ⟨h1, h2, _⟩ := vB_spec h.1 ρ
    obtain ⟨h3, h4⟩ := vsB_spec h.2 ρ
    exact ⟨h3.cons h1, fun x hx => by
      rcases List.mem_cons.1 hx with rfl | hx
      · exact h2
      · exact h4 x hx⟩
  | [], _ :: _, h, _ => by simp [vsB] at h
  | _ :: _, [], h, _ => by simp [vsB] at h
def zB : V → Value → Bool
  | .agg vs, .agg us => vsB vs us.toList
  | v, u => vB v u
theorem zB_spec {v : V} {u : Value} (h : zB v u = true) : (∀ ρ, VRel ρ v u) ∧ isV v = true := by
  unfold zB at h
  split at h
  · rename_i vs us
    refine ⟨fun ρ => ?_, rfl⟩
    obtain ⟨h1, h2⟩ := vsB_spec h ρ
    have := VRel.agg vs us.toList h2 h1.1 h1.2
    simpa using this
  · exact ⟨fun ρ => (vB_spec h ρ).1, (vB_spec h (fun _ => none)).2.2.1⟩
def tyB (P : Program) (t : Nat) (ti : TI) : Bool :=
  Nat.ble 1 P.types.size && (match P.underlying t with
   | some d => dmB d ti.d
   | none => false) &&
  (match P.info? t with
   | some i => Nat.beq i.size ti.size && Nat.beq i.bytes ti.bytes && (match i.zero with
     | some z => zB ti.zero z && Nat.beq (vcells ti.zero).length ti.size
     | none => false)
   | none => false) && (match ti.d with
   | .mp kt _ => (match P.underlying kt with
     | some (.struct _) => P.keyTypeAt 3 kt && P.tiled 3 kt
     | _ => true)
   | _ => true)
theorem tyB_spec {P : Program} {t : Nat} {ti : TI} (h : tyB P t ti = true) : TyOk P t ti := by
  simp only [tyB, Bool.and_eq_true] at h
  obtain ⟨⟨⟨h0, h1⟩, h2⟩, h3⟩ := h
  have h0 := Nat.le_of_ble_eq_true h0
  refine ⟨⟨P.types.size - 1, by omega⟩, ?_, ?_, fun kt et e fs e2 => ?_⟩
  rotate_right
  · rw [e] at h3
    simp only [e2, Bool.and_eq_true] at h3
    exact h3
  · split at h1
    · rename_i d hd
      exact ⟨d, hd, dmB_spec h1⟩
    · cases h1
  · split at h2
    · rename_i i hi
      simp only [Bool.and_eq_true] at h2
      obtain ⟨⟨h3, h4⟩, h5⟩ := h2
      split at h5
      · rename_i z hz
        simp only [Bool.and_eq_true] at h5
        obtain ⟨k1, k2⟩ := zB_spec h5.1
        exact ⟨i, z, hi, Nat.eq_of_beq_eq_true h3, Nat.eq_of_beq_eq_true h4, hz, k1, k2, Nat.eq_of_beq_eq_true h5.2⟩
      · cases h5
    · cases h2
/-- may two structs of this type be held against each other, field by field? -/
def eqTyB (P : Program) (T : TT) (t : Nat) (ti : TI) : Bool :=
  match ti.d with
  | .st fs => !flatTy T 0 fs || (!P.stoodInHeld t && !P.eqGuardType P.depth t && (match P.underlying t with
    | some (.struct fl) => fl.toList.all fun f => f.name != "_"
    | _ => false))
  | _ => true
def tchk (P : Program) (T : TT) : Bool := T.all fun p => (match p.2.d with
  | .other => true
  | _ => tyB P p.1 p.2) && eqTyB P T p.1 p.2
theorem at_mem {T : TT} : ∀ {t : Nat}, (T.at_ t).d ≠ .other → (t, T.at_ t) ∈ T := by
  induction T with
  | nil => intro t h; simp [TT.at_] at h
  | cons p T ih =>
    obtain ⟨s, ti⟩ := p
    intro t h
    simp only [TT.at_] at h ⊢
    cases hb : Nat.beq s t with
    | true =>
      simp only [hb] at h ⊢
      rw [Nat.eq_of_beq_eq_true hb]
      exact List.mem_cons_self
    | false =>
      simp only [hb] at h ⊢
      exact List.mem_cons_of_mem _ (ih h)
theorem tchk_ok {P : Program} {T : TT} (h : tchk P T = true) : TOk P T := by
  intro t ht
  have hne : (T.at_ t).d ≠ .other := by
    intro e
    simp [has, e] at ht
  simp only [tchk, List.all_eq_true, Bool.and_eq_true] at h
  have := (h _ (at_mem hne)).1
  simp only at this
  exact tyB_spec this

section
variable {P : Program} {T : TT}
theorem eqFields_flat (hT : TOk P T) {d : Nat} {us ws : List Value} {w : World} {ρ : Rho} : ∀ (l : List Field) (j : Nat) (xs ys : List V) (a b : List Int), flatTy T j (l.map fun f => (f.type, f.offset)) = true → (∀ f ∈ l, f.name ≠ "_") →
    VsRel ρ xs (us.drop j) → VsRel ρ ys (ws.drop j) → flat T (l.map fun f => (f.type, f.offset)) xs = some a → flat T (l.map fun f => (f.type, f.offset)) ys = some b → (Op.eqFields (d + 1) us.toArray ws.toArray l).run P w = .ok (a == b) w
  | [], j, xs, ys, a, b, hf, hn, vx, vy, fa, fb => by
    cases xs with
    | cons x xs => simp [flat] at fa
    | nil =>
    cases ys with
    | cons y ys => simp [flat] at fb
    | nil =>
    simp [flat] at fa fb
    subst fa fb
    rfl
  | f :: l, j, xs, ys, a, b, hf, hn, vx, vy, fa, fb => by
    simp only [List.map_cons, flatTy, Bool.and_eq_true] at hf
    obtain ⟨⟨h1, h2⟩, h3⟩ := hf
    have ho := Nat.eq_of_beq_eq_true h1
    cases xs with
    | nil => simp [flat] at fa
    | cons x xs =>
    cases ys with
    | nil => simp [flat] at fb
    | cons y ys =>
    obtain ⟨u, us', e1, vx1, vx2⟩ := vx.uncons
    obtain ⟨v, ws', e2, vy1, vy2⟩ := vy.uncons
    have g1 : us[j]? = some u := by
      have := congrArg (fun l : List Value => l[0]?) e1
      simpa using this
    have g2 : ws[j]? = some v := by
      have := congrArg (fun l : List Value => l[0]?) e2
      simpa using this
    have d1 : us.drop (j + 1) = us' := by
      rw [← List.drop_drop, e1]
      rfl
    have d2 : ws.drop (j + 1) = ws' := by
      rw [← List.drop_drop, e2]
      rfl
    rw [← d1] at vx2
    rw [← d2] at vy2
    have hname : f.name ≠ "_" := hn f (by simp)
    have hk : aggK T f.type = .one := by
      unfold aggK
      split at h2 <;> simp_all
    have p1 : (part f.type us.toArray f.offset).run P w = .ok u w := by
      simp [part, (hT.isAgg w).2 hk, ho, g1]
    have p2 : (part f.type ws.toArray f.offset).run P w = .ok v w := by
      simp [part, (hT.isAgg w).2 hk, ho, g2]
    have ih : ∀ a' b', flat T (l.map fun f => (f.type, f.offset)) xs = some a' → flat T (l.map fun f => (f.type, f.offset)) ys = some b' → (Op.eqFields (d + 1) us.toArray ws.toArray l).run P w = .ok (a' == b') w := fun a' b' q1 q2 => eqFields_flat hT l (j + 1) xs ys a' b' h3 (fun f hf => hn f (by simp [hf])) vx2 vy2 q1 q2
    simp only [Op.eqFields, hname, ne_eq, not_false_eq_true, if_true, Sem.run_bind, p1, p2, Result.andThen_ok]
    simp only [List.map_cons, flat] at fa fb
    split at h2
    · rename_i k hk'
      have hu := hT.of_int hk'
      rw [hk'] at fa fb
      cases x <;> simp only [reduceCtorEq] at fa
      rename_i k1 n1
      cases y <;> simp only [reduceCtorEq] at fb
      rename_i k2 n2
      cases q1 : kEq k k1 with
      | false => simp [q1] at fa
      | true =>
      cases q2 : kEq k k2 with
      | false => simp [q2] at fb
      | true =>
      simp only [q1] at fa
      simp only [q2] at fb
      have q1 := kEq_eq q1
      have q2 := kEq_eq q2
      subst q1 q2
      obtain ⟨a', r1, rfl⟩ := Option.map_eq_some_iff.1 fa
      obtain ⟨b', r2, rfl⟩ := Option.map_eq_some_iff.1 fb
      have he : (Op.equalIn (d + 1) f.type u v).run P w = .ok (n1 == n2) w := by
        rw [vx1.int_inv, vy1.int_inv]
        simp only [Op.equalIn, Sem.run_bind, run_underlying hu, Result.andThen_ok, if_true, Sem.run_pure]
      rw [he]
      simp only [Result.andThen_ok]
      by_cases hne : n1 = n2
      · subst hne
        simp [ih a' b' r1 r2]
      · have h1 : (n1 == n2) = false := by simpa using hne
        simp [h1, hne]
    · rename_i hk'
      have hu := hT.of_bool hk'
      rw [hk'] at fa fb
      cases x <;> simp only [reduceCtorEq] at fa
      rename_i b1
      cases y <;> simp only [reduceCtorEq] at fb
      rename_i b2
      obtain ⟨a', r1, rfl⟩ := Option.map_eq_some_iff.1 fa
      obtain ⟨b', r2, rfl⟩ := Option.map_eq_some_iff.1 fb
      have he : (Op.equalIn (d + 1) f.type u v).run P w = .ok (b1 == b2) w := by
        rw [vx1.bool_inv, vy1.bool_inv]
        exact In_equal_bool hu d b1 b2
      rw [he]
      simp only [Result.andThen_ok]
      cases b1 <;> cases b2 <;> simp [ih a' b' r1 r2]
    · cases h2
theorem tchk_eq (h : tchk P T = true) : EqOk P T := by
  have hT := tchk_ok h
  intro t fs hd hf ρ xs ys a b fa fb xo yo u1 u2 w r1 r2
  have hne : (T.at_ t).d ≠ .other := by rw [hd]; simp
  simp only [tchk, List.all_eq_true, Bool.and_eq_true] at h
  have he := (h _ (at_mem hne)).2
  obtain ⟨fl, hu, hm⟩ := hT.of_st hd
  simp only [eqTyB, hd, hf, Bool.not_true, Bool.false_or, Bool.and_eq_true, Bool.not_eq_true', hu, List.all_eq_true] at he
  obtain ⟨⟨q1, q2⟩, q3⟩ := he
  obtain ⟨us, rfl, vx, _⟩ := r1.agg_inv
  obtain ⟨ws, rfl, vy, _⟩ := r2.agg_inv
  have hg : ∀ op, (eqGuard op t xo yo (.agg us.toArray) (.agg ws.toArray)).run P w = .ok () w := by
    intro op
    cases op <;> simp [eqGuard, q2]
  refine ⟨hg _, hg _, ?_, _, _, rfl, rfl⟩
  have hu' : P.underlying t = some (.struct (P.fieldsOf t)) := by
    simp [Program.fieldsOf, hu]
  have hfo : P.fieldsOf t = fl := by simp [Program.fieldsOf, hu]
  have := run_equalIn_struct (P := P) w 9999 t us.toArray ws.toArray hu' q1
  have h2 := eqFields_flat hT (d := 9998) (us := us) (ws := ws) (w := w) (ρ := ρ) fl.toList 0 xs ys a b (by rw [hm]; exact hf) (fun f hf => by simpa using q3 f hf) (by simpa using vx) (by simpa using vy) (by rw [hm]; exact fa) (by rw [hm]; exact fb)
  rw [hfo] at this
  exact this.trans h2
end
end Go.Ab
/-! What a call is handed, read as data, stands for rows that nobody writes. -/
namespace Go.Ab
open Go

/-! ### Data as cells -/
def RDs {α : Type} (R : α → List V → Prop) : List α → List (List V) → Prop
  | [], [] => True
  | d :: ds, c :: cs => R d c ∧ RDs R ds cs
  | _, _ => False
def RDf {α : Type} (R : Nat → α → List V → Prop) : List (Nat × Nat) → List α → List (List V) → Prop
  | [], [], [] => True
  | f :: fs, d :: ds, c :: cs => R f.1 d c ∧ RDf R fs ds cs
  | _, _, _ => False
/-- The datum d, of type t, is told by the cells c. -/
def RD {D : Type} (T : TT) (h : H) : Nat → Nat → DataW D → List V → Prop
  | 0, _, _, _ => False
  | n + 1, t, d, c => match (T.at_ t).d, d with
    | .bool, .lit (.bool b) => c = [.bool b]
    | .int k, .lit (.int k' x) => k' = k ∧ c = [.int k x] ∧ k.min ≤ x ∧ x ≤ k.max
    | .str, .lit (.string bs) => c = [.str (bs.map fun b => (b.toNat : Int))] ∧ bs.length ≤ maxLen
    | .sl _, .nil => c = [.sl none 0]
    | .sl e, .slice elems _ => ∃ i css, c = [.sl (some (i, 0)) elems.length] ∧ elems.length ≤ maxLen ∧ (elems ≠ [] → h.obj i = some (.row false (T.at_ e).size css.flatten)) ∧ RDs (RD T h n e) elems css
    | .st fs, .agg ds => ∃ css, c = css.flatten ∧ RDf (fun t => RD T h n t) fs ds css
    | .arr m e, .agg ds => ∃ css, c = css.flatten ∧ ds.length = m ∧ RDs (RD T h n e) ds css
    | _, _ => False
theorem RDs.mono {α : Type} {R R' : α → List V → Prop} : ∀ {ds : List α} {cs : List (List V)}, (∀ d c, R d c → R' d c) → RDs R ds cs → RDs R' ds cs
  | [], [], _, _ => trivial
  | d :: ds, c :: cs, hR, h => ⟨hR _ _ h.1, RDs.mono hR h.2⟩
  | [], _ :: _, _, h => h.elim
  | _ :: _, [], _, h => h.elim
theorem RDf.mono {α : Type} {R R' : Nat → α → List V → Prop} : ∀ {fs : List (Nat × Nat)} {ds : List α} {cs : List (List V)}, (∀ t d c, R t d c → R' t d c) → RDf R fs ds cs → RDf R' fs ds cs
  | [], [], [], _, _ => trivial
  | f :: fs, d :: ds, c :: cs, hR, h => ⟨hR _ _ _ h.1, RDf.mono hR h.2⟩
  | [], [], _ :: _, _, h => h.elim
  | [], _ :: _, _, _, h => h.elim
  | _ :: _, [], _, _, h => h.elim
  | _ :: _, _ :: _, [], _, h => h.elim
theorem RD.mono {D : Type} {T : TT} {h h' : H} (hh : ∀ i ob, h.obj i = some ob → h'.obj i = some ob) : ∀ {n t : Nat} {d : DataW D} {c : List V}, RD T h n t d c → RD T h' n t d c
  | 0, _, _, _, r => r.elim
  | n + 1, t, d, c, r => by
    unfold RD at r ⊢
    split at r
    · exact r
    · exact r
    · exact r
    · exact r
    · obtain ⟨i, css, h1, h2, h3, h4⟩ := r
      exact ⟨i, css, h1, h2, fun hne => hh _ _ (h3 hne), h4.mono fun d c r => RD.mono hh r⟩
    · obtain ⟨css, h1, h2⟩ := r
      exact ⟨css, h1, h2.mono fun t d c r => RD.mono hh r⟩
    · obtain ⟨css, h1, h2, h3⟩ := r
      exact ⟨css, h1, h2, h3.mono fun d c r => RD.mono hh r⟩
    · exact r.elim

/-! ### Types that are served: contiguous structs, arrays, slices, plain values -/
def offsOk (T : TT) : Nat → List (Nat × Nat) → Option Nat
  | o, [] => some o
  | o, (t, f) :: r => match Nat.beq o f with
    | true => offsOk T (o + (T.at_ t).size) r
    | false => none
def sup (T : TT) : Nat → Nat → Bool
  | 0, _ => false
  | n + 1, t => match (T.at_ t).d with
    | .bool => Nat.beq (T.at_ t).size 1
    | .int _ => Nat.beq (T.at_ t).size 1
    | .str => Nat.beq (T.at_ t).size 1
    | .sl e => Nat.beq (T.at_ t).size 1 && Nat.ble 1 (T.at_ e).size && sup T n e
    | .st fs => (match offsOk T 0 fs with
      | some o => Nat.beq o (T.at_ t).size
      | none => false) && fs.all fun f => sup T n f.1
    | .arr m e => Nat.beq (T.at_ t).size (m * (T.at_ e).size) && sup T n e
    | _ => false
theorem mapM_some {α β : Type} {f : α → Option β} : ∀ {l : List α} {ys : List β}, l.mapM f = some ys → ys.length = l.length ∧ ∀ (i : Nat) (x : α), l[i]? = some x → ∃ y, ys[i]? = some y ∧ f x = some y
  | [], ys, h => by
    simp at h
    subst h
    exact ⟨rfl, fun i x hx => by simp at hx⟩
  | x :: l, ys, h => by
    rw [List.mapM_cons] at h
    obtain ⟨y, hy, h⟩ := Option.bind_eq_some_iff.1 h
    obtain ⟨zs, hz, h⟩ := Option.bind_eq_some_iff.1 h
    injection h with h
    subst h
    obtain ⟨h1, h2⟩ := mapM_some hz
    refine ⟨by simp [h1], fun i a ha => ?_⟩
    cases i with
    | zero =>
      simp at ha
      subst ha
      exact ⟨y, rfl, hy⟩
    | succ i =>
      obtain ⟨z, hz1, hz2⟩ := h2 i a (by simpa using ha)
      exact ⟨z, by simpa using hz1, hz2⟩
/-- What grows as arguments are read: rows that nobody writes. -/
structure Reads (ρ : Rho) (h : H) (W : World) : Prop where
  r : Rel ρ h W
  d : Dom ρ h.next
  ro : ∀ i ob, h.obj i = some ob → ob.own = false
structure GrowR (ρ : Rho) (h : H) (ρ' : Rho) (h' : H) : Prop where
  ext : ∀ i l, ρ i = some l → ρ' i = some l
  obj : ∀ i ob, h.obj i = some ob → h'.obj i = some ob
theorem GrowR.refl (ρ : Rho) (h : H) : GrowR ρ h ρ h := ⟨fun _ _ e => e, fun _ _ e => e⟩
theorem GrowR.trans {ρ ρ1 ρ2 : Rho} {h h1 h2 : H} (a : GrowR ρ h ρ1 h1) (b : GrowR ρ1 h1 ρ2 h2) : GrowR ρ h ρ2 h2 := ⟨fun i l e => b.ext i l (a.ext i l e), fun i ob e => b.obj i ob (a.obj i ob e)⟩
/-- One number more; no object. -/
def H.skip (h : H) : H := ⟨h.next + 1, h.obj, fun i ob e => Nat.lt_succ_of_lt (h.lt i ob e)⟩
theorem Reads.skip {ρ : Rho} {h : H} {W : World} (r : Reads ρ h W) (l : Loc) : Reads (ρ.add h.next l) h.skip W ∧ GrowR ρ h (ρ.add h.next l) h.skip := by
  have he := Rho.add_ext r.d l
  refine ⟨⟨⟨fun i ob e => ?_, fun i j oi oj li lj hi hj ho => ?_⟩, r.d.add l, r.ro⟩, he, fun _ _ e => e⟩
  · obtain ⟨l', h1, h2⟩ := r.r.obj i ob e
    exact ⟨l', he _ _ h1, h2.mono he rfl⟩
  · rw [r.ro i oi hi] at ho
    cases ho
theorem Reads.row {ρ : Rho} {h : H} {W : World} (r : Reads ρ h W) (l : Loc) {ob : Obj} (ho : ob.own = false) (hob : ObjRel (ρ.add h.next l) W l ob) : Reads (ρ.add h.next l) (h.push ob) W ∧ GrowR ρ h (ρ.add h.next l) (h.push ob) := by
  have he := Rho.add_ext r.d l
  have hro : ∀ i o, (h.push ob).obj i = some o → o.own = false := by
    intro i o e
    simp only [H.push] at e
    split at e
    · injection e with e
      subst e
      exact ho
    · exact r.ro i o e
  refine ⟨⟨⟨fun i o e => ?_, fun i j oi oj li lj hi hj hoi => ?_⟩, r.d.add l, hro⟩, he, fun i o e => H.obj_push ob e⟩
  · simp only [H.push] at e
    split at e
    · rename_i ei
      injection e with e
      subst e ei
      exact ⟨l, Rho.add_self _ _ _, hob⟩
    · obtain ⟨l', h1, h2⟩ := r.r.obj i o e
      exact ⟨l', he _ _ h1, h2.mono he rfl⟩
  · rw [hro i oi hi] at hoi
    cases hoi

section
variable {P : Program} {T : TT} {D : Type} {enc : TypeId × Value → D} {W : World}
theorem cells_of {a : Addr} {n : Nat} {xs : List Value} (h : W.cells? 0 a n = some xs) : xs.length = n ∧ ∀ j u, xs[j]? = some u → W.cell? (a.add j) = some u := by
  unfold World.cells? at h
  rw [if_pos (Nat.zero_le _)] at h
  obtain ⟨h1, h2⟩ := mapM_some h
  refine ⟨by simpa using h1, fun j u hj => ?_⟩
  have hjl : j < n := by
    have := (List.getElem?_eq_some_iff.1 hj).1
    rw [h1] at this
    simpa using this
  obtain ⟨y, hy1, hy2⟩ := h2 j j (by simp [hjl])
  rw [hj] at hy1
  injection hy1 with hy1
  rw [hy1]
  exact hy2
theorem cell_norm {a : Addr} {p q : Nat} {u : Value} (h : W.cell? ((a.add p).add q) = some u) : W.cell? ⟨a.block, a.off + (p + q), none⟩ = some u := by
  obtain ⟨b, o, sp⟩ := a
  by_cases hp : p = 0
  · by_cases hq : q = 0
    · subst hp hq
      simp only [Addr.add, if_true] at h
      cases sp with
      | none => simpa using h
      | some x =>
        unfold World.cell? at h
        simp at h
        split at h <;> cases h
    · subst hp
      simpa [Addr.add, hq] using h
  · by_cases hq : q = 0
    · subst hq
      simpa [Addr.add, hp] using h
    · simpa [Addr.add, hp, hq, Nat.add_assoc] using h
theorem cell_block {b x : Nat} {u : Value} (h : W.cell? ⟨b, x, none⟩ = some u) : ∃ c e f, W.heap[b]? = some (.cells c e f) ∧ c[x]? = some u := by
  unfold World.cell? at h
  split at h
  · rename_i c e f hb
    exact ⟨c, e, f, hb, by simpa using h⟩
  · cases h
def ReadOne (P : Program) (T : TT) (enc : TypeId × Value → D) (W : World) (n F : Nat) : Prop := ∀ (t : Nat) (cs : List Value) (d : DataW D) (ps : List MemPlace), sup T n t = true → DataW.trod enc P W 0 (fun _ => true) true F t cs = some (d, ps) → ∀ ρ h, Reads ρ h W →
  ∃ ρ' h' c, Reads ρ' h' W ∧ GrowR ρ h ρ' h' ∧ VsRel ρ' c cs ∧ (∀ u ∈ cs, u.oneCell' = true) ∧ cs.length = (T.at_ t).size ∧ RD T h' n t d c
/-- Many of one type, one behind the other. -/
theorem read_seq {n F e : Nat} (ih : ReadOne P T enc W n F) (he : sup T n e = true) : ∀ (items : List (List Value × DataW D × List MemPlace)), (∀ it ∈ items, DataW.trod enc P W 0 (fun _ => true) true F e it.1 = some (it.2.1, it.2.2)) → ∀ ρ h, Reads ρ h W →
    ∃ ρ' h' css, Reads ρ' h' W ∧ GrowR ρ h ρ' h' ∧ VsRel ρ' css.flatten (items.map (·.1)).flatten ∧ (∀ u ∈ (items.map (·.1)).flatten, u.oneCell' = true) ∧ (items.map (·.1)).flatten.length = items.length * (T.at_ e).size ∧ RDs (RD T h' n e) (items.map (·.2.1)) css
  | [], _, ρ, h, r => ⟨ρ, h, [], r, GrowR.refl _ _, VsRel.nil _, by simp, by simp, trivial⟩
  | it :: items, hi, ρ, h, r => by
    obtain ⟨ρ1, h1, c, r1, g1, v1, o1, l1, d1⟩ := ih e it.1 it.2.1 it.2.2 he (hi it (by simp)) ρ h r
    obtain ⟨ρ2, h2, css, r2, g2, v2, o2, l2, d2⟩ := read_seq ih he items (fun x hx => hi x (by simp [hx])) ρ1 h1 r1
    refine ⟨ρ2, h2, c :: css, r2, g1.trans g2, ?_, ?_, ?_, d1.mono g2.obj, d2⟩
    · simpa using (v1.mono g2.ext).append v2
    · intro u hu
      simp only [List.map_cons, List.flatten_cons, List.mem_append] at hu
      rcases hu with hu | hu
      · exact o1 u hu
      · exact o2 u hu
    · simp only [List.map_cons, List.flatten_cons, List.length_append, List.length_cons, l1, l2, Nat.add_mul, Nat.one_mul]
      omega
/-- The fields of a struct, one behind the other. -/
theorem read_fields {n F : Nat} (ih : ReadOne P T enc W n F) : ∀ (fs : List (Nat × Nat)) (o : Nat) (cs : List Value) (xs : List (DataW D × List MemPlace)) (tot : Nat), offsOk T o fs = some tot → (fs.all fun f => sup T n f.1) = true → cs.length = tot → o ≤ tot →
    (xs.length = fs.length ∧ ∀ (j : Nat) f, fs[j]? = some f → ∃ x, xs[j]? = some x ∧ DataW.trod enc P W 0 (fun _ => true) true F f.1 ((cs.drop f.2).take (T.at_ f.1).size) = some x) → ∀ ρ h, Reads ρ h W →
    ∃ ρ' h' css, Reads ρ' h' W ∧ GrowR ρ h ρ' h' ∧ VsRel ρ' css.flatten (cs.drop o) ∧ (∀ u ∈ cs.drop o, u.oneCell' = true) ∧ RDf (fun t => RD T h' n t) fs (xs.map (·.1)) css
  | [], o, cs, xs, tot, ho, _, hl, hle, hx, ρ, h, r => by
    simp [offsOk] at ho
    have : xs = [] := List.eq_nil_of_length_eq_zero hx.1
    subst this
    have hd : cs.drop o = [] := List.drop_eq_nil_of_le (by omega)
    rw [hd]
    exact ⟨ρ, h, [], r, GrowR.refl _ _, VsRel.nil _, by simp, trivial⟩
  | (t, f) :: fs, o, cs, xs, tot, ho, hs, hl, hle, hx, ρ, h, r => by
    simp only [offsOk] at ho
    cases hb : Nat.beq o f with
    | false => simp [hb] at ho
    | true =>
      simp only [hb] at ho
      have := Nat.eq_of_beq_eq_true hb
      subst this
      simp only [List.all_cons, Bool.and_eq_true] at hs
      obtain ⟨hxl, hx⟩ := hx
      cases xs with
      | nil => simp at hxl
      | cons x xs =>
        obtain ⟨x', hx1, hx2⟩ := hx 0 _ rfl
        simp at hx1
        subst hx1
        obtain ⟨ρ1, h1, c, r1, g1, v1, o1, l1, d1⟩ := ih t _ x.1 x.2 hs.1 hx2 ρ h r
        have hle2 : ∀ (fs : List (Nat × Nat)) (o tot : Nat), offsOk T o fs = some tot → o ≤ tot := by
          intro fs
          induction fs with
          | nil => intro o tot h; simp [offsOk] at h; omega
          | cons g fs ihf =>
            obtain ⟨t', f'⟩ := g
            intro o tot h
            simp only [offsOk] at h
            cases hb : Nat.beq o f' with
            | false => simp [hb] at h
            | true =>
              simp only [hb] at h
              have := ihf _ _ h
              omega
        obtain ⟨ρ2, h2, css, r2, g2, v2, o2, d2⟩ := read_fields ih fs (o + (T.at_ t).size) cs xs tot ho hs.2 hl (hle2 _ _ _ ho) ⟨by simpa using hxl, fun j g hg => by
          obtain ⟨y, hy1, hy2⟩ := hx (j + 1) g (by simpa using hg)
          exact ⟨y, by simpa using hy1, hy2⟩⟩ ρ1 h1 r1
        have hsplit : cs.drop o = (cs.drop o).take (T.at_ t).size ++ cs.drop (o + (T.at_ t).size) := by
          rw [← List.drop_drop, List.take_append_drop]
        refine ⟨ρ2, h2, c :: css, r2, g1.trans g2, ?_, ?_, d1.mono g2.obj, d2⟩
        · rw [hsplit]
          simpa using (v1.mono g2.ext).append v2
        · rw [hsplit]
          intro u hu
          rcases List.mem_append.1 hu with hu | hu
          · exact o1 u hu
          · exact o2 u hu

theorem read_one (hT : TOk P T) : ∀ (n F : Nat), ReadOne P T enc W n F
  | 0, F => fun t cs d ps hs => by simp [sup] at hs
  | n + 1, F => by
    intro t cs d ps hs hd ρ h r
    have size_of : ∀ t, has T t = true → P.cellsOf t = (T.at_ t).size := fun t ht => by
      obtain ⟨i, z, h1, h2, _⟩ := (hT t ht).info
      simp [Program.cellsOf, h1, h2]
    have hasT : ∀ n t, sup T n t = true → has T t = true := fun n t hs => by
      cases n with
      | zero => simp [sup] at hs
      | succ n =>
        unfold sup at hs
        unfold has
        split at hs <;> simp_all
    have hh := hasT _ _ hs
    unfold sup at hs
    unfold RD
    split at hs
    · rename_i ht
      have hsz := Nat.eq_of_beq_eq_true hs
      obtain ⟨b, rfl, hx⟩ := DataW.trod_bool (hT.of_bool ht) hd
      injection hx with hx _
      subst hx
      exact ⟨ρ, h, [.bool b], r, GrowR.refl _ _, VsRel.cons (.bool b) (VsRel.nil _), by simp [Value.oneCell'], by simp [hsz], by simp [ht]⟩
    · rename_i k ht
      have hsz := Nat.eq_of_beq_eq_true hs
      obtain ⟨x, rfl, hx, hw⟩ := DataW.trod_int (hT.of_int ht) hd
      injection hx with hx _
      subst hx
      have hw' : k.min ≤ x ∧ x ≤ k.max := by simpa [Lit.wf] using hw
      exact ⟨ρ, h, [.int k x], r, GrowR.refl _ _, VsRel.cons (.int k x) (VsRel.nil _), by simp [Value.oneCell'], by simp [hsz], by simp [ht, hw']⟩
    · rename_i ht
      have hsz := Nat.eq_of_beq_eq_true hs
      obtain ⟨s, rfl, hx, hw⟩ := DataW.trod_string (hT.of_str ht) hd
      injection hx with hx _
      subst hx
      refine ⟨ρ, h, [.str (s.data.toList.map fun b => (b.toNat : Int))], r, GrowR.refl _ _, VsRel.cons (.str s) (VsRel.nil _), by simp [Value.oneCell'], by simp [hsz], ?_⟩
      rw [ht]
      refine ⟨rfl, ?_⟩
      rw [Array.length_toList]
      exact hw
    · rename_i e ht
      simp only [Bool.and_eq_true] at hs
      obtain ⟨⟨hsz, he1⟩, hse⟩ := hs
      have hsz := Nat.eq_of_beq_eq_true hsz
      have he1 := Nat.le_of_ble_eq_true he1
      have hce := size_of e (hasT _ _ hse)
      rcases DataW.trod_slice (hT.of_sl ht) hd with ⟨rfl, hx⟩ | ⟨a, len, cap, elems, rest, F', rfl, rfl, hx, _, hle, hmx, hel, hread, hrest, _⟩
      · injection hx with hx _
        subst hx
        exact ⟨ρ, h, [.sl none 0], r, GrowR.refl _ _, VsRel.cons .nils (VsRel.nil _), by simp [Value.oneCell'], by simp [hsz], by simp [ht]⟩
      · injection hx with hx _
        subst hx
        rw [hce] at hread hrest
        obtain ⟨hrl, hrest⟩ := hrest rfl
        -- the elements' cells
        have hit : ∃ items : List (List Value × DataW D × List MemPlace), items.length = len ∧ items.map (·.2) = elems ∧ (∀ it ∈ items, DataW.trod enc P W 0 (fun _ => true) true F' e it.1 = some (it.2.1, it.2.2)) ∧
            ∀ (i : Nat) it, items[i]? = some it → W.cells? 0 (a.add (i * (T.at_ e).size)) (T.at_ e).size = some it.1 := by
          have hex : ∀ i, i < len → ∃ xs y, W.cells? 0 (a.add (i * (T.at_ e).size)) (T.at_ e).size = some xs ∧ DataW.trod enc P W 0 (fun _ => true) true F' e xs = some y ∧ elems[i]? = some y := by
            intro i hi
            have := hread i hi
            rw [List.getElem?_eq_getElem (by omega)] at this
            obtain ⟨xs, h1, h2⟩ := Option.bind_eq_some_iff.1 this
            exact ⟨xs, _, h1, h2, List.getElem?_eq_getElem (by omega)⟩
          refine ⟨(List.range len).map fun i => ((W.cells? 0 (a.add (i * (T.at_ e).size)) (T.at_ e).size).getD [], (elems[i]?).getD (.nil, [])), by simp, ?_, ?_, ?_⟩
          · apply List.ext_getElem?
            intro i
            simp only [List.map_map, List.getElem?_map]
            rcases Nat.lt_or_ge i len with hi | hi
            · rw [List.getElem?_range hi, List.getElem?_eq_getElem (show i < elems.length by omega)]
              simp [List.getElem?_eq_getElem (show i < elems.length by omega)]
            · rw [List.getElem?_eq_none (by simp; omega), List.getElem?_eq_none (by omega)]
              rfl
          · intro it hm
            simp only [List.mem_map, List.mem_range] at hm
            obtain ⟨i, hi, rfl⟩ := hm
            obtain ⟨xs, y, h1, h2, h3⟩ := hex i hi
            simp [h1, h2, h3]
          · intro i it hm
            rcases Nat.lt_or_ge i len with hi | hi
            · rw [List.getElem?_map, List.getElem?_range hi] at hm
              injection hm with hm
              subst hm
              obtain ⟨xs, y, h1, h2, h3⟩ := hex i hi
              simp [h1]
            · rw [List.getElem?_eq_none (by simp; omega)] at hm
              cases hm
        obtain ⟨items, il, im, itr, icell⟩ := hit
        obtain ⟨ρ1, h1, css, r1, g1, v1, o1, l1, d1⟩ := read_seq (read_one hT n F') hse items itr ρ h r
        have hds : items.map (·.2.1) = elems.map (·.1) := by
          rw [← im, List.map_map]
          rfl
        rw [hds] at d1
        -- each cell of the row
        have hcellat : ∀ (L : List (List Value)) (k : Nat), (∀ (i : Nat) xs, L[i]? = some xs → W.cells? 0 (a.add ((k + i) * (T.at_ e).size)) (T.at_ e).size = some xs) → ∀ (j : Nat) u, L.flatten[j]? = some u → W.cell? (⟨a.block, a.off + (k * (T.at_ e).size + j), none⟩) = some u := by
          intro L
          induction L with
          | nil => intro k _ j u hj; simp at hj
          | cons xs L ihL =>
            intro k hL j u hj
            have hx := hL 0 xs rfl
            obtain ⟨hxl, hxc⟩ := cells_of hx
            rcases Nat.lt_or_ge j xs.length with hlt | hge
            · rw [List.flatten_cons, List.getElem?_append_left hlt] at hj
              have := hxc j u hj
              rw [Nat.add_zero] at this
              exact cell_norm this
            · rw [List.flatten_cons, List.getElem?_append_right hge] at hj
              have h2 := ihL (k + 1) (fun i ys hy => by
                have := hL (i + 1) ys (by simpa using hy)
                rw [show k + 1 + i = k + (i + 1) by omega]
                exact this) (j - xs.length) u hj
              rw [Nat.add_mul, Nat.one_mul] at h2
              rw [show k * (T.at_ e).size + j = k * (T.at_ e).size + (T.at_ e).size + (j - xs.length) by omega]
              exact h2
        have hall : ∀ i, i < cap → ∃ xs, W.cells? 0 (a.add (i * (T.at_ e).size)) (T.at_ e).size = some xs := by
          intro i hi
          rcases Nat.lt_or_ge i len with hl | hl
          · have := hread i hl
            rw [List.getElem?_eq_getElem (by omega)] at this
            obtain ⟨xs, h1, _⟩ := Option.bind_eq_some_iff.1 this
            exact ⟨xs, h1⟩
          · have := hrest (i - len) (by omega)
            rw [List.getElem?_eq_getElem (by omega), show len + (i - len) = i by omega] at this
            obtain ⟨xs, h1, _⟩ := Option.bind_eq_some_iff.1 this
            exact ⟨xs, h1⟩
        have hcell : ∀ q, q < cap * (T.at_ e).size → ∃ u, W.cell? ⟨a.block, a.off + q, none⟩ = some u := by
          intro q hq
          have hi : q / (T.at_ e).size < cap := Nat.div_lt_of_lt_mul (by rw [Nat.mul_comm]; exact hq)
          obtain ⟨xs, hxs⟩ := hall _ hi
          obtain ⟨hl, hc⟩ := cells_of hxs
          have hj : q % (T.at_ e).size < xs.length := by
            rw [hl]
            exact Nat.mod_lt _ (by omega)
          have := cell_norm (hc _ _ (List.getElem?_eq_getElem hj))
          rw [Nat.mul_comm, Nat.div_add_mod] at this
          exact ⟨_, this⟩
        have hspot : 0 < cap → a = ⟨a.block, a.off, none⟩ := by
          intro h0
          obtain ⟨xs, hxs⟩ := hall 0 h0
          obtain ⟨hl, hc⟩ := cells_of hxs
          have := hc 0 _ (List.getElem?_eq_getElem (show 0 < xs.length by omega))
          rw [Nat.zero_mul] at this
          obtain ⟨b, o, sp⟩ := a
          simp only [Addr.add, if_true] at this
          cases sp with
          | none => rfl
          | some x =>
            unfold World.cell? at this
            simp at this
            split at this <;> cases this
        have hvr : ∀ ρ2 : Rho, ρ2 h1.next = some ⟨a.block, a.off, cap * (T.at_ e).size, (T.at_ e).size⟩ → VRel ρ2 (.sl (some (h1.next, 0)) (elems.map (·.1)).length) (.slice (some a) len cap) := by
          intro ρ2 h2
          rw [List.length_map, hel]
          refine .sl _ 0 len cap a _ h2 hle hmx (fun h0 => ?_) (by simp)
          simpa using hspot h0
        have hmlen : (elems.map (·.1)).length ≤ maxLen := by
          rw [List.length_map, hel]
          omega
        rcases Nat.eq_zero_or_pos len with h0 | h0
        · obtain ⟨r2, g2⟩ := r1.skip ⟨a.block, a.off, cap * (T.at_ e).size, (T.at_ e).size⟩
          have hee : elems.map (·.1) = [] := List.eq_nil_of_length_eq_zero (by rw [List.length_map]; omega)
          refine ⟨_, _, [.sl (some (h1.next, 0)) (elems.map (·.1)).length], r2, g1.trans g2, VsRel.cons (hvr _ (Rho.add_self _ _ _)) (VsRel.nil _), by simp [Value.oneCell'], by simp [hsz], ?_⟩
          rw [ht]
          exact ⟨h1.next, css, rfl, hmlen, fun hne => absurd hee hne, d1.mono fun d c r => r.mono g2.obj⟩
        · have hpos : 0 < cap * (T.at_ e).size := Nat.mul_pos (by omega) (by omega)
          obtain ⟨u0, hu0⟩ := hcell (cap * (T.at_ e).size - 1) (by omega)
          obtain ⟨cl, et, fr, hb, hlast⟩ := cell_block hu0
          have hlt := (Array.getElem?_eq_some_iff.1 hlast).1
          have hobj : ∀ ρ2 : Rho, (∀ i l, ρ1 i = some l → ρ2 i = some l) → ObjRel ρ2 W ⟨a.block, a.off, cap * (T.at_ e).size, (T.at_ e).size⟩ (.row false (T.at_ e).size css.flatten) := by
            intro ρ2 hext
            refine ⟨rfl, ?_, cl, et, fr, hb, by simp only; omega, (fun e => by cases e), fun j c hj => ?_⟩
            · simp only
              rw [v1.1, l1, il]
              exact Nat.mul_le_mul_right _ hle
            · obtain ⟨u, hu1, hu2⟩ := v1.get hj
              refine ⟨u, ?_, o1 u (List.mem_of_getElem? hu1), hu2.mono hext⟩
              have := hcellat (items.map (·.1)) 0 (fun i xs hx => by
                rw [List.getElem?_map] at hx
                obtain ⟨it, hit1, rfl⟩ := Option.map_eq_some_iff.1 hx
                rw [Nat.zero_add]
                exact icell i it hit1) j u hu1
              rw [Nat.zero_mul, Nat.zero_add] at this
              obtain ⟨c2, e2, f2, hb2, hc2⟩ := cell_block this
              rw [hb] at hb2
              injection hb2 with hb2
              injection hb2 with hb2
              subst hb2
              exact hc2
          obtain ⟨r2, g2⟩ := r1.row ⟨a.block, a.off, cap * (T.at_ e).size, (T.at_ e).size⟩ (ob := .row false (T.at_ e).size css.flatten) rfl (hobj _ (Rho.add_ext r1.d _))
          refine ⟨_, _, [.sl (some (h1.next, 0)) (elems.map (·.1)).length], r2, g1.trans g2, VsRel.cons (hvr _ (Rho.add_self _ _ _)) (VsRel.nil _), by simp [Value.oneCell'], by simp [hsz], ?_⟩
          rw [ht]
          exact ⟨h1.next, css, rfl, hmlen, fun _ => H.obj_push_new _ _, d1.mono fun d c r => r.mono g2.obj⟩
    · rename_i fs ht
      simp only [Bool.and_eq_true] at hs
      obtain ⟨ho, hall⟩ := hs
      split at ho
      · rename_i o hoff
        have ho := Nat.eq_of_beq_eq_true ho
        obtain ⟨fl, hu, hm⟩ := hT.of_st ht
        obtain ⟨xs, F', rfl, hx, hcl, hxl, hf⟩ := DataW.trod_struct hu hd
        injection hx with hx _
        subst hx
        have hcl' : cs.length = o := by rw [hcl, size_of t hh, ho]
        obtain ⟨ρ1, h1, css, r1, g1, v1, o1, d1⟩ := read_fields (read_one hT n F') fs 0 cs xs o hoff hall hcl' (Nat.zero_le _) ⟨by rw [hxl, ← hm, List.length_map, Array.length_toList], fun j f hj => by
          rw [← hm, List.getElem?_map] at hj
          obtain ⟨g, hg, rfl⟩ := Option.map_eq_some_iff.1 hj
          have hjl : j < xs.length := by
            have := (List.getElem?_eq_some_iff.1 hg).1
            rw [hxl]
            simpa using this
          refine ⟨xs[j], List.getElem?_eq_getElem hjl, ?_⟩
          have hsup : sup T n g.type = true := by
            rw [List.all_eq_true] at hall
            exact hall (g.type, g.offset) (by rw [← hm]; exact List.mem_map.2 ⟨g, List.mem_of_getElem? hg, rfl⟩)
          have := hf j g (by rw [Array.getElem?_toList] at hg; exact hg)
          rw [size_of _ (hasT _ _ hsup), List.getElem?_eq_getElem hjl] at this
          exact this⟩ ρ h r
        refine ⟨ρ1, h1, css.flatten, r1, g1, by simpa using v1, by simpa using o1, by rw [hcl', ho], ?_⟩
        rw [ht]
        exact ⟨css, rfl, d1⟩
      · cases ho
    · rename_i m e ht
      simp only [Bool.and_eq_true] at hs
      obtain ⟨hsz, hse⟩ := hs
      have hsz := Nat.eq_of_beq_eq_true hsz
      have hce := size_of e (hasT _ _ hse)
      obtain ⟨xs, F', rfl, hx, hcl, hxl, hf⟩ := DataW.trod_array (hT.of_arr ht) hd
      injection hx with hx _
      subst hx
      rw [hce] at hf
      have hcl' : cs.length = m * (T.at_ e).size := by rw [hcl, size_of t hh, hsz]
      have hflat : ∀ (k : Nat) (L : List Value), L.length = k * (T.at_ e).size → ((List.range k).map fun i => (L.drop (i * (T.at_ e).size)).take (T.at_ e).size).flatten = L := by
        intro k
        induction k with
        | zero => intro L hL; simp at hL; subst hL; rfl
        | succ k ihk =>
          intro L hL
          rw [List.range_succ_eq_map, List.map_cons, List.flatten_cons, List.map_map]
          have h2 := ihk (L.drop (T.at_ e).size) (by rw [List.length_drop, hL, Nat.succ_mul]; omega)
          have h3 : ((List.range k).map ((fun i => (L.drop (i * (T.at_ e).size)).take (T.at_ e).size) ∘ Nat.succ)) = (List.range k).map fun i => ((L.drop (T.at_ e).size).drop (i * (T.at_ e).size)).take (T.at_ e).size := by
            apply List.map_congr_left
            intro i _
            simp only [Function.comp, List.drop_drop]
            congr 2
            rw [Nat.succ_mul]
            omega
          rw [h3, h2, Nat.zero_mul, List.drop_zero, List.take_append_drop]
      obtain ⟨ρ1, h1, css, r1, g1, v1, o1, l1, d1⟩ := read_seq (read_one hT n F') hse ((List.range m).map fun i => ((cs.drop (i * (T.at_ e).size)).take (T.at_ e).size, (xs[i]?).getD (.nil, []))) (by
        intro it hit
        simp only [List.mem_map, List.mem_range] at hit
        obtain ⟨i, hi, rfl⟩ := hit
        have := hf i hi
        rw [List.getElem?_eq_getElem (by omega)] at this
        simp [this, List.getElem?_eq_getElem (show i < xs.length by omega)]) ρ h r
      have e1 : (((List.range m).map fun i => ((cs.drop (i * (T.at_ e).size)).take (T.at_ e).size, (xs[i]?).getD (.nil, []))).map (·.1)).flatten = cs := by
        rw [List.map_map]
        exact hflat m cs hcl'
      have e2 : ((List.range m).map fun i => ((cs.drop (i * (T.at_ e).size)).take (T.at_ e).size, (xs[i]?).getD ((.nil : DataW D), []))).map (·.2.1) = xs.map (·.1) := by
        apply List.ext_getElem?
        intro i
        simp only [List.map_map, List.getElem?_map]
        rcases Nat.lt_or_ge i m with hi | hi
        · rw [List.getElem?_range hi, List.getElem?_eq_getElem (show i < xs.length by omega)]
          simp [List.getElem?_eq_getElem (show i < xs.length by omega)]
        · rw [List.getElem?_eq_none (by simp; omega), List.getElem?_eq_none (by omega)]
          rfl
      rw [e1] at v1 o1
      rw [e2] at d1
      refine ⟨ρ1, h1, css.flatten, r1, g1, v1, o1, by rw [hcl', hsz], ?_⟩
      rw [ht]
      exact ⟨css, rfl, by rw [List.length_map, hxl], d1⟩
    · cases hs
end
end Go.Ab
/-! From a call on the abstract memory to what a law's row asks. -/
namespace Go.Ab
open Go Go.ChangeShapes Go.RowKit

/-- An argument of type t, its cells given. -/
def argV (T : TT) (t : Nat) (c : List V) : V :=
  match aggK T t with
  | .agg => .agg c
  | _ => c.headD .undef
/-- The arguments, told by data. -/
def ArgsRD {D : Type} (T : TT) (h : H) (n : Nat) : List Nat → List (DataW D) → List V → Prop
  | [], [], [] => True
  | t :: ts, d :: ds, v :: vs => (∃ c, v = argV T t c ∧ RD T h n t d c) ∧ ArgsRD T h n ts ds vs
  | _, _, _ => False
theorem ArgsRD.mono {D : Type} {T : TT} {h h' : H} (hh : ∀ i ob, h.obj i = some ob → h'.obj i = some ob) {n : Nat} : ∀ {ts : List Nat} {ds : List (DataW D)} {vs : List V}, ArgsRD T h n ts ds vs → ArgsRD T h' n ts ds vs
  | [], [], [], _ => trivial
  | t :: ts, d :: ds, v :: vs, ⟨⟨c, h1, h2⟩, h3⟩ => ⟨⟨c, h1, h2.mono hh⟩, ArgsRD.mono hh h3⟩
  | [], [], _ :: _, h => h.elim
  | [], _ :: _, _, h => h.elim
  | _ :: _, [], _, h => h.elim
  | _ :: _, _ :: _, [], h => h.elim
section
variable {P : Program} {T : TT} {D : Type} {enc : TypeId × Value → D} {W : World}
theorem arg_value (hT : TOk P T) {n t : Nat} {v : Value} {c : List V} {ρ : Rho} (hs : sup T (n + 1) t = true) (hok : Value.okWide P W .any 0 t v ∨ ∃ base, Value.okWide P W .any base t v) (hv : VsRel ρ c v.cells.toList) (h1 : ∀ u ∈ v.cells.toList, u.oneCell' = true) (hl : v.cells.toList.length = (T.at_ t).size) : VRel ρ (argV T t c) v := by
  obtain ⟨base, hok⟩ : ∃ base, Value.okWide P W .any base t v := by
    rcases hok with h | h
    · exact ⟨0, h⟩
    · exact h
  have one : ∀ (hu : ∀ cs, v ≠ .agg cs) (hk : aggK T t = .one), VRel ρ (argV T t c) v := by
    intro hu hk
    have : v.cells = #[v] := by
      cases v <;> first
        | rfl
        | exact absurd rfl (hu _)
    rw [this] at hv
    cases c with
    | nil => simp [VsRel] at hv
    | cons x c =>
      obtain ⟨u, us, e, h2, _⟩ := hv.uncons
      simp at e
      obtain ⟨rfl, rfl⟩ := e
      simpa [argV, hk] using h2
  unfold sup at hs
  split at hs
  · rename_i ht
    have hu := hT.of_bool ht
    refine one (fun cs e => ?_) (by simp [aggK, ht])
    subst e
    simp [Value.okWide, hu, Cell.okWide, Cell.ok] at hok
  · rename_i k ht
    have hu := hT.of_int ht
    refine one (fun cs e => ?_) (by simp [aggK, ht])
    subst e
    simp [Value.okWide, hu, Cell.okWide, Cell.ok] at hok
  · rename_i ht
    have hu := hT.of_str ht
    refine one (fun cs e => ?_) (by simp [aggK, ht])
    subst e
    simp [Value.okWide, hu, Cell.okWide, Cell.ok] at hok
  · rename_i e ht
    have hu := hT.of_sl ht
    refine one (fun cs e => ?_) (by simp [aggK, ht])
    subst e
    simp [Value.okWide, hu, Cell.okWide, Cell.ok] at hok
  · rename_i fs ht
    obtain ⟨fl, hu, _⟩ := hT.of_st ht
    simp only [Value.okWide, hu] at hok
    obtain ⟨cs, rfl, _⟩ := hok
    have : VRel ρ (.agg c) (.agg cs.toList.toArray) := .agg c cs.toList h1 hv.1 hv.2
    simpa [argV, aggK, ht] using this
  · rename_i m e ht
    have hu := hT.of_arr ht
    simp only [Value.okWide, hu] at hok
    obtain ⟨cs, rfl, _⟩ := hok
    have : VRel ρ (.agg c) (.agg cs.toList.toArray) := .agg c cs.toList h1 hv.1 hv.2
    simpa [argV, aggK, ht] using this
  · cases hs
theorem read_args (hT : TOk P T) {n : Nat} : ∀ (ts : List TypeId) (vs : List Value) (ds : List (DataW D)) (ps : List MemPlace), (∀ t ∈ ts, sup T (n + 1) t = true) → (∀ (j : Nat) t v, ts[j]? = some t → vs[j]? = some v → ∃ base, Value.okWide P W .any base t v) → DataW.TrodAll enc P W 0 (fun _ => true) true ts vs ds ps → ∀ ρ h, Reads ρ h W →
    ∃ ρ' h' as, Reads ρ' h' W ∧ GrowR ρ h ρ' h' ∧ VsRel ρ' as vs ∧ ArgsRD T h' (n + 1) ts ds as
  | [], [], [], ps, _, _, _, ρ, h, r => ⟨ρ, h, [], r, GrowR.refl _ _, VsRel.nil _, trivial⟩
  | t :: ts, v :: vs, d :: ds, ps, hs, hok, hr, ρ, h, r => by
    obtain ⟨p, q, ⟨F, h1⟩, h2, _⟩ := hr
    obtain ⟨ρ1, h1', c, r1, g1, v1, o1, l1, d1⟩ := read_one (enc := enc) hT (n + 1) F t _ d p (hs t (by simp)) h1 ρ h r
    obtain ⟨ρ2, h2', as, r2, g2, v2, d2⟩ := read_args hT ts vs ds q (fun t ht => hs t (by simp [ht])) (fun j t v ht hv => hok (j + 1) t v (by simpa using ht) (by simpa using hv)) h2 ρ1 h1' r1
    have hv := arg_value hT (W := W) (hs t (by simp)) (.inr (hok 0 t v rfl rfl)) v1 o1 l1
    exact ⟨ρ2, h2', argV T t c :: as, r2, g1.trans g2, VsRel.cons (hv.mono g2.ext) v2, ⟨⟨c, rfl, d1.mono g2.obj⟩, d2⟩⟩
  | [], [], _ :: _, _, _, _, h, _, _, _ => h.elim
  | [], _ :: _, _, _, _, _, h, _, _, _ => by cases ‹List (DataW D)› <;> exact h.elim
  | _ :: _, [], _, _, _, _, h, _, _, _ => by cases ‹List (DataW D)› <;> exact h.elim
  | _ :: _, _ :: _, [], _, _, _, h, _, _, _ => h.elim
def H.empty : H := ⟨0, fun _ => none, fun i ob h => by cases h⟩
theorem reads_empty (W : World) : Reads (fun _ => none) H.empty W := ⟨⟨fun i ob h => (by cases h), fun i j oi oj li lj h => (by cases h)⟩, fun _ _ => rfl, fun i ob h => by cases h⟩
theorem trodAll_below (hl : laidOutB P = true) {W' : World} (hb : Below W.heap.size W W') : ∀ (ts : List TypeId) (vs : List Value) (ds : List (DataW D)) (ps : List MemPlace), (∀ t ∈ ts, P.readableRec t = true ∧ t < P.types.size) → (∀ x ∈ ps, x.block < W.heap.size) →
    DataW.TrodAll enc P W 0 (fun _ => true) true ts vs ds ps → DataW.TrodAll enc P W' 0 (fun b => decide (b < W.heap.size)) true ts vs ds ps
  | [], [], [], ps, _, _, h => h
  | t :: ts, v :: vs, d :: ds, ps, ht, hp, ⟨p, q, h1, h2, e⟩ => by
    subst e
    exact ⟨p, q, Below.trod hl (ht t (by simp)).1 (ht t (by simp)).2 h1 hb (fun x hx => hp x (by simp [hx])), trodAll_below hl hb ts vs ds q (fun t h => ht t (by simp [h])) (fun x hx => hp x (by simp [hx])) h2, rfl⟩
  | [], [], _ :: _, _, _, _, h => h.elim
  | [], _ :: _, _, _, _, _, h => by cases ‹List (DataW D)› <;> exact h.elim
  | _ :: _, [], _, _, _, _, h => by cases ‹List (DataW D)› <;> exact h.elim
  | _ :: _, _ :: _, [], _, _, _, h => h.elim
/-- A law's contract out of a call on the abstract memory. -/
theorem law_contract (hT : TOk P T) {f tb : Nat} {fn : Func} {s : ChangeSpec} {fresh handsOn : Bool} (hl : laidOutB P = true) (hvars : s.vars = []) (hrt : fn.resultTypes = #[tb]) (htb : (T.at_ tb).d = .bool) (hsup : (fn.params.toList.all fun t => sup T 21 t) = true)
    (hrec : (fn.params.toList.all fun t => P.readableRec t && decide (t < P.types.size)) = true)
    (hspec : ∀ ds : List (DataW D), ds.length = fn.params.size → s.fn D ds = { results := [.lit (.bool true)], args := ds })
    (hlaw : ∀ (h : H) (ds : List (DataW D)) (as : List V), (∀ i ob, h.obj i = some ob → ob.own = false) → ArgsRD T h 21 fn.params.toList ds as → ACalls P f as h fun r _ => r = .bool true)
    (args : Array Value) (ds gs : List (DataW D)) (before : List MemPlace) (hval : ∀ (j : Nat) t v, fn.params[j]? = some t → args[j]? = some v → ∃ base, Value.okWide P W .any base t v) (hW : DataW.Whole enc P fn.params.toList s.vars false W args.toList ds gs before) :
    Calls P f args W fun e W' => ∃ v, e = .returned v ∧ s.post enc P fn false fresh handsOn false W args v W' := by
  have hlt := hW.lt
  have hW' := hW
  obtain ⟨p, q, hA, hV, rfl, hfz, hnd⟩ := hW
  rw [hvars] at hV
  obtain ⟨rfl, rfl⟩ := trodVars_none hV
  rw [List.all_eq_true] at hsup hrec
  obtain ⟨ρ, h, as, r, _, va, ra⟩ := read_args hT (n := 20) fn.params.toList args.toList ds p hsup (fun j t v h1 h2 => hval j t v (by simpa using h1) (by simpa using h2)) hA _ _ (reads_empty W)
  have hc := (hlaw h ds as r.ro ra).2 ρ W args.toList r.r r.d va
  rw [Array.toArray_toList] at hc
  refine hc.mono fun e W' he => ?_
  obtain ⟨v, h', ρ', u, rfl, rfl, vu, rr, dd, ss⟩ := he
  have hu := vu.bool_inv
  subst hu
  have hb : Below W.heap.size W W' := ⟨ss.os, ss.tape, ss.output, ss.size, fun k hk => ss.frame k hk (fun i ob l h1 h2 _ _ => by
    rw [r.ro i ob h1] at h2
    cases h2)⟩
  have hdl : ∀ (ts : List TypeId) (vs : List Value) (ds : List (DataW D)) (ps : List MemPlace), DataW.TrodAll enc P W 0 (fun _ => true) true ts vs ds ps → ds.length = ts.length := by
    intro ts
    induction ts with
    | nil =>
      intro vs ds ps h
      cases vs <;> cases ds <;> first
        | rfl
        | exact h.elim
    | cons t ts ih =>
      intro vs ds ps h
      cases vs <;> cases ds <;> first
        | exact h.elim
        | (obtain ⟨p, q, _, h2, _⟩ := h; simp [ih _ _ _ h2])
  have hs := hspec ds (by simpa using hdl _ _ _ _ hA)
  refine ⟨.bool true, rfl, ds, [], p ++ [], [], p, [], hW', ?_, ?_, ?_, hb.frame _, fun h => by cases h⟩
  · rw [List.append_nil, hs, hrt]
    exact trodAll_cons_mk (shut_bool (hT.of_bool htb) true) trodAll_mk0
  · rw [List.append_nil, hs]
    exact trodAll_below hl hb _ _ _ _ (fun t ht => by
      have := hrec t ht
      simpa using this) (fun x hx => hlt x (by simpa using hx)) hA
  · rw [hvars, List.append_nil, hs]
    exact rfl
end
end Go.Ab
/-! Words for proofs over the abstract memory. -/
namespace Go.Ab
open Go

theorem br_mk {b : Bool} {X Y : Prop} (h1 : b = true → X) (h2 : b = false → Y) : br b X Y := br_iff.2 ⟨h1, h2⟩
theorem Cell.mk {h : H} {i off : Nat} {v : V} {o : Bool} {sz : Nat} {cs : List V} (hg : h.obj i = some (.row o sz cs)) (hv : cs[off]? = some v) : Cell h i off v := ⟨o, sz, cs, hg, hv⟩
theorem Cells.mk {h : H} {i off n : Nat} {vs : List V} {o : Bool} {sz : Nat} {cs : List V} (hg : h.obj i = some (.row o sz cs)) (hn : off + n ≤ cs.length) (hv : (cs.drop off).take n = vs) : Cells h i off n vs := ⟨o, sz, cs, hg, hn, hv⟩

theorem Forget.nil (env : Env) : Forget env [] := fun _ => .inl rfl
theorem Forget.cons {env e : Env} {t : Nat} {v : V} (h1 : get env t = v) (h2 : Forget env e) : Forget env ((t, v) :: e) := fun s => by
  simp only [get]
  cases h : Nat.beq t s with
  | true =>
    have := Nat.eq_of_beq_eq_true h
    subst this
    exact .inr h1.symm
  | false => exact h2 s
/-! ### Calls -/
theorem ACalls.mono {P : Program} {f : Nat} {args : List V} {h : H} {Q Q' : V → H → Prop} (hc : ACalls P f args h Q) (hq : ∀ r h', Q r h' → Q' r h') : ACalls P f args h Q' :=
  ⟨hc.1, fun ρ w vs r d v => (hc.2 ρ w vs r d v).mono fun e w' ⟨x, h', ρ', u, e1, q, rest⟩ => ⟨x, h', ρ', u, e1, hq _ _ q, rest⟩⟩
/-- Row i is written no more. -/
def H.ro (h : H) (i : Nat) : H where
  next := h.next
  obj := fun j => if j = i then (h.obj i).map (fun o => match o with
    | .row _ sz cs => .row false sz cs
    | .mapb es _ _ => .map true es
    | o => o) else h.obj j
  lt := fun j ob hh => by
    split at hh
    · rename_i e
      subst e
      cases hi : h.obj j with
      | none => simp [hi] at hh
      | some o => exact h.lt j o hi
    · exact h.lt j ob hh
theorem H.ro_obj (h : H) (i j : Nat) : (h.ro i).obj j = if j = i then (h.obj i).map (fun o => match o with
    | .row _ sz cs => .row false sz cs
    | .mapb es _ _ => .map true es
    | o => o) else h.obj j := rfl
theorem H.ro_same {h : H} {i : Nat} {o : Bool} {sz : Nat} {cs : List V} (hi : h.obj i = some (.row o sz cs)) : (h.ro i).obj i = some (.row false sz cs) := by simp [H.ro_obj, hi]
theorem H.ro_mapb {h : H} {i : Nat} {es : List (V × V)} {bs : List Nat} {cl : Nat} (hi : h.obj i = some (.mapb es bs cl)) : (h.ro i).obj i = some (.map true es) := by simp [H.ro_obj, hi]
theorem H.ro_ne (h : H) {i j : Nat} (hj : j ≠ i) : (h.ro i).obj j = h.obj j := by simp [H.ro_obj, hj]
theorem H.ro_old {h : H} {i j : Nat} {ob : Obj} (hh : (h.ro i).obj j = some ob) : ∃ ob0, h.obj j = some ob0 ∧ (ob.own = true → ob0.own = true) ∧ (∀ ρ w l, ObjRel ρ w l ob0 → ObjRel ρ w l ob) := by
  rw [H.ro_obj] at hh
  split at hh
  · rename_i e
    subst e
    cases hi : h.obj j with
    | none => simp [hi] at hh
    | some o =>
      rw [hi] at hh
      cases o with
      | row ow sz cs =>
        simp at hh
        subst hh
        exact ⟨_, rfl, (fun e => by cases e), fun ρ w l ⟨a, b, c, e, f, g1, g2, g3, g4⟩ => ⟨a, b, c, e, f, g1, g2, (fun e => by cases e), g4⟩⟩
      | map ow es =>
        simp at hh
        subst hh
        exact ⟨_, rfl, fun e => e, fun _ _ _ k => k⟩
      | mapb es bs cl =>
        simp at hh
        subst hh
        exact ⟨_, rfl, fun e => e, fun ρ w l ⟨a, b, c, d, e, f, g⟩ => ⟨a, cl, b, c, d, by rw [e]; exact f, g⟩⟩
      | itr a b c d =>
        simp at hh
        subst hh
        exact ⟨_, rfl, fun e => e, fun _ _ _ k => k⟩
  · exact ⟨ob, hh, fun e => e, fun _ _ _ k => k⟩
theorem Rel.ro {ρ : Rho} {h : H} {w : World} (r : Rel ρ h w) (i : Nat) : Rel ρ (h.ro i) w := by
  constructor
  · intro j ob hj
    obtain ⟨ob0, h1, _, h3⟩ := H.ro_old hj
    obtain ⟨l, e1, e2⟩ := r.obj j ob0 h1
    exact ⟨l, e1, h3 _ _ _ e2⟩
  · intro j k oj ok lj lk hj hk ho hjk e1 e2
    obtain ⟨oj0, h1, h2, _⟩ := H.ro_old hj
    obtain ⟨ok0, h3, _, _⟩ := H.ro_old hk
    exact r.sep j k oj0 ok0 lj lk h1 h3 (h2 ho) hjk e1 e2
theorem Since.ro {ρ ρ' : Rho} {h h' : H} {w w' : World} (s : Since ρ h w ρ' h' w') (i : Nat) : Since ρ h w ρ' (h'.ro i) w' :=
  ⟨s.ext, s.os, s.tape, s.output, s.size, s.next, s.frame, fun j ob l h1 h2 h3 => by
    obtain ⟨ob0, k1, k2, _⟩ := H.ro_old h1
    exact s.own j ob0 l k1 (k2 h2) h3⟩
theorem ACalls.ro {P : Program} {f : Nat} {args : List V} {h : H} {Q Q' : V → H → Prop} (hc : ACalls P f args h Q) (hq : ∀ r h', Q r h' → ∃ i, Q' r (h'.ro i)) : ACalls P f args h Q' :=
  ⟨hc.1, fun ρ w vs r d v => (hc.2 ρ w vs r d v).mono fun e w' ⟨x, h', ρ', u, e1, q, k1, k2, k3, k4⟩ => by
    obtain ⟨i, q'⟩ := hq _ _ q
    exact ⟨x, h'.ro i, ρ', u, e1, q', k1, k2.ro i, k3, k4.ro i⟩⟩

/-! ### What has turned -/
def none_ : Nat → Prop := fun _ => False
theorem Mod.trans {S S' : Nat → Prop} {a b c : H} (h : Mod S a b) (k : Mod S' b c) : Mod (fun i => S i ∨ S' i) a c :=
  ⟨Nat.le_trans h.next k.next, fun i hi hn => by
    have e1 : b.obj i = a.obj i := h.obj i hi (by
      rcases hn with hn | hn
      · exact .inl (fun s => hn (.inl s))
      · exact .inr hn)
    rw [← e1]
    refine k.obj i (Nat.lt_of_lt_of_le hi h.next) ?_
    rcases hn with hn | hn
    · exact .inl (fun s => hn (.inr s))
    · exact .inr (by rw [e1]; exact hn)⟩
/-- What is new may turn as it likes. -/
theorem Mod.trans' {S S' S2 : Nat → Prop} {a b c : H} (h : Mod S a b) (k : Mod S' b c) (h1 : ∀ i, i < a.next → S i → S2 i) (h2 : ∀ i, i < a.next → S' i → S2 i) : Mod S2 a c :=
  ⟨Nat.le_trans h.next k.next, fun i hi hn => (h.trans k).obj i hi (by
    rcases hn with hn | hn
    · exact .inl (fun s => hn (s.elim (h1 i hi) (h2 i hi)))
    · exact .inr hn)⟩
theorem Mod.mono {S S' : Nat → Prop} {a b : H} (h : Mod S a b) (hs : ∀ i, i < a.next → S i → S' i) : Mod S' a b :=
  ⟨h.next, fun i hi hn => h.obj i hi (by
    rcases hn with hn | hn
    · exact .inl (fun s => hn (hs i hi s))
    · exact .inr hn)⟩
theorem Mod.push (S : Nat → Prop) (h : H) (ob : Obj) : Mod S h (h.push ob) := ⟨Nat.le_succ _, fun i hi _ => H.obj_push_old ob (Nat.ne_of_lt hi)⟩
theorem Mod.set {S : Nat → Prop} {h : H} {i : Nat} {ob ob0 : Obj} (hs : S i) (hi : h.obj i = some ob0) (ho : ob0.own = true) : Mod S h (h.set i ob) :=
  ⟨Nat.le_refl _, fun j _ hn => H.obj_set_ne h ob (by
    rintro rfl
    rcases hn with hn | ⟨o, h1, h2⟩
    · exact hn hs
    · rw [hi] at h1
      injection h1 with h1
      subst h1
      rw [ho] at h2
      cases h2)⟩
theorem Mod.ro_new {S : Nat → Prop} {a b : H} (h : Mod S a b) {i : Nat} (hi : a.next ≤ i) : Mod S a (b.ro i) :=
  ⟨h.next, fun j hj hn => by rw [H.ro_ne _ (by omega)]; exact h.obj j hj hn⟩
theorem Mod.ro_in {S : Nat → Prop} {a b : H} (h : Mod S a b) {i : Nat} (hi : S i) (ho : ∀ ob, a.obj i = some ob → ob.own = true) : Mod S a (b.ro i) :=
  ⟨h.next, fun j hj hn => by
    by_cases e : j = i
    · subst e
      rcases hn with hn | ⟨ob, h1, h2⟩
      · exact absurd hi hn
      · rw [ho ob h1] at h2
        cases h2
    · rw [H.ro_ne _ e]
      exact h.obj j hj hn⟩
theorem Mod.get {S : Nat → Prop} {a b : H} (h : Mod S a b) {i : Nat} {ob : Obj} (hi : a.obj i = some ob) (hs : ¬ S i ∨ ob.own = false) : b.obj i = some ob := by
  rw [h.obj i (a.lt i ob hi) (by
    rcases hs with hs | hs
    · exact .inl hs
    · exact .inr ⟨ob, hi, hs⟩), hi]
theorem Mod.ro_get {S : Nat → Prop} {a b : H} (h : Mod S a b) {i sz : Nat} {cs : List V} (hi : a.obj i = some (.row false sz cs)) : b.obj i = some (.row false sz cs) := h.get hi (.inr rfl)

/-! ### Slices -/
theorem SlIs.nil (h : H) (own : Bool) (sz : Nat) : SlIs h none 0 own sz [] := ⟨by simp, .inl ⟨rfl, .inl rfl⟩⟩
theorem SlIs.row {h : H} {i n sz : Nat} {o : Bool} {cs : List V} (hi : h.obj i = some (.row o sz cs)) (hl : cs.length = n * sz) : SlIs h (some (i, 0)) n o sz cs :=
  ⟨hl, .inr ⟨i, 0, o, cs, rfl, hi, fun e => e, by omega, by rw [List.drop_zero, ← hl, List.take_length]⟩⟩
theorem SlIs.weak {h : H} {p : Option (Nat × Nat)} {n sz : Nat} {own : Bool} {cs : List V} (s : SlIs h p n own sz cs) : SlIs h p n false sz cs := by
  obtain ⟨h1, h2⟩ := s
  refine ⟨h1, ?_⟩
  rcases h2 with ⟨a, b⟩ | ⟨i, o, o', r, e1, e2, e3, e4⟩
  · exact .inl ⟨a, .inr rfl⟩
  · exact .inr ⟨i, o, o', r, e1, e2, (fun e => by cases e), e4⟩
theorem SlIs.length {h : H} {p : Option (Nat × Nat)} {n sz : Nat} {own : Bool} {cs : List V} (s : SlIs h p n own sz cs) : cs.length = n * sz := s.1
/-- carried on -/
theorem SlIs.get {S : Nat → Prop} {h h' : H} {p : Option (Nat × Nat)} {n sz : Nat} {own : Bool} {cs : List V} (s : SlIs h p n own sz cs) (m : Mod S h h') (hs : ∀ i o, p = some (i, o) → ¬ S i ∨ ∃ ob, h.obj i = some ob ∧ ob.own = false) : SlIs h' p n own sz cs := by
  obtain ⟨h1, h2⟩ := s
  refine ⟨h1, ?_⟩
  rcases h2 with h2 | ⟨i, o, o', r, e1, e2, e3⟩
  · exact .inl h2
  · exact .inr ⟨i, o, o', r, e1, by rw [m.obj i (h.lt i _ e2) (hs i o e1), e2], e3⟩
/-- a slice of what nobody writes -/
def RoSl (h : H) (p : Option (Nat × Nat)) (n sz : Nat) (cs : List V) : Prop :=
  cs.length = n * sz ∧ (n = 0 ∨ ∃ i o rest, p = some (i, o) ∧ h.obj i = some (.row false sz rest) ∧ o + n * sz ≤ rest.length ∧ (rest.drop o).take (n * sz) = cs)
theorem RoSl.is {h : H} {p : Option (Nat × Nat)} {n sz : Nat} {cs : List V} (s : RoSl h p n sz cs) : SlIs h p n false sz cs := by
  obtain ⟨h1, h2⟩ := s
  refine ⟨h1, ?_⟩
  rcases h2 with h2 | ⟨i, o, r, e1, e2, e3⟩
  · exact .inl ⟨h2, .inr rfl⟩
  · exact .inr ⟨i, o, false, r, e1, e2, (fun e => by cases e), e3⟩
theorem RoSl.get {S : Nat → Prop} {h h' : H} {p : Option (Nat × Nat)} {n sz : Nat} {cs : List V} (s : RoSl h p n sz cs) (m : Mod S h h') : RoSl h' p n sz cs := by
  obtain ⟨h1, h2⟩ := s
  refine ⟨h1, ?_⟩
  rcases h2 with h2 | ⟨i, o, r, e1, e2, e3⟩
  · exact .inl h2
  · exact .inr ⟨i, o, r, e1, m.ro_get e2, e3⟩
theorem RoSl.nil (h : H) (p : Option (Nat × Nat)) (sz : Nat) : RoSl h p 0 sz [] := ⟨by simp, .inl rfl⟩
theorem RoSl.row {h : H} {i n sz : Nat} {cs : List V} (hi : h.obj i = some (.row false sz cs)) (hl : cs.length = n * sz) : RoSl h (some (i, 0)) n sz cs :=
  ⟨hl, .inr ⟨i, 0, cs, rfl, hi, by omega, by rw [List.drop_zero, ← hl, List.take_length]⟩⟩
theorem RoSl.cut {h : H} {p : Option (Nat × Nat)} {n sz : Nat} {cs : List V} (s : RoSl h p n sz cs) {l m : Nat} (h1 : l ≤ m) (h2 : m ≤ n) : RoSl h (slp p (l * sz)) (m - l) sz ((cs.drop (l * sz)).take ((m - l) * sz)) := by
  obtain ⟨hl, hr⟩ := s
  have hmul : l * sz + (m - l) * sz ≤ n * sz := by
    rw [← Nat.add_mul]
    exact Nat.mul_le_mul_right _ (by omega)
  refine ⟨by rw [List.length_take, List.length_drop, hl]; omega, ?_⟩
  rcases hr with rfl | ⟨i, o, r, rfl, e2, e3, e4⟩
  · exact .inl (by omega)
  · refine .inr ⟨i, o + l * sz, r, rfl, e2, by omega, ?_⟩
    rw [← e4, List.drop_take, List.drop_drop, List.take_take]
    congr 1
    omega
theorem RoSl.cell {h : H} {i o n sz : Nat} {cs : List V} (s : RoSl h (some (i, o)) n sz cs) {j : Nat} {v : V} (hj : cs[j]? = some v) : Cell h i (o + j) v := by
  obtain ⟨hl, hr⟩ := s
  have hjl := (List.getElem?_eq_some_iff.1 hj).1
  rcases hr with rfl | ⟨i', o', r, e1, e2, e3, e4⟩
  · omega
  · injection e1 with e1
    injection e1 with e1 e1'
    subst e1 e1'
    refine ⟨false, sz, r, e2, ?_⟩
    rw [← e4, List.getElem?_take, if_pos (by omega), List.getElem?_drop] at hj
    exact hj
theorem RoSl.some {h : H} {p : Option (Nat × Nat)} {n sz : Nat} {cs : List V} (s : RoSl h p n sz cs) (hn : 0 < n) : ∃ i o, p = some (i, o) := by
  rcases s.2 with rfl | ⟨i, o, _, e, _⟩
  · omega
  · exact ⟨i, o, e⟩
theorem RoSl.ro {h : H} {p : Option (Nat × Nat)} {n sz : Nat} {cs : List V} (s : RoSl h p n sz cs) (i : Nat) : RoSl (h.ro i) p n sz cs := by
  obtain ⟨h1, h2⟩ := s
  refine ⟨h1, ?_⟩
  rcases h2 with h2 | ⟨j, o, r, e1, e2, e3⟩
  · exact .inl h2
  · refine .inr ⟨j, o, r, e1, ?_, e3⟩
    by_cases e : j = i
    · subst e
      exact H.ro_same e2
    · rw [H.ro_ne _ e, e2]
/-- a slice made since h0, one's own -/
def NewSl (h0 h : H) (p : Option (Nat × Nat)) (n sz : Nat) (cs : List V) : Prop := SlIs h p n true sz cs ∧ ∀ i o, p = some (i, o) → h0.next ≤ i
theorem NewSl.freeze {S : Nat → Prop} {h0 h : H} {p : Option (Nat × Nat)} {n sz : Nat} {cs : List V} (s : NewSl h0 h p n sz cs) (m : Mod S h0 h) : ∃ i, h0.next ≤ i ∧ RoSl (h.ro i) p n sz cs ∧ Mod S h0 (h.ro i) := by
  obtain ⟨⟨h1, h2⟩, h3⟩ := s
  rcases h2 with ⟨rfl, _⟩ | ⟨i, o, o', r, e1, e2, e3, e4, e5⟩
  · exact ⟨h.next, m.next, ⟨h1, .inl rfl⟩, m.ro_new m.next⟩
  · have hi := h3 i o e1
    exact ⟨i, hi, ⟨h1, .inr ⟨i, o, r, e1, H.ro_same e2, e4, e5⟩⟩, m.ro_new hi⟩
theorem NewSl.nil (h0 h : H) (sz : Nat) : NewSl h0 h none 0 sz [] := ⟨SlIs.nil _ _ _, fun _ _ e => by cases e⟩
theorem ints_length (k : IntKind) (xs : List Int) : (ints k xs).length = xs.length := by simp [ints]
theorem ints_get {k : IntKind} {xs : List Int} {j : Nat} (h : j < xs.length) : (ints k xs)[j]? = some (.int k (xs.getD j 0)) := by
  simp [ints, List.getElem?_eq_getElem h, List.getD_eq_getElem?_getD]
theorem ints_append (k : IntKind) (xs ys : List Int) : ints k (xs ++ ys) = ints k xs ++ ints k ys := by simp [ints]
theorem ints_drop (k : IntKind) (xs : List Int) (n : Nat) : (ints k xs).drop n = ints k (xs.drop n) := by simp [ints]
theorem ints_take (k : IntKind) (xs : List Int) (n : Nat) : (ints k xs).take n = ints k (xs.take n) := by simp [ints]
theorem wrap_i64 {x : Int} (h1 : -9223372036854775808 ≤ x) (h2 : x ≤ 9223372036854775807) : IntKind.i64.wrap x = x := by
  simp [IntKind.wrap, IntKind.bits, IntKind.signed]
  omega
end Go.Ab
/-! The same transformers by recursors: what is evaluated, and what the kernel sees, are then one and the same term. -/
namespace Go.Ab
open Go
noncomputable def wpN' (P : Program) (T : TT) (ops : Array Oper) (l : List Oper) : Env → H → (Env → H → Prop) → Prop :=
  List.rec (motive := fun _ => Env → H → (Env → H → Prop) → Prop) (fun env h K => K env h)
    (fun o _ ih env h K => guardW ops o env fun env go => match go with
      | true => opO P T o env h fun v h' => put env o.dst v fun env => ih env h' K
      | false => put env o.dst (.tup []) fun env => ih env h K) l
theorem wpN'_eq {P : Program} {T : TT} {ops : Array Oper} : ∀ (l : List Oper) (env : Env) (h : H) (K : Env → H → Prop), wpN' P T ops l env h K = wpN P T ops l env h K
  | [], _, _, _ => rfl
  | o :: r, env, h, K => by
    have ih : wpN' P T ops r = wpN P T ops r := by
      funext env h K
      exact wpN'_eq r env h K
    show (guardW ops o env fun env go => match go with
      | true => opO P T o env h fun v h' => put env o.dst v fun env => wpN' P T ops r env h' K
      | false => put env o.dst (.tup []) fun env => wpN' P T ops r env h K) = _
    rw [ih]
    rfl
noncomputable def wpD' (P : Program) (T : TT) (ops : Array Oper) (B : List Nat) (l : List Nat) : List Pend → Env → H → (Env → H → Prop) → Prop :=
  List.rec (motive := fun _ => List Pend → Env → H → (Env → H → Prop) → Prop) (fun _ env h K => K env h)
    (fun i _ ih pend env h K => match ops[i]? with
      | none => False
      | some o => guardW ops o env fun env go => match go with
        | false => put env o.dst (.tup []) fun env => ih pend env h K
        | true => match cls T o.op with
          | .p => pO T o (restr env (o.looksAt ops)) fun v => put env o.dst v fun env => ih pend env h K
          | .r => rO T o (restr env (o.looksAt ops)) h fun v => put env o.dst v fun env' => ih (⟨i, o, restr env (o.looksAt ops), v⟩ :: pend) env' h K
          | .a => aO T o (restr env (o.looksAt ops)) h fun v h' => put env o.dst v fun env => ih pend env h' K
          | .c => cO P T o (restr env (o.looksAt ops)) h fun v h' => put env o.dst v fun env => still T (B.getD i 0) h' pend (ih pend env h' K)) l
theorem wpD'_eq {P : Program} {T : TT} {ops : Array Oper} {B : List Nat} : ∀ (l : List Nat) (pend : List Pend) (env : Env) (h : H) (K : Env → H → Prop), wpD' P T ops B l pend env h K = wpD P T ops B l pend env h K
  | [], _, _, _, _ => rfl
  | i :: r, pend, env, h, K => by
    have ih : wpD' P T ops B r = wpD P T ops B r := by
      funext pend env h K
      exact wpD'_eq r pend env h K
    show (match ops[i]? with
      | none => False
      | some o => guardW ops o env fun env go => match go with
        | false => put env o.dst (.tup []) fun env => wpD' P T ops B r pend env h K
        | true => match cls T o.op with
          | .p => pO T o (restr env (o.looksAt ops)) fun v => put env o.dst v fun env => wpD' P T ops B r pend env h K
          | .r => rO T o (restr env (o.looksAt ops)) h fun v => put env o.dst v fun env' => wpD' P T ops B r (⟨i, o, restr env (o.looksAt ops), v⟩ :: pend) env' h K
          | .a => aO T o (restr env (o.looksAt ops)) h fun v h' => put env o.dst v fun env => wpD' P T ops B r pend env h' K
          | .c => cO P T o (restr env (o.looksAt ops)) h fun v h' => put env o.dst v fun env => still T (B.getD i 0) h' pend (wpD' P T ops B r pend env h' K)) = _
    rw [ih]
    rfl
noncomputable def wpReg' (P : Program) (T : TT) (f : Nat) : Array Oper → Env → H → (Env → H → Prop) → Prop :=
  Nat.rec (motive := fun _ => Array Oper → Env → H → (Env → H → Prop) → Prop) (fun _ _ _ _ => False)
    (fun _ ih ops env h K => ∃ L B, match L, B with
      | [], [a, b] => Nat.beq a b = false ∧ ih (addE ops a b) env h K ∧ ih (addE ops b a) env h K
      | L, B => dOk T ops L B = true ∧ wpD' P T ops B L [] env h K) f
theorem wpReg'_eq {P : Program} {T : TT} : ∀ (f : Nat), wpReg' P T f = wpReg P T f
  | 0 => rfl
  | f + 1 => by
    funext ops env h K
    have ih := wpReg'_eq (P := P) (T := T) f
    have hd : wpD' P T = wpD P T := by
      funext ops B l pend env h K
      exact wpD'_eq l pend env h K
    show (∃ L B, match L, B with
      | [], [a, b] => Nat.beq a b = false ∧ wpReg' P T f (addE ops a b) env h K ∧ wpReg' P T f (addE ops b a) env h K
      | L, B => dOk T ops L B = true ∧ wpD' P T ops B L [] env h K) = _
    rw [ih, hd]
    rfl
noncomputable def wpC' (P : Program) (T : TT) (c : Code) : (X → Env → H → Prop) → Env → H → Prop :=
  Code.rec (motive := fun _ => (X → Env → H → Prop) → Env → H → Prop)
    (fun Q env h => Q .norm env h)
    (fun _ ops draw Q env h => match draw with
      | false => wpN' P T ops ops.toList env h fun env h => Q .norm env h
      | true => wpReg' P T 6 ops env h fun env h => Q .norm env h)
    (fun _ _ ia ib Q env h => ia (thenX (ib Q) Q) env h)
    (fun c _ _ ix iy Q env h => match opv env c with
      | .bool g => br g (ix Q env h) (iy Q env h)
      | _ => False)
    (fun id _ ic Q env h => ic (inBlk id Q) env h)
    (fun _ ic Q env h => ∃ (I : Env → H → Prop) (μ : Env → H → Nat), (∃ env0, Forget env env0 ∧ I env0 h) ∧ ∀ env h, I env h → ic (thenX (fun env' h' => ∃ env'', Forget env' env'' ∧ I env'' h' ∧ μ env'' h' < μ env h) Q) env h)
    (fun _ _ _ _ _ _ Q env h => False)
    (fun id Q env h => Q (.exit id) env h)
    (fun _ _ Q env h => False)
    (fun _ Q env h => False)
    (fun _ Q env h => False)
    (fun Q env h => Q .ret env h)
    (fun _ Q env h => False) c
theorem wpC'_eq {P : Program} {T : TT} : ∀ c : Code, wpC' P T c = wpC P T c := by
  intro c
  induction c with
  | skip => rfl
  | region id ops draw =>
    funext Q env h
    cases draw with
    | false => exact wpN'_eq _ _ _ _
    | true =>
      show wpReg' P T 6 ops env h (fun env h => Q .norm env h) = _
      rw [wpReg'_eq]
      rfl
  | seq a b ia ib =>
    funext Q env h
    show wpC' P T a (thenX (wpC' P T b Q) Q) env h = _
    rw [ia, ib]
    rfl
  | cond c x y ix iy =>
    funext Q env h
    show (match opv env c with
      | .bool g => br g (wpC' P T x Q env h) (wpC' P T y Q env h)
      | _ => False) = _
    rw [ix, iy]
    rfl
  | block id c ic =>
    funext Q env h
    show wpC' P T c (inBlk id Q) env h = _
    rw [ic]
    rfl
  | loop c ic =>
    funext Q env h
    show (∃ (I : Env → H → Prop) (μ : Env → H → Nat), (∃ env0, Forget env env0 ∧ I env0 h) ∧ ∀ env h, I env h → wpC' P T c (thenX (fun env' h' => ∃ env'', Forget env' env'' ∧ I env'' h' ∧ μ env'' h' < μ env h) Q) env h) = _
    rw [ic]
    rfl
  | rangeFunc f ps a b ia ib => rfl
  | exit id => rfl
  | scope c ic => rfl
  | label l => rfl
  | goto l => rfl
  | ret => rfl
  | refuse w => rfl
theorem acalls_of' {P : Program} {T : TT} (hT : TOk P T) (hE : EqOk P T) (hm : P.follows .mixedOrders = true) {f : Nat} {fn : Func} {c : Code} {args : List V} {h : H} {Q : V → H → Prop} (hf : P.funcs[f]? = some fn) (hb : fn.body = some c) (hname : (fn.name == "runtime.NumGoroutine") = false)
    (hok : (codeOk fn.ntmps c && Nat.ble args.length fn.ntmps) = true) (hw : wpC' P T c (bodyX T fn.results.toList Q) (argsE 0 args) h) : ACalls P f args h Q := by
  rw [wpC'_eq] at hw
  exact acalls_of hT hE hm hf hb hname hok hw
end Go.Ab
/-! What data tell of slices. -/
namespace Go.Ab
open Go
theorem args_cons {D : Type} {T : TT} {h : H} {n t : Nat} {ts : List Nat} {ds : List (DataW D)} {vs : List V} (r : ArgsRD T h n (t :: ts) ds vs) : ∃ (d : DataW D) (c : List V) (ds' : List (DataW D)) (vs' : List V), vs = argV T t c :: vs' ∧ RD T h n t d c ∧ ArgsRD T h n ts ds' vs' := by
  cases ds with
  | nil => cases vs <;> exact r.elim
  | cons d ds =>
    cases vs with
    | nil => exact r.elim
    | cons v vs =>
      obtain ⟨⟨c, rfl, h1⟩, h2⟩ := r
      exact ⟨d, c, ds, vs, rfl, h1, h2⟩
theorem args_nil {D : Type} {T : TT} {h : H} {n : Nat} {ds : List (DataW D)} {vs : List V} (r : ArgsRD T h n [] ds vs) : vs = [] := by
  cases ds <;> cases vs <;> first
    | rfl
    | exact r.elim
theorem rd_ints {D : Type} {T : TT} {h : H} {n e : Nat} {k : IntKind} (he : (T.at_ e).d = .int k) : ∀ {ds : List (DataW D)} {css : List (List V)}, RDs (RD T h (n + 1) e) ds css → ∃ xs : List Int, css.flatten = ints k xs ∧ xs.length = ds.length ∧ ∀ x ∈ xs, k.min ≤ x ∧ x ≤ k.max
  | [], [], _ => ⟨[], rfl, rfl, fun x hx => by cases hx⟩
  | d :: ds, c :: cs, r => by
    obtain ⟨r1, r2⟩ := r
    obtain ⟨xs, h1, h2, h3⟩ := rd_ints he r2
    simp only [RD, he] at r1
    split at r1
    all_goals first
      | contradiction
      | exact r1.elim
      | skip
    rename_i k1 k2 x e1
    cases e1
    obtain ⟨rfl, rfl, b1, b2⟩ := r1
    refine ⟨x :: xs, by rw [List.flatten_cons, h1]; rfl, by simp [h2], fun y hy => ?_⟩
    rcases List.mem_cons.1 hy with rfl | hy
    · exact ⟨b1, b2⟩
    · exact h3 y hy
  | [], _ :: _, r => r.elim
  | _ :: _, [], r => r.elim
theorem rd_slice {D : Type} {T : TT} {h : H} {n t e : Nat} (ht : (T.at_ t).d = .sl e) {d : DataW D} {c : List V} (r : RD T h (n + 1) t d c) : ∃ (p : Option (Nat × Nat)) (ds : List (DataW D)) (css : List (List V)), c = [.sl p ds.length] ∧ ds.length ≤ maxLen ∧ (ds.length = 0 ∨ ∃ i, p = some (i, 0) ∧ h.obj i = some (.row false (T.at_ e).size css.flatten)) ∧ RDs (RD T h n e) ds css := by
  simp only [RD, ht] at r
  split at r
  all_goals first
    | contradiction
    | exact r.elim
    | skip
  · exact ⟨none, [], [], r, Nat.zero_le _, .inl rfl, trivial⟩
  · rename_i e' ds off e1
    cases e1
    obtain ⟨i, css, rfl, h1, h2, h3⟩ := r
    refine ⟨some (i, 0), ds, css, rfl, h1, ?_, h3⟩
    cases ds with
    | nil => exact .inl rfl
    | cons d ds => exact .inr ⟨i, rfl, h2 (by simp)⟩
/-- a slice of integers -/
theorem rd_slice_ints {D : Type} {T : TT} {h : H} {n t e : Nat} {k : IntKind} (ht : (T.at_ t).d = .sl e) (he : (T.at_ e).d = .int k) (hs : (T.at_ e).size = 1) {d : DataW D} {c : List V} (r : RD T h (n + 2) t d c) :
    ∃ (p : Option (Nat × Nat)) (m : Nat) (xs : List Int), c = [.sl p m] ∧ m ≤ maxLen ∧ RoSl h p m 1 (ints k xs) ∧ ∀ x ∈ xs, k.min ≤ x ∧ x ≤ k.max := by
  obtain ⟨p, ds, css, rfl, h1, h2, h3⟩ := rd_slice ht r
  obtain ⟨xs, e1, e2, e3⟩ := rd_ints he h3
  rw [hs, e1] at h2
  refine ⟨p, ds.length, xs, rfl, h1, ⟨by rw [ints_length, e2, Nat.mul_one], ?_⟩, e3⟩
  rcases h2 with h2 | ⟨i, rfl, h2⟩
  · exact .inl h2
  · exact .inr ⟨i, 0, _, rfl, h2, by rw [ints_length, e2]; omega, by rw [List.drop_zero, Nat.mul_one, ← e2, ← ints_length k, List.take_length]⟩
theorem rd_int {D : Type} {T : TT} {h : H} {n t : Nat} {k : IntKind} (ht : (T.at_ t).d = .int k) {d : DataW D} {c : List V} (r : RD T h (n + 1) t d c) : ∃ x : Int, c = [.int k x] ∧ k.min ≤ x ∧ x ≤ k.max := by
  simp only [RD, ht] at r
  split at r
  all_goals first
    | contradiction
    | exact r.elim
    | skip
  rename_i k1 k2 x e1
  cases e1
  obtain ⟨rfl, rfl, b1, b2⟩ := r
  exact ⟨x, rfl, b1, b2⟩
theorem rd_bool {D : Type} {T : TT} {h : H} {n t : Nat} (ht : (T.at_ t).d = .bool) {d : DataW D} {c : List V} (r : RD T h (n + 1) t d c) : ∃ b : Bool, c = [.bool b] := by
  simp only [RD, ht] at r
  split at r
  all_goals first
    | contradiction
    | exact r.elim
    | skip
  exact ⟨_, r⟩
theorem rd_st {D : Type} {T : TT} {h : H} {n t : Nat} {fs : List (Nat × Nat)} (ht : (T.at_ t).d = .st fs) {d : DataW D} {c : List V} (r : RD T h (n + 1) t d c) : ∃ (ds : List (DataW D)) (css : List (List V)), c = css.flatten ∧ RDf (fun t => RD T h n t) fs ds css := by
  simp only [RD, ht] at r
  split at r
  all_goals first
    | contradiction
    | exact r.elim
    | skip
  rename_i e1
  cases e1
  obtain ⟨css, h1, h2⟩ := r
  exact ⟨_, css, h1, h2⟩
theorem rdf_cons {D : Type} {R : Nat → DataW D → List V → Prop} {f : Nat × Nat} {fs : List (Nat × Nat)} {ds : List (DataW D)} {css : List (List V)} (r : RDf R (f :: fs) ds css) : ∃ (d : DataW D) (c : List V) (ds' : List (DataW D)) (css' : List (List V)), css = c :: css' ∧ R f.1 d c ∧ RDf R fs ds' css' := by
  cases ds with
  | nil => cases css <;> exact r.elim
  | cons d ds =>
    cases css with
    | nil => exact r.elim
    | cons c css => exact ⟨d, c, ds, css, rfl, r.1, r.2⟩
theorem rdf_nil {D : Type} {R : Nat → DataW D → List V → Prop} {ds : List (DataW D)} {css : List (List V)} (r : RDf R [] ds css) : css = [] := by
  cases ds <;> cases css <;> first
    | rfl
    | exact r.elim
/-- an array of integers -/
theorem rd_arr_ints {D : Type} {T : TT} {h : H} {n t m e : Nat} {k : IntKind} (ht : (T.at_ t).d = .arr m e) (he : (T.at_ e).d = .int k) {d : DataW D} {c : List V} (r : RD T h (n + 2) t d c) : ∃ xs : List Int, c = ints k xs ∧ xs.length = m ∧ ∀ x ∈ xs, k.min ≤ x ∧ x ≤ k.max := by
  simp only [RD, ht] at r
  split at r
  all_goals first
    | contradiction
    | exact r.elim
    | skip
  rename_i m' e' ds e1
  cases e1
  obtain ⟨css, rfl, h1, h2⟩ := r
  obtain ⟨xs, e1, e2, e3⟩ := rd_ints he h2
  exact ⟨xs, e1, by omega, e3⟩
/-- pairs of integers -/
def pairs (k : IntKind) (ps : List (Int × Int)) : List V := ps.flatMap fun p => [.int k p.1, .int k p.2]
theorem rd_pairs {D : Type} {T : TT} {h : H} {n t e : Nat} {k : IntKind} (ht : (T.at_ t).d = .arr 2 e) (he : (T.at_ e).d = .int k) : ∀ {ds : List (DataW D)} {css : List (List V)}, RDs (RD T h (n + 2) t) ds css → ∃ ps : List (Int × Int), css.flatten = pairs k ps ∧ ps.length = ds.length ∧ ∀ p ∈ ps, k.min ≤ p.1 ∧ p.1 ≤ k.max ∧ k.min ≤ p.2 ∧ p.2 ≤ k.max
  | [], [], _ => ⟨[], rfl, rfl, fun x hx => by cases hx⟩
  | d :: ds, c :: cs, r => by
    obtain ⟨r1, r2⟩ := r
    obtain ⟨ps, h1, h2, h3⟩ := rd_pairs ht he r2
    obtain ⟨xs, rfl, hl, hb⟩ := rd_arr_ints ht he r1
    obtain ⟨a, b, rfl⟩ : ∃ a b, xs = [a, b] := by
      match xs, hl with
      | [a, b], _ => exact ⟨a, b, rfl⟩
    refine ⟨(a, b) :: ps, by rw [List.flatten_cons, h1]; rfl, by simp [h2], fun y hy => ?_⟩
    rcases List.mem_cons.1 hy with rfl | hy
    · exact ⟨(hb a (by simp)).1, (hb a (by simp)).2, (hb b (by simp)).1, (hb b (by simp)).2⟩
    · exact h3 y hy
  | [], _ :: _, r => r.elim
  | _ :: _, [], r => r.elim
theorem pairs_length (k : IntKind) (ps : List (Int × Int)) : (pairs k ps).length = ps.length * 2 := by
  induction ps with
  | nil => rfl
  | cons p ps ih =>
    simp only [pairs, List.flatMap_cons, List.length_append, List.length_cons] at ih ⊢
    simp only [ih, List.length_nil]
    omega
theorem pairs_get0 (k : IntKind) (ps : List (Int × Int)) (j : Nat) (hj : j < ps.length) : (pairs k ps)[j * 2]? = some (.int k (ps.getD j (0, 0)).1) ∧ (pairs k ps)[j * 2 + 1]? = some (.int k (ps.getD j (0, 0)).2) := by
  induction ps generalizing j with
  | nil => simp at hj
  | cons p ps ih =>
    have e : pairs k (p :: ps) = .int k p.1 :: .int k p.2 :: pairs k ps := rfl
    rw [e]
    cases j with
    | zero => exact ⟨rfl, rfl⟩
    | succ j =>
      have := ih j (by simpa using hj)
      have h2 : (j + 1) * 2 = j * 2 + 1 + 1 := by omega
      rw [h2]
      simp only [List.getElem?_cons_succ]
      exact this
/-- a slice of pairs of integers -/
theorem rd_slice_pairs {D : Type} {T : TT} {h : H} {n t a e : Nat} {k : IntKind} (ht : (T.at_ t).d = .sl a) (ha : (T.at_ a).d = .arr 2 e) (he : (T.at_ e).d = .int k) (hs : (T.at_ a).size = 2) {d : DataW D} {c : List V} (r : RD T h (n + 3) t d c) :
    ∃ (p : Option (Nat × Nat)) (m : Nat) (ps : List (Int × Int)), c = [.sl p m] ∧ m ≤ maxLen ∧ RoSl h p m 2 (pairs k ps) := by
  obtain ⟨p, ds, css, rfl, h1, h2, h3⟩ := rd_slice ht r
  obtain ⟨ps, e1, e2, e3⟩ := rd_pairs ha he h3
  rw [hs, e1] at h2
  refine ⟨p, ds.length, ps, rfl, h1, ⟨by rw [pairs_length, e2], ?_⟩⟩
  rcases h2 with h2 | ⟨i, rfl, h2⟩
  · exact .inl h2
  · exact .inr ⟨i, 0, _, rfl, h2, by rw [pairs_length, e2]; omega, by rw [List.drop_zero, ← e2, ← pairs_length k, List.take_length]⟩
end Go.Ab
