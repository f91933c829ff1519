/- Every operation that makes or turns memory, and the regions whose order is the text's. -/
import Derived.Test.YtmififfaljihgaaGreatAb9
import Derived.Test.YtmififfaljihgaaGreatAb24
set_option linter.unusedVariables false
set_option linter.unusedSimpArgs false
namespace Go.Ab
open Go

section
variable {P : Program} {T : TT}
theorem args_rel {ρ : Rho} {N : Nat} {env : Env} {a : Act} (ha : ERel ρ N env a) : ∀ l : List Operand, VsRel ρ (l.map (opv env)) (l.map a.eval)
  | [] => VsRel.nil ρ
  | x :: l => VsRel.cons (opv_rel ha x) (args_rel ha l)
theorem cO_sound (hT : TOk P T) {o : Oper} {env : Env} {h : H} {K : V → H → Prop} (hr : cO P T o env h K) {ρ : Rho} {N : Nat} {a : Act} {w : World} (ha : ERel ρ N env a) (r : Rel ρ h w) (hd : Dom ρ h.next) (Q : Exit → Act → World → Prop) :
    o.wp P a w (COut ρ h w o a K) Q := by
  obtain ⟨dst, op, type, pos, after, guard⟩ := o
  cases op with
  | store t x y =>
    simp only [cO] at hr
    split at hr
    · rename_i i off hx
      rw [chk_iff, fv_iff, chk_iff] at hr
      obtain ⟨hh, hv, sz, cs, hi, hr⟩ := hr
      rw [chk_iff] at hr
      obtain ⟨hlen, hle, hK⟩ := hr
      have hlen' := Nat.eq_of_beq_eq_true hlen
      have rx := opv_rel ha x
      rw [hx] at rx
      obtain ⟨l, hl, e⟩ := rx.ptr_inv
      obtain ⟨c1, c2⟩ := (opv_rel ha y).cells hv
      obtain ⟨w', s1, s2, s3⟩ := stores (P := P) (off := off) hl (a.eval y).cells.toList (vcells (opv env y)) 0 cs h w r hi c1 c2 (by omega)
      have hcs : (a.eval y).cells.size = (T.at_ t).size := by rw [← Array.length_toList, ← c1.1, hlen']
      refine wp_skip_ (w' := w') ?_ ⟨.undef, _, ρ, Go.undef, rfl, hK, .undef _, s2, hd, s3⟩
      simp only [execOp, Instr.storeAt, e, Instr.sureAddr, storeVar, Sem.run_bind, Sem.run_pure, Result.andThen_ok, hT.size hh, hcs]
      simp only [ne_eq, not_true_eq_false, if_false, Sem.run_bind, Sem.run_pure, Result.andThen_ok, s1]
    · exact hr.elim
  | call c =>
    obtain ⟨callee, ⟨args⟩, ⟨argTypes⟩⟩ := c
    simp only [cO, cCall] at hr
    split at hr
    · rename_i s x t t'
      split at hr
      · rename_i e e' p n q m ht ht' hs hx
        rw [chk_iff, chk_iff] at hr
        obtain ⟨hh, hee, xs, ys, hsl, hxl, hb, hnm, hK⟩ := hr
        have := Nat.eq_of_beq_eq_true hee
        subst this
        have rs := opv_rel ha s
        have rx := opv_rel ha x
        rw [hs] at rs
        rw [hx] at rx
        obtain ⟨u, w', hrun, p', h', ρ', a1, a2, a3, a4, a5, a6, a7⟩ := append_sound hT ht ht' hh (ty := type) r hd hsl hxl rs rx hb hnm
        refine wp_value (u := u) (w' := w') ?_ ⟨_, h', ρ', u, rfl, hK p' h' a1 a2 a3, a4, a5, a6, a7⟩
        simp [execOp, resolve, invoke, builtin, hrun]
      · exact hr.elim
    · rename_i x
      split at hr
      rotate_left
      · rename_i f caps hx
        have rx := opv_rel ha x
        rw [hx] at rx
        obtain ⟨⟨fn, f1, f2, f3⟩, hc⟩ := hr
        unfold Oper.wp
        have e0 : ∃ us : List Value, a.eval x = .func (.func f) #[] us.toArray ∧ VsRel ρ caps us := by
          generalize a.eval x = u at rx
          cases rx with
          | clo _ _ us hl hcs => exact ⟨us, rfl, hl, hcs⟩
        obtain ⟨us, e0, hus⟩ := e0
        have hcall := hc ρ w _ r hd ((args_rel ha args).append hus)
        have hrun : (execOp a.eval ⟨dst, .call ⟨.value x, ⟨args⟩, ⟨argTypes⟩⟩, type, pos, after, guard⟩).run P w = .ok (.enter f (args.map a.eval ++ us).toArray) w := by
          have e1 : (#[] ++ (⟨args⟩ : Array Operand).map a.eval ++ us.toArray : Array Value) = (args.map a.eval ++ us).toArray := by
            apply Array.ext'
            simp
          simp only [execOp, resolve, e0, Deferred.ofValue, Sem.run_bind, Sem.run_pure, Result.andThen_ok, invoke, callFunc, run_program, f1, f3, f2, Bool.false_eq_true, if_false]
          rw [e1]
        rw [hrun, Oper.upon_enter]
        refine hcall.mono fun e w' he => ?_
        obtain ⟨v, h', ρ', u, rfl, k1, k2, k3, k4, k5⟩ := he
        exact ⟨v, h', ρ', u, rfl, k1, k2, k3, k4, k5⟩
      · exact hr.elim
      rename_i f hx
      have rx := opv_rel ha x
      rw [hx] at rx
      obtain ⟨⟨fn, f1, f2, f3⟩, hc⟩ := hr
      have hcall := hc ρ w _ r hd (args_rel ha args)
      unfold Oper.wp
      have hrun : (execOp a.eval ⟨dst, .call ⟨.value x, ⟨args⟩, ⟨argTypes⟩⟩, type, pos, after, guard⟩).run P w = .ok (.enter f (args.map a.eval).toArray) w := by
        have e0 : a.eval x = .func (.func f) #[] #[] := by
          generalize a.eval x = u at rx
          cases rx
          rfl
        have e1 : (#[] ++ (⟨args⟩ : Array Operand).map a.eval ++ #[] : Array Value) = (args.map a.eval).toArray := by
          apply Array.ext'
          simp
        simp only [execOp, resolve, e0, Deferred.ofValue, Sem.run_bind, Sem.run_pure, Result.andThen_ok, invoke, callFunc, run_program, f1, f3, f2, Bool.false_eq_true, if_false]
        rw [e1]
      rw [hrun, Oper.upon_enter]
      refine hcall.mono fun e w' he => ?_
      obtain ⟨v, h', ρ', u, rfl, k1, k2, k3, k4, k5⟩ := he
      exact ⟨v, h', ρ', u, rfl, k1, k2, k3, k4, k5⟩
    · rename_i x kx t t'
      split at hr
      · rename_i kt et i k n ht hx hkx
        split at hr
        · rename_i k' hk
          rw [chk_iff] at hr
          obtain ⟨hkk, hor⟩ := hr
          have := kEq_eq hkk
          subst this
          have rx := opv_rel ha x
          rw [hx] at rx
          have ri := opv_rel ha kx
          rw [hkx] at ri
          rcases rx.mp_inv with ⟨e, _⟩ | ⟨i2, l, e, e2, e3⟩
          · cases e
          injection e with e
          subst e
          rcases hor with ⟨ms, hi, hK⟩ | ⟨ms, bs, cl, hi, hK⟩
          · obtain ⟨w', s1, s2, s3⟩ := run_delete (P := P) (kt' := t') (ty := type) (hT.of_mp ht) (hT.of_int hk) r hi e3 n
            refine wp_value (u := .tuple #[]) (w' := w') ?_ ⟨_, _, ρ, _, rfl, hK, .tup [] [] rfl (fun j c u h => by simp at h), s2, hd, s3⟩
            simp [execOp, resolve, invoke, builtin, e2, ri.int_inv, s1]
          · obtain ⟨w', s1, s2, s3⟩ := run_delete_b (P := P) (kt' := t') (ty := type) (hT.of_mp ht) (hT.of_int hk) r hi e3 n
            refine wp_value (u := .tuple #[]) (w' := w') ?_ ⟨_, _, ρ, _, rfl, hK, .tup [] [] rfl (fun j c u h => by simp at h), s2, hd, s3⟩
            simp [execOp, resolve, invoke, builtin, e2, ri.int_inv, s1]
        · exact hr.elim
      · exact hr.elim
    · exact hr.elim
  | mapUpdate t x kx vx =>
    simp only [cO] at hr
    split at hr
    · rename_i kt et i k n ht hx hkx
      split at hr
      · rename_i k' hk
        rw [chk_iff, fv_iff] at hr
        obtain ⟨hkk, ms, hi, hK⟩ := hr
        have := kEq_eq hkk
        subst this
        have rx := opv_rel ha x
        rw [hx] at rx
        have ri := opv_rel ha kx
        rw [hkx] at ri
        rcases rx.mp_inv with ⟨e, _⟩ | ⟨i2, l, e, e2, e3⟩
        · cases e
        injection e with e
        subst e
        obtain ⟨w', s1, s2, s3⟩ := run_mapUpdate (P := P) (hT.of_mp ht) (hT.of_int hk) r hi e3 n (opv_rel ha vx)
        refine wp_skip_ (w' := w') ?_ ⟨.undef, _, ρ, Go.undef, rfl, hK, .undef _, s2, hd, s3⟩
        simp [execOp, e2, ri.int_inv, s1]
      · exact hr.elim
    · rename_i kt et i k a' k2 b' ht hx hkx
      split at hr
      · rename_i m e hk
        split at hr
        · rename_i k' hke
          simp only [chk_iff, fv_iff] at hr
          obtain ⟨q1, q2, q3, q4, q5, ms, hi, hn, hw, wn, hK⟩ := hr
          obtain rfl := kEq_eq q1
          obtain rfl := kEq_eq q2
          obtain rfl := Nat.eq_of_beq_eq_true q3
          have A := hT.arrKey hk hke (Nat.eq_of_beq_eq_true q4) (Nat.eq_of_beq_eq_true q5)
          have rx := opv_rel ha x
          rw [hx] at rx
          have ri := opv_rel ha kx
          rw [hkx] at ri
          have ri := pk_inv (n := (_, _)) ri
          rcases rx.mp_inv with ⟨e, _⟩ | ⟨i2, l, e, e2, e3⟩
          · cases e
          injection e with e
          subst e
          obtain ⟨w', s1, s2, s3⟩ := run_mapUpdate_p (P := P) (hT.of_mp ht) A (hT.of_int hke) (hT t (by simp [has, ht])).tys r hi e3 hn hw wn (opv_rel ha vx)
          refine wp_skip_ (w' := w') ?_ ⟨.undef, _, ρ, Go.undef, rfl, hK, .undef _, s2, hd, s3⟩
          simp [execOp, e2, ri, s1]
        · exact hr.elim
      · exact hr.elim
    · exact hr.elim
  | mapEntry t x kx =>
    simp only [cO] at hr
    split at hr
    · rename_i kt et i k n ht hx hkx
      split at hr
      · rename_i k' hk
        rw [chk_iff, chk_iff] at hr
        obtain ⟨hkk, hh, ms, hi, hK⟩ := hr
        have := kEq_eq hkk
        subst this
        obtain ⟨i', z, g1, g2, g3, g4, g5, g6, g7⟩ := (hT et hh).info
        have rx := opv_rel ha x
        rw [hx] at rx
        have ri := opv_rel ha kx
        rw [hkx] at ri
        rcases rx.mp_inv with ⟨e, _⟩ | ⟨i2, l, e, e2, e3⟩
        · cases e
        injection e with e
        subst e
        obtain ⟨ms', bs, cl, p, b, u, w', q1, q2, q3, q4, q5, q6, s1, s2, s3⟩ := run_mapEntry (P := P) (hT.of_mp ht) (hT.of_int hk) r hi e3 n (uz := z) (by simp [zeroValue, typeInfo, g1, g4])
        refine wp_value (u := .tuple #[u, .int .i64 (b : Int)]) (w' := w') ?_ ⟨_, _, ρ, _, rfl, hK ms' bs cl p b q1 q2 q3 q4 q5 q6, .tup [.undef, .int .i64 (b : Int)] [u, .int .i64 (b : Int)] rfl (VsRel.cons (.undef u) (VsRel.cons (.int _ _) (VsRel.nil ρ))).2, s2, hd, s3⟩
        simp [execOp, e2, ri.int_inv, s1]
      · exact hr.elim
    · exact hr.elim
  | entryStore t x sx vx =>
    simp only [cO] at hr
    split at hr
    · rename_i i k2 s hx hsx
      rw [fv_iff] at hr
      obtain ⟨k, ms, bs, cl, p, b, n, hi, hs, hp, hn, hK⟩ := hr
      have rx := opv_rel ha x
      rw [hx] at rx
      have ri := opv_rel ha sx
      rw [hsx, hs] at ri
      rcases rx.mp_inv with ⟨e, _⟩ | ⟨i2, l, e, e2, e3⟩
      · cases e
      injection e with e
      subst e
      obtain ⟨w', s1, s2, s3⟩ := run_entryStore (P := P) (t := t) (k2 := k2) r hi e3 hp hn (opv_rel ha vx)
      refine wp_skip_ (w' := w') ?_ ⟨.undef, _, ρ, Go.undef, rfl, hK, .undef _, s2, hd, s3⟩
      simp [execOp, e2, ri.int_inv, s1]
    · exact hr.elim
  | convert src t2 x =>
    simp only [cO] at hr
    split at hr
    · rename_i e e' i off n hs hs' hx
      split at hr
      · rename_i hk
        rw [chk_iff, chk_iff, chk_iff] at hr
        obtain ⟨hh, hsd, hn1, sz, cs, hi, hK⟩ := hr
        have hsd := Nat.eq_of_beq_eq_true hsd
        have hn1 := Nat.le_of_ble_eq_true hn1
        subst hsd
        have rx := opv_rel ha x
        rw [hx] at rx
        have rx0 := rx
        generalize hux : a.eval x = ux at rx
        cases rx with
        | sl i o n cap ad l hρ hn hm had hl =>
          have had := had (by omega)
          subst had
          obtain ⟨l', e1, g1, g2, cells, et, fr, g3, g4, g5, g6⟩ := r.obj i _ hi
          rw [hρ] at e1
          injection e1 with e1
          subst e1
          have hb := (Array.getElem?_eq_some_iff.1 g3).1
          obtain ⟨f1, f2⟩ := fr
          have hfr : frOk (f1, f2) cells.size := g5 rfl
          have hother : ∀ b, b ≠ l.b → (w.freeze ⟨l.b, cells.size, none⟩ 1).heap[b]? = w.heap[b]? := fun b hne => by
            simp [World.freeze, Array.getElem?_modify, hne.symm]
          have hself : ∃ fr', (w.freeze ⟨l.b, cells.size, none⟩ 1).heap[l.b]? = some (.cells cells et fr') ∧ frOk fr' cells.size := by
            refine ⟨_, by simp [World.freeze, Array.getElem?_modify, g3]; rfl, ?_⟩
            split
            · exact .inr (Nat.le_refl _)
            · rename_i hne
              rcases hfr with k | k
              · injection k with k1 k2
                subst k1 k2
                simp at hne
              · refine .inr ?_
                simp only at k ⊢
                omega
          obtain ⟨fr', s1, s2⟩ := hself
          have hset : h.set i (.row true sz cs) = h := H.set_self hi
          have r' : Rel ρ h (w.freeze ⟨l.b, cells.size, none⟩ 1) := by
            have := r.upd (ob' := .row true sz cs) hi rfl hρ hother ⟨g1, g2, cells, et, fr', s1, g4, fun _ => s2, g6⟩ rfl
            rw [hset] at this
            exact this
          have s' : Since ρ h w ρ h (w.freeze ⟨l.b, cells.size, none⟩ 1) := by
            have := Since.upd r (ob' := .row true sz cs) hi rfl hρ hother rfl rfl rfl rfl (by simp [World.freeze])
            rw [hset] at this
            exact this
          refine wp_value (u := a.eval x) (w' := w.freeze ⟨l.b, cells.size, none⟩ 1) ?_ ⟨_, h, ρ, a.eval x, rfl, hK, rx0, r', hd, s'⟩
          have hsh : w.shape? l.b = some (et, cells.size) := by simp [World.shape?, g3]
          simp only [execOp, hux]
          simp [convert, run_underlying (hT.of_sl hs), run_underlying (hT.of_int hk), markStringish, hsh]
      · exact hr.elim
    · exact hr.elim
  | range t x =>
    simp only [cO] at hr
    split at hr
    · rename_i kt et i ht hx
      split at hr
      · rename_i k hk
        obtain ⟨ms, hi, hK⟩ := hr
        have rx := opv_rel ha x
        rw [hx] at rx
        rcases rx.mp_inv with ⟨e, _⟩ | ⟨i2, l, e, e2, e3⟩
        · cases e
        injection e with e
        subst e
        obtain ⟨bs, cl, b1, b2, b3, s1, s2, s3⟩ := run_range_b (P := P) (hT.of_mp ht) r hd hi e3
        refine wp_value (u := .pointer (some ⟨w.heap.size, 0, none⟩)) (w' := w.alloc (.mapIter (some l.b) cl #[] cl)) ?_ ⟨_, _, _, _, rfl, hK bs cl b1 b2 b3, .ptr _ 0 ⟨w.heap.size, 0, 0, 0⟩ (Rho.add_self _ _ _), s2, hd.add _, s3⟩
        simp [execOp, e2, s1]
      · exact hr.elim
    · exact hr.elim
  | next x isS =>
    cases isS with
    | true => exact hr.elim
    | false =>
    simp only [cO] at hr
    split at hr
    · rename_i j hx
      obtain ⟨i, cl, seen, k, ms, bs, hj, hi, h1, h2⟩ := hr
      have rx := opv_rel ha x
      rw [hx] at rx
      obtain ⟨l, hl, e⟩ := rx.ptr_inv
      rcases run_next_b (P := P) r hj hi hl type with ⟨a1, a2⟩ | ⟨p, n, v, b, u, w', m1, m2, m3, m4, m5, m6, m7⟩
      · refine wp_value (u := .tuple #[.bool false]) (w' := w) ?_ ⟨_, _, ρ, _, rfl, h2 a1, .tup [.bool false] [.bool false] rfl (fun j c u h1 h2 => ?_), r, hd, Since.refl _ _ _⟩
        · simp only [execOp, e]
          rw [Nat.add_zero] at a2
          simp [a2]
        · cases j with
          | zero =>
            simp at h1 h2
            subst h1 h2
            exact .bool false
          | succ j => simp at h1
      · refine wp_value (u := .tuple #[.bool true, .int k n, u]) (w' := w') ?_ ⟨_, _, ρ, _, rfl, h1 p n v b m1 m2 m3, .tup [.bool true, .int k n, v] [.bool true, .int k n, u] rfl (fun j c u' h1 h2 => ?_), m6, hd, m7⟩
        · simp only [execOp, e]
          rw [Nat.add_zero] at m5
          simp [m5]
        · cases j with
          | zero =>
            simp at h1 h2
            subst h1 h2
            exact .bool true
          | succ j =>
            cases j with
            | zero =>
              simp at h1 h2
              subst h1 h2
              exact .int k n
            | succ j =>
              cases j with
              | zero =>
                simp at h1 h2
                subst h1 h2
                exact m4
              | succ j => simp at h1
    · exact hr.elim
  | entry x =>
    simp only [cO] at hr
    split at hr
    · rename_i j hx
      obtain ⟨i, cl, seen, k, ms, bs, p, n, v, b, hj, hi, hp, hm, hK⟩ := hr
      have rx := opv_rel ha x
      rw [hx] at rx
      obtain ⟨l, hl, e⟩ := rx.ptr_inv
      obtain ⟨u, m4, m5⟩ := run_entry_b (P := P) r hj hi hl hp hm
      refine wp_value (u := .tuple #[.int k n, u]) (w' := w) ?_ ⟨_, _, ρ, _, rfl, hK, .tup [.int k n, v] [.int k n, u] rfl (fun j c u' h1 h2 => ?_), r, hd, Since.refl _ _ _⟩
      · simp only [execOp, e]
        rw [Nat.add_zero] at m5
        simp [m5]
      · cases j with
        | zero =>
          simp at h1 h2
          subst h1 h2
          exact .int k n
        | succ j =>
          cases j with
          | zero =>
            simp at h1 h2
            subst h1 h2
            exact m4
          | succ j => simp at h1
    · exact hr.elim
  | _ => exact hr.elim

theorem opO_sound (hT : TOk P T) (hE : EqOk P T) {o : Oper} {env : Env} {h : H} {K : V → H → Prop} (hr : opO P T o env h K) {ρ : Rho} {N : Nat} {a : Act} {w : World} (ha : ERel ρ N env a) (r : Rel ρ h w) (hd : Dom ρ h.next) (Q : Exit → Act → World → Prop) :
    o.wp P a w (COut ρ h w o a K) Q := by
  unfold opO at hr
  split at hr
  · obtain ⟨v, hK, hs⟩ := pO_sound hT hE hr
    obtain ⟨u, h1, h2⟩ := hs ρ N a w ha
    exact wp_value h1 ⟨v, h, ρ, u, rfl, hK, h2, r, hd, Since.refl _ _ _⟩
  · obtain ⟨v, hK, hs⟩ := rO_sound hT hr
    obtain ⟨u, h1, h2⟩ := hs ρ N a w ha r
    exact wp_value h1 ⟨v, h, ρ, u, rfl, hK, h2, r, hd, Since.refl _ _ _⟩
  · obtain ⟨v, ob, hK, _, hs⟩ := aO_sound hT hr
    obtain ⟨u, w', l, h1, _, h2, h3, h4, h5⟩ := hs ρ N a w ha r hd
    exact wp_value h1 ⟨v, _, _, u, rfl, hK, h2, h3, h4, h5⟩
  · exact cO_sound hT hr ha r hd Q

/-- The guard, looked at. -/
theorem guardW_at {ops : Array Oper} {o : Oper} {env : Env} {K : Env → Bool → Prop} (hg : guardW ops o env K) {N : Nat} (hN : ∀ o ∈ ops, ∀ d, o.dst = some d → d < N) :
    ∃ env' go, K env' go ∧ (∀ t, get env' t = get env t) ∧ ∀ ρ (a : Act), a.tmps.size = N → (∀ t ∈ o.looksAt ops, VRel ρ (get env t) (a.tmps.getD t Go.undef)) → Region.wanted o (yielded ops a.tmps) = go := by
  unfold guardW at hg
  split at hg
  · rename_i e
    exact ⟨env, true, hg, fun _ => rfl, fun ρ a hz ha => by simp [Region.wanted, e]⟩
  · rename_i j want e
    split at hg
    · exact hg.elim
    · rename_i t ht
      have htN : t < N := by
        obtain ⟨o', h1, h2⟩ := Option.bind_eq_some_iff.1 ht
        exact hN o' (Array.mem_of_getElem? h1) t h2
      have htl : t ∈ o.looksAt ops := by
        unfold Oper.looksAt
        simp only [e, ht]
        simp
      have hy : ∀ (ρ : Rho) (a : Act), a.tmps.size = N → ∀ u, VRel ρ (get env t) u → u = a.tmps.getD t Go.undef → yielded ops a.tmps j = match u with
          | .bool b => some b
          | _ => none := by
        intro ρ a hz u hu e
        unfold yielded
        rw [ht]
        have hlt : t < a.tmps.size := by rw [hz]; exact htN
        simp only [Option.bind_some, Array.getElem?_eq_getElem hlt]
        have : a.tmps.getD t Go.undef = a.tmps[t] := by simp [hlt]
        rw [e, this]
        generalize a.tmps[t] = z
        cases z <;> rfl
      split at hg
      · rename_i g hgt
        rw [br_iff] at hg
        have hw : ∀ ρ (a : Act), a.tmps.size = N → (∀ t ∈ o.looksAt ops, VRel ρ (get env t) (a.tmps.getD t Go.undef)) → Region.wanted o (yielded ops a.tmps) = (g == want) := by
          intro ρ a hz ha
          have := ha t htl
          rw [hgt] at this
          have e2 := this.bool_inv
          have := hy ρ a hz _ (by rw [hgt]; exact .bool g) e2.symm
          simp only [Region.wanted, e]
          rw [this]
          cases g <;> cases want <;> rfl
        cases g with
        | true => exact ⟨_, want, hg.1 rfl, fun t' => by rw [get_cons]; split <;> simp_all, fun ρ a hz ha => by rw [hw ρ a hz ha]; cases want <;> rfl⟩
        | false => exact ⟨_, !want, hg.2 rfl, fun t' => by rw [get_cons]; split <;> simp_all, fun ρ a hz ha => by rw [hw ρ a hz ha]; cases want <;> rfl⟩
      · rename_i hgt
        refine ⟨env, false, hg, fun _ => rfl, fun ρ a hz ha => ?_⟩
        have := ha t htl
        rw [hgt] at this
        obtain ⟨us, e2, hus⟩ := this.tup_inv
        have := hy ρ a hz _ (ha t htl) rfl
        simp only [Region.wanted, e]
        rw [this, e2]
        rfl
      · exact hg.elim
theorem guardW_sound {ops : Array Oper} {o : Oper} {env : Env} {K : Env → Bool → Prop} (hg : guardW ops o env K) {N : Nat} (hN : ∀ o ∈ ops, ∀ d, o.dst = some d → d < N) :
    ∃ env' go, K env' go ∧ (∀ t, get env' t = get env t) ∧ ∀ ρ (a : Act), ERel ρ N env a → Region.wanted o (yielded ops a.tmps) = go := by
  obtain ⟨env', go, h1, h2, h3⟩ := guardW_at hg hN
  exact ⟨env', go, h1, h2, fun ρ a ha => h3 ρ a ha.size (fun t _ => ha.rel t)⟩
theorem ERel.same {ρ : Rho} {N : Nat} {env env' : Env} {a : Act} (h : ERel ρ N env a) (he : ∀ t, get env' t = get env t) : ERel ρ N env' a := ⟨h.size, fun t => by rw [he]; exact h.rel t⟩

/-- The state, since the function began. -/
structure G (ρ0 : Rho) (h0 : H) (w0 : World) (N : Nat) (ρ : Rho) (env : Env) (h : H) (a : Act) (w : World) : Prop where
  e : ERel ρ N env a
  r : Rel ρ h w
  d : Dom ρ h.next
  s : Since ρ0 h0 w0 ρ h w
  z : a.defers = []
theorem put_defers (a : Act) (d : Option Tmp) (u : Value) : (a.put d u).defers = a.defers := by cases d <;> rfl
/-- The abstract states that a concrete one may stand for, all of which are well. -/
def Good (ρ0 : Rho) (h0 : H) (w0 : World) (N : Nat) (K : Env → H → Prop) (a : Act) (w : World) : Prop := ∃ ρ env h, G ρ0 h0 w0 N ρ env h a w ∧ K env h

theorem wpN_sound (hT : TOk P T) (hE : EqOk P T) {ops : Array Oper} {N : Nat} (hN : ∀ o ∈ ops, ∀ d, o.dst = some d → d < N) {ρ0 : Rho} {h0 : H} {w0 : World} {K : Env → H → Prop} {Q : Exit → Act → World → Prop}
    (hQ : ∀ a w, Good ρ0 h0 w0 N K a w → Q .normal a w) : ∀ (l : List Oper) (i : Nat), (∀ j, ops[i + j]? = l[j]?) → ∀ (env : Env) (h : H) (ρ : Rho) (a : Act) (w : World), wpN P T ops l env h K → G ρ0 h0 w0 N ρ env h a w → wpOps P ops Q ((List.range l.length).map (i + ·)) a w
  | [], i, hl, env, h, ρ, a, w, hk, g => hQ a w ⟨ρ, env, h, g, hk⟩
  | o :: l, i, hl, env, h, ρ, a, w, hk, g => by
    have ho : ops[i]? = some o := by simpa using hl 0
    have hr : (List.range (o :: l).length).map (i + ·) = i :: (List.range l.length).map (i + 1 + ·) := by
      rw [List.length_cons, List.range_succ_eq_map]
      simp [Function.comp_def, Nat.add_assoc, Nat.add_comm 1]
    have hd := hN o (Array.mem_of_getElem? ho)
    have hl' : ∀ j, ops[i + 1 + j]? = l[j]? := fun j => by
      have := hl (j + 1)
      rw [Nat.add_assoc, Nat.add_comm 1 j]
      simpa using this
    rw [hr, wpOps_cons]
    unfold wpOp
    simp only [ho]
    obtain ⟨env1, go, hk1, he, hw⟩ := guardW_sound hk hN
    have ha1 := g.e.same he
    rw [hw ρ a g.e]
    cases go with
    | true =>
      simp only [if_true]
      refine .inl (Oper.wp_mono (fun a' w' hc => ?_) (opO_sound hT hE hk1 ha1 g.r g.d Q))
      obtain ⟨v, h', ρ', u, rfl, k1, k2, k3, k4, k5⟩ := hc
      obtain ⟨env', e1, e2⟩ := (ha1.mono k5.ext).put k2 hd k1
      exact wpN_sound hT hE hN hQ l (i + 1) hl' env' h' ρ' _ w' e2 ⟨e1, k3, k4, g.s.trans k5, by rw [put_defers]; exact g.z⟩
    | false =>
      simp only [Bool.false_eq_true, if_false]
      obtain ⟨env', e1, e2⟩ := ha1.put (.tup [] [] rfl (fun j c u hc => by simp at hc)) hd hk1
      exact wpN_sound hT hE hN hQ l (i + 1) hl' env' h ρ _ w e2 ⟨e1, g.r, g.d, g.s, by rw [put_defers]; exact g.z⟩
end
end Go.Ab
