/- Code, calls: soundness. -/
import Derived.Test.YtmififfaljihgaaGreatAb12
import Derived.Test.YtmififfaljihgaaGreatAb20
set_option linter.unusedVariables false
set_option linter.unusedSimpArgs false
namespace Go.Ab
open Go

theorem exists_min {p : Nat → Prop} (h : ∃ n, p n) : ∃ n, p n ∧ ∀ m, p m → n ≤ m := by
  obtain ⟨n, hn⟩ := h
  induction n using Nat.strongRecOn with
  | _ n ih =>
    by_cases hm : ∃ m, m < n ∧ p m
    · obtain ⟨m, h1, h2⟩ := hm
      exact ih m h1 h2
    · exact ⟨n, hn, fun m h => by
        rcases Nat.lt_or_ge m n with hlt | hge
        · exact absurd ⟨m, hlt, h⟩ hm
        · exact hge⟩
section
variable {P : Program} {T : TT}
def QR (ρ0 : Rho) (h0 : H) (w0 : World) (N : Nat) (Q : X → Env → H → Prop) : Exit → Act → World → Prop
  | .normal, a, w => Good ρ0 h0 w0 N (Q .norm) a w
  | .exit id, a, w => Good ρ0 h0 w0 N (Q (.exit id)) a w
  | .ret, a, w => Good ρ0 h0 w0 N (Q .ret) a w
  | _, _, _ => False
theorem opsOk_spec {N : Nat} {ops : Array Oper} (h : opsOk N ops = true) : ∀ o ∈ ops, ∀ d, o.dst = some d → d < N := by
  intro o ho d hd
  simp only [opsOk, List.all_eq_true] at h
  have := h o (by simpa using ho)
  rw [hd] at this
  simpa [Nat.blt_eq] using this
theorem region_any_ (hT : TOk P T) (hE : EqOk P T) (hm : P.follows .mixedOrders = true) {ρ0 : Rho} {h0 : H} {w0 : World} {N : Nat} {ops : Array Oper} (hN : ∀ o ∈ ops, ∀ d, o.dst = some d → d < N) {L B : List Nat} (hd : dOk T ops L B = true) {K : Env → H → Prop} {Q : Exit → Act → World → Prop}
    (hQ : ∀ a w, Good ρ0 h0 w0 N K a w → Q .normal a w) {env : Env} {h : H} {ρ : Rho} {a : Act} {w : World} (hw : wpD P T ops B L [] env h K) (g : G ρ0 h0 w0 N ρ env h a w) : AllOrd P ops Q a { w with drawn := w.drawn + 1 } := by
  refine allOrd_any ?_
  have dk := dOk_spec hd
  have hrep : ∀ i, (Array.replicate ops.size false).getD i false = false := by
    intro i
    rw [Array.getD_eq_getD_getElem?, Array.getElem?_replicate]
    split <;> rfl
  have I : Inv P T ops L B N ρ0 h0 w0 K (get env) (fun i => (Array.replicate ops.size false).getD i false) [] L (fun _ => .undef) [] env h ρ a w.drew := by
    refine ⟨rfl, fun i hi => ?_, fun i hi => ?_, (fun c hc => by cases hc), fun t => rfl, hw, (fun pre i post e => by cases pre <;> cases e), g.e.size, fun t => g.e.rel t, g.r.drew, g.d, g.s.trans (Since.drew _ _ _), g.z⟩
    · simp only [hrep] at hi
      cases hi
    · simp only [hrep] at hi
      cases hi
  obtain ⟨M1, M2, vals, pend, env', J, hh⟩ := advance hT hE dk hN _ _ _ _ _ I
  exact wpAny_inv hT hE dk hN hQ ops.size _ M1 M2 vals pend env' h ρ a _ (by simp) (by simp) J hh

theorem addE_dst {N : Nat} {ops : Array Oper} (hN : ∀ o ∈ ops, ∀ d, o.dst = some d → d < N) (a b : Nat) : ∀ o ∈ addE ops a b, ∀ d, o.dst = some d → d < N := by
  intro o ho d hd
  obtain ⟨i, hi, rfl⟩ := Array.getElem_of_mem ho
  have e := addE_get ops a b i
  rw [Array.getElem?_eq_getElem hi] at e
  cases hj : ops[i]? with
  | none => simp [hj] at e
  | some o' =>
    rw [hj] at e
    simp only [Option.map_some, Option.some.injEq] at e
    refine hN o' (Array.mem_of_getElem? hj) d ?_
    rw [e] at hd
    split at hd
    · exact hd
    · exact hd
theorem region_reg (hT : TOk P T) (hE : EqOk P T) (hm : P.follows .mixedOrders = true) {ρ0 : Rho} {h0 : H} {w0 : World} {N : Nat} {K : Env → H → Prop} {Q : Exit → Act → World → Prop}
    (hQ : ∀ a w, Good ρ0 h0 w0 N K a w → Q .normal a w) {env : Env} {h : H} {ρ : Rho} {a : Act} {w : World} (g : G ρ0 h0 w0 N ρ env h a w) : ∀ (f : Nat) (ops : Array Oper), (∀ o ∈ ops, ∀ d, o.dst = some d → d < N) → wpReg P T f ops env h K → AllOrd P ops Q a { w with drawn := w.drawn + 1 }
  | 0, _, _, hw => hw.elim
  | f + 1, ops, hN, hw => by
    obtain ⟨L, B, hw⟩ := hw
    split at hw
    · rename_i x y
      obtain ⟨hab, h1, h2⟩ := hw
      exact allOrd_split (Nat.ne_of_beq_eq_false hab) (region_reg hT hE hm hQ g f _ (addE_dst hN _ _) h1) (region_reg hT hE hm hQ g f _ (addE_dst hN _ _) h2)
    · exact region_any_ hT hE hm hN hw.1 hQ hw.2 g
theorem region_draw (hT : TOk P T) (hE : EqOk P T) (hm : P.follows .mixedOrders = true) {ρ0 : Rho} {h0 : H} {w0 : World} {N id f : Nat} {ops : Array Oper} (hN : ∀ o ∈ ops, ∀ d, o.dst = some d → d < N) {K : Env → H → Prop} {Q : Exit → Act → World → Prop}
    (hQ : ∀ a w, Good ρ0 h0 w0 N K a w → Q .normal a w) {env : Env} {h : H} {ρ : Rho} {a : Act} {w : World} (hw : wpReg P T f ops env h K) (g : G ρ0 h0 w0 N ρ env h a w) : (Code.region id ops true).wp P Q a w :=
  region_allOrd hm (region_reg hT hE hm hQ g f ops hN hw)

theorem wpC_sound (hT : TOk P T) (hE : EqOk P T) (hm : P.follows .mixedOrders = true) {ρ0 : Rho} {h0 : H} {w0 : World} {N : Nat} : ∀ (c : Code), codeOk N c = true → ∀ (Q : X → Env → H → Prop) (env : Env) (h : H) (ρ : Rho) (a : Act) (w : World),
    wpC P T c Q env h → G ρ0 h0 w0 N ρ env h a w → c.wp P (QR ρ0 h0 w0 N Q) a w := by
  intro c
  induction c with
  | skip => exact fun _ Q env h ρ a w hw g => wp_skip ⟨ρ, env, h, g, hw⟩
  | ret => exact fun _ Q env h ρ a w hw g => wp_ret ⟨ρ, env, h, g, hw⟩
  | exit id => exact fun _ Q env h ρ a w hw g => wp_exit ⟨ρ, env, h, g, hw⟩
  | region id ops draw =>
    intro hc Q env h ρ a w hw g
    have hN := opsOk_spec hc
    cases draw with
    | false =>
      refine wp_region ?_
      have := wpN_sound hT hE hN (Q := QR ρ0 h0 w0 N Q) (fun a w hg => hg) ops.toList 0 (fun j => by simp) env h ρ a w hw g
      simpa using this
    | true =>
      exact region_draw hT hE hm hN (fun a w hg => hg) hw g
  | seq x y ihx ihy =>
    intro hc Q env h ρ a w hw g
    simp only [codeOk, Bool.and_eq_true] at hc
    refine wp_seq (wp_mono (ihx hc.1 _ env h ρ a w hw g) fun e a' w' hq => ?_)
    cases e with
    | normal =>
      obtain ⟨ρ', env', h', g', hk⟩ := hq
      exact ihy hc.2 Q env' h' ρ' a' w' hk g'
    | exit id => exact hq
    | ret => exact hq
    | goto l => exact hq
    | panic ch => exact hq
    | outgrown => exact hq
  | cond c x y ihx ihy =>
    intro hc Q env h ρ a w hw g
    simp only [codeOk, Bool.and_eq_true] at hc
    simp only [wpC] at hw
    split at hw
    · rename_i b hb
      rw [br_iff] at hw
      have := opv_rel g.e c
      rw [hb] at this
      refine wp_cond (this.bool_inv) ?_
      cases b with
      | true => exact ihx hc.1 Q env h ρ a w (hw.1 rfl) g
      | false => exact ihy hc.2 Q env h ρ a w (hw.2 rfl) g
    · exact hw.elim
  | block id c ih =>
    intro hc Q env h ρ a w hw g
    refine wp_block (wp_mono (ih hc _ env h ρ a w hw g) fun e a' w' hq => ?_)
    cases e with
    | normal => exact hq
    | exit j =>
      have hq' : Good ρ0 h0 w0 N (inBlk id Q (.exit j)) a' w' := hq
      simp only [Exit.inBlock]
      cases hj : Nat.beq j id with
      | true =>
        rw [if_pos (Nat.eq_of_beq_eq_true hj)]
        have e : inBlk id Q (.exit j) = Q .norm := by
          funext env h
          simp only [inBlk, hj]
        rw [e] at hq'
        exact hq'
      | false =>
        rw [if_neg (Nat.ne_of_beq_eq_false hj)]
        have e : inBlk id Q (.exit j) = Q (.exit j) := by
          funext env h
          simp only [inBlk, hj]
        rw [e] at hq'
        exact hq'
    | ret => exact hq
    | goto l => exact hq
    | panic ch => exact hq
    | outgrown => exact hq
  | loop c ih =>
    intro hc Q env h ρ a w hw g
    obtain ⟨I, μ, ⟨env0, hf0, hI⟩, round⟩ := hw
    have g : G ρ0 h0 w0 N ρ env0 h a w := ⟨g.e.forget hf0, g.r, g.d, g.s, g.z⟩
    classical
    let p : Act → World → Nat → Prop := fun a w n => ∃ ρ env h, G ρ0 h0 w0 N ρ env h a w ∧ I env h ∧ μ env h = n
    let m : Act → World → Nat := fun a w => if hp : ∃ n, p a w n then Classical.choose (exists_min hp) else 0
    have hm1 : ∀ a w, (∃ n, p a w n) → p a w (m a w) ∧ ∀ k, p a w k → m a w ≤ k := by
      intro a w hp
      have := Classical.choose_spec (exists_min hp)
      simp only [m, dif_pos hp]
      exact this
    refine wp_loop (fun a w => ∃ n, p a w n) m ⟨_, ρ, env0, h, g, hI, rfl⟩ (fun a w hp => ?_)
    obtain ⟨⟨ρ1, env1, h1, g1, hI1, hμ⟩, _⟩ := hm1 a w hp
    refine wp_mono (ih hc _ env1 h1 ρ1 a w (round env1 h1 hI1) g1) fun e a' w' hq => ?_
    cases e with
    | normal =>
      obtain ⟨ρ2, env2, h2, g2, env3, hf, hI3, hlt⟩ := hq
      have hp3 : p a' w' (μ env3 h2) := ⟨ρ2, env3, h2, ⟨g2.e.forget hf, g2.r, g2.d, g2.s, g2.z⟩, hI3, rfl⟩
      refine ⟨⟨_, hp3⟩, ?_⟩
      have := (hm1 a' w' ⟨_, hp3⟩).2 _ hp3
      omega
    | exit id => exact hq
    | ret => exact hq
    | goto l => exact hq
    | panic ch => exact hq
    | outgrown => exact hq
  | _ => exact fun _ Q env h ρ a w hw g => hw.elim

def resF (a : Act) : ResultVar → Sem Value
  | .tmp t => pure (a.tmps.getD t Go.undef)
  | .cell c t => do loadVar t (← asAddr (a.tmps.getD c Go.undef))
theorem resO_sound (hT : TOk P T) {env : Env} {h : H} {ρ : Rho} {N : Nat} {a : Act} {w : World} (ha : ERel ρ N env a) (r : Rel ρ h w) : ∀ (rs : List ResultVar) (K : List V → Prop), resO T env h rs K →
    ∃ vs us, K vs ∧ VsRel ρ vs us ∧ vs.length = rs.length ∧ (rs.mapM (resF a)).run P w = .ok us w
  | [], K, hk => ⟨[], [], hk, VsRel.nil _, rfl, rfl⟩
  | .tmp t :: rs, K, hk => by
    simp only [resO, fv_iff] at hk
    obtain ⟨vs, us, k1, k2, k3, k4⟩ := resO_sound hT ha r rs _ hk
    refine ⟨_, _, k1, VsRel.cons (ha.rel t) k2, by simp [k3], ?_⟩
    rw [List.mapM_cons, Sem.run_bind]
    simp only [resF, Sem.run_pure, Result.andThen_ok, Sem.run_bind]
    rw [k4]
    rfl
  | .cell c t :: rs, K, hk => by
    simp only [resO] at hk
    split at hk
    · rename_i i off hc hk'
      obtain ⟨v, hcell, hk⟩ := hk
      rw [fv_iff] at hk
      obtain ⟨vs, us, k1, k2, k3, k4⟩ := resO_sound hT ha r rs _ hk
      have rc := ha.rel c
      rw [hc] at rc
      obtain ⟨l, hl, e⟩ := rc.ptr_inv
      obtain ⟨u, h1, h2⟩ := (r.var hT hl (t := t)).1 v hk' hcell
      refine ⟨_, _, k1, VsRel.cons h2 k2, by simp [k3], ?_⟩
      rw [List.mapM_cons, Sem.run_bind]
      simp only [resF, e, asAddr, Sem.run_pure, Result.andThen_ok, Sem.run_bind, h1]
      rw [k4]
      rfl
    · rename_i i off hc hk'
      obtain ⟨cs, hcell, hk⟩ := hk
      obtain ⟨vs, us, k1, k2, k3, k4⟩ := resO_sound hT ha r rs _ hk
      have rc := ha.rel c
      rw [hc] at rc
      obtain ⟨l, hl, e⟩ := rc.ptr_inv
      obtain ⟨u, h1, h2⟩ := (r.var hT hl (t := t)).2 cs hk' hcell
      refine ⟨_, _, k1, VsRel.cons h2 k2, by simp [k3], ?_⟩
      rw [List.mapM_cons, Sem.run_bind]
      simp only [resF, e, asAddr, Sem.run_pure, Result.andThen_ok, Sem.run_bind, h1]
      rw [k4]
      rfl
    · exact hk.elim

theorem bodyX_sound (hT : TOk P T) {fn : Func} {Q : V → H → Prop} {x : X} {ρ0 : Rho} {h0 : H} {w0 : World} {N : Nat} {ρ : Rho} {env : Env} {h : H} {a : Act} {w : World} (g : G ρ0 h0 w0 N ρ env h a w) (hx : ∀ id, x ≠ .exit id) (hq : bodyX T fn.results.toList Q x env h) :
    ∃ u, (results fn a.tmps).run P w = .ok u w ∧ ∃ r h' ρ', Q r h' ∧ VRel ρ' r u ∧ Rel ρ' h' w ∧ Dom ρ' h'.next ∧ Since ρ0 h0 w0 ρ' h' w := by
  have hq' : resO T env h fn.results.toList fun vs => match vs with
      | [v] => Q v h
      | vs => Q (.tup vs) h := by
    cases x with
    | exit id => exact absurd rfl (hx id)
    | norm => exact hq
    | ret => exact hq
  obtain ⟨vs, us, k1, k2, k3, k4⟩ := resO_sound hT g.e g.r _ _ hq'
  have hrun : ∀ u, (if hz : us.toArray.size = 1 then us.toArray[0] else .tuple us.toArray) = u → (results fn a.tmps).run P w = .ok u w := by
    rintro u rfl
    unfold results
    rw [Sem.run_bind, Array.mapM_eq_mapM_toList, Sem.run_map]
    have hf : ∀ g : ResultVar → Sem Value, (∀ x, g x = resF a x) → Sem.run P (fn.results.toList.mapM g) w = .ok us w := fun g hg => by
      rw [show g = resF a from funext hg]
      exact k4
    rw [hf _ (fun x => by cases x <;> rfl)]
    rfl
  rcases vs with _ | ⟨v, _ | ⟨v2, vs⟩⟩
  · obtain ⟨hl, hc⟩ := k2
    have : us = [] := List.eq_nil_of_length_eq_zero hl.symm
    subst this
    exact ⟨_, hrun _ rfl, .tup [], h, ρ, k1, .tup [] [] rfl hc, g.r, g.d, g.s⟩
  · obtain ⟨u, us', rfl, h1, h2⟩ := k2.uncons
    have : us' = [] := List.eq_nil_of_length_eq_zero h2.1.symm
    subst this
    exact ⟨u, hrun _ rfl, v, h, ρ, k1, h1, g.r, g.d, g.s⟩
  · obtain ⟨hl, hc⟩ := k2
    refine ⟨.tuple us.toArray, hrun _ ?_, .tup (v :: v2 :: vs), h, ρ, k1, .tup _ us hl hc, g.r, g.d, g.s⟩
    rw [dif_neg]
    simp at hl ⊢
    omega

theorem get_argsE : ∀ (vs : List V) (i t : Nat), get (argsE i vs) t = if i ≤ t then vs.getD (t - i) .undef else .undef
  | [], i, t => by simp [argsE, get]
  | v :: vs, i, t => by
    rw [argsE, get_cons, get_argsE vs (i + 1) t]
    by_cases h : i = t
    · subst h
      simp
    · rw [if_neg h]
      by_cases h2 : i ≤ t
      · rw [if_pos h2, if_pos (by omega)]
        have : t - i = (t - (i + 1)) + 1 := by omega
        rw [this]
        rfl
      · rw [if_neg h2, if_neg (by omega)]

/-- A call by its body. -/
theorem acalls_of (hT : TOk P T) (hE : EqOk P T) (hm : P.follows .mixedOrders = true) {f : Nat} {fn : Func} {c : Code} {args : List V} {h : H} {Q : V → H → Prop} (hf : P.funcs[f]? = some fn) (hb : fn.body = some c) (hname : (fn.name == "runtime.NumGoroutine") = false)
    (hok : (codeOk fn.ntmps c && Nat.ble args.length fn.ntmps) = true) (hw : wpC P T c (bodyX T fn.results.toList Q) (argsE 0 args) h) : ACalls P f args h Q := by
  simp only [Bool.and_eq_true] at hok
  obtain ⟨hok, hlen⟩ := hok
  have hlen := Nat.le_of_ble_eq_true hlen
  refine ⟨⟨fn, hf, by rw [hb]; rfl, hname⟩, fun ρ w vs r hd hv => ?_⟩
  refine calls_of_wp hf hb ?_
  have hvl : vs.length = args.length := hv.1.symm
  have g : G ρ h w fn.ntmps ρ (argsE 0 args) h { tmps := vs.toArray ++ Array.replicate (fn.ntmps - vs.toArray.size) Go.undef, defers := [] } w := by
    refine ⟨⟨by simp; omega, fun t => ?_⟩, r, hd, Since.refl _ _ _, rfl⟩
    rw [get_argsE, if_pos (Nat.zero_le t), Nat.sub_zero]
    simp only [Array.getD_eq_getD_getElem?, List.getD_eq_getElem?_getD]
    rcases Nat.lt_or_ge t args.length with ht | ht
    · obtain ⟨u, h1, h2⟩ := hv.get (List.getElem?_eq_getElem ht)
      rw [List.getElem?_eq_getElem ht, Array.getElem?_append_left (by simp; omega)]
      simp only [List.getElem?_toArray, h1, Option.getD_some]
      exact h2
    · rw [List.getElem?_eq_none ht]
      exact .undef _
  refine wp_mono (wpC_sound hT hE hm c hok _ _ h ρ _ w hw g) fun e a' w' hq => ?_
  cases e with
  | normal =>
    obtain ⟨ρ', env', h', g', hk⟩ := hq
    obtain ⟨u, k1, r, h2, ρ2, k2, k3, k4, k5, k6⟩ := bodyX_sound hT g' (fun id e => by cases e) hk
    exact ⟨g'.z, u, k1, r, h2, ρ2, u, rfl, k2, k3, k4, k5, k6⟩
  | ret =>
    obtain ⟨ρ', env', h', g', hk⟩ := hq
    obtain ⟨u, k1, r, h2, ρ2, k2, k3, k4, k5, k6⟩ := bodyX_sound hT g' (fun id e => by cases e) hk
    exact ⟨g'.z, u, k1, r, h2, ρ2, u, rfl, k2, k3, k4, k5, k6⟩
  | exit id =>
    obtain ⟨ρ', env', h', g', hk⟩ := hq
    exact hk.elim
  | goto l => exact hq.elim
  | panic ch => exact hq.elim
  | outgrown => exact hq.elim
end
end Go.Ab
