/- Timers: the document's; who is due. -/
import Derived.Test.YtpefdmidfllhoaaQ27
set_option linter.unusedVariables false
namespace Go.Proofs.Ytpefdmidfllhoaa
open Go Go.Ab
theorem RSt.ro {h : H} {g : Nat} {B M R : Int} {S : List Wt} (s : RSt h g B M R S) {i : Nat} (hg : g ≠ i) : RSt (h.ro i) g B M R S := by
  obtain ⟨p, h1, h2⟩ := s.box
  exact ⟨p, by rw [H.ro_ne _ hg, h1], h2.ro i⟩
theorem NewSl.keep1 {h0 h h' : H} {b : Nat} {p : Option (Nat × Nat)} {n sz : Nat} {xs : List V} (w : NewSl h0 h p n sz xs) (m : Ab.Mod (one b) h h') (hb : ∀ i, inSl p i → i < b) : NewSl h0 h' p n sz xs :=
  ⟨w.1.get m (fun i o e => .inl (fun k => by
    have := hb i ⟨o, e⟩
    have : i = b := k
    omega)), w.2⟩
theorem rsS_le (B M R now : Int) (S : List Wt) : (rsS B M R now S).length ≤ S.length := List.length_filterMap_le _ _
def Due42Q (h : H) (g : Nat) (B M R : Int) (S : List Wt) (now : Int) (r : V) (h' : H) : Prop :=
  ∃ qa qo qr, r = .tup [.sl qa (agS R now S).length, .sl qo (ovS R now S).length] ∧ NewSl h h' qa (agS R now S).length 1 (ints .i64 (agS R now S)) ∧ NewSl h h' qo (ovS R now S).length 1 (ints .i64 (ovS R now S)) ∧
    NewSl h h' qr (rsS B M R now S).length 3 ((rsS B M R now S).flatMap wC) ∧ h'.obj g = some (.row true 4 [i64 B, i64 M, i64 R, .sl qr (rsS B M R now S).length]) ∧ Ab.Mod (one g) h h'
set_option maxHeartbeats 1000000 in
theorem due42 {h : H} {g : Nat} {B M R : Int} {S : List Wt} (s : RSt h g B M R S) (ok : okT B M R = true) (hS : S.length ≤ 100000) (hN : ∀ x ∈ S, 0 ≤ x.2.2) {now : Int} (hn0 : -1000000000 ≤ now) (hn1 : now ≤ 1000000000) :
    ACalls Try.prog 42 [.ptr (some (g, 0)), i64 now] h (Due42Q h g B M R S now) := by
  obtain ⟨b1, b2, b3, b4, b5, b6⟩ := okT_iff.1 ok
  have hg := s.lt
  obtain ⟨p, hb, hr⟩ := s.box
  refine call_ Try.func42 rfl rfl (by kernel_rfl) ?_
  conv => whnf
  refine ⟨fun env hh => ∃ (j : Nat) (z : Int) (pa po pr : Option (Nat × Nat)), j ≤ S.length ∧ z = j ∧ NewSl h hh pa (agS R now (S.take j)).length 1 (ints .i64 (agS R now (S.take j))) ∧ NewSl h hh po (ovS R now (S.take j)).length 1 (ints .i64 (ovS R now (S.take j))) ∧
      NewSl h hh pr (rsS B M R now (S.take j)).length 3 ((rsS B M R now (S.take j)).flatMap wC) ∧ (∀ i, inSl pa i → inSl po i → False) ∧ (∀ i, inSl pa i → inSl pr i → False) ∧ (∀ i, inSl po i → inSl pr i → False) ∧ Ab.Mod none_ h hh ∧
      env = [(9, i64 z), (6, .sl pa (agS R now (S.take j)).length), (7, .sl po (ovS R now (S.take j)).length), (8, .sl pr (rsS B M R now (S.take j)).length), (0, .ptr (some (g, 0))), (1, i64 now)],
    fun env _ => match get env 9 with
      | .int _ z => (S.length - z).toNat
      | _ => 0, ⟨_, Forget.cons rfl (Forget.cons rfl (Forget.cons rfl (Forget.cons rfl (Forget.cons rfl (Forget.cons rfl (Forget.nil _)))))), 0, _, none, none, none, Nat.zero_le _, rfl, NewSl.nil _ _ _, NewSl.nil _ _ _, NewSl.nil _ _ _, (fun i a => by
        obtain ⟨o, a⟩ := a
        cases a), (fun i a => by
        obtain ⟨o, a⟩ := a
        cases a), (fun i a => by
        obtain ⟨o, a⟩ := a
        cases a), ⟨Nat.le_refl _, fun _ _ _ => rfl⟩, rfl⟩, ?_⟩
  rintro _ hh ⟨j, z, pa, po, pr, hj, rfl, na, no, nr, d1, d2, d3, mo, rfl⟩
  conv => whnf
  have bx := mo.get hb (.inl (fun k => k))
  refine ⟨_, Cell.mk bx rfl, ?_⟩
  conv => whnf
  refine br_mk (fun hd => ?_) (fun hd => ?_)
  rotate_left
  · conv => whnf
    have hd : ¬ j < S.length := by simpa using hd
    obtain rfl : j = S.length := by omega
    rw [List.take_length] at na no nr ⊢
    refine ⟨_, _, bx, Nat.le_of_ble_eq_true rfl, ?_⟩
    conv => whnf
    have mS : Ab.Mod (one g) hh (hh.set g (.row true 4 [i64 B, i64 M, i64 R, .sl pr (rsS B M R now S).length])) := Mod.set rfl bx rfl
    have kp : ∀ i, one g i → i < h.next := fun i hi => by
      have : i = g := hi
      omega
    exact ⟨pa, po, pr, rfl, NewSl.keep na mS kp, NewSl.keep no mS kp, NewSl.keep nr mS kp, H.obj_set_same bx, mo.trans' mS (fun _ _ k => k.elim) (fun _ _ k => k)⟩
  conv => whnf
  have hd : j < S.length := by simpa using hd
  have htk : S.take (j + 1) = S.take j ++ [S[j]] := List.take_succ_eq_append_getElem hd
  have hx0 := hN _ (getElem_in hd)
  have hjl : (agS R now (S.take j)).length ≤ S.length ∧ (ovS R now (S.take j)).length ≤ S.length ∧ (rsS B M R now (S.take j)).length ≤ S.length := by
    have h1 := agS_le R now (S.take j)
    have h2 := ovS_le R now (S.take j)
    have h3 := rsS_le B M R now (S.take j)
    rw [List.length_take] at h1 h2 h3
    omega
  obtain ⟨i1, c1, f1, f2, f3⟩ := sls_get wC_len (hr.get mo).is rfl hd
  refine ⟨_, Cell.mk bx rfl, ?_⟩
  conv => whnf
  refine ⟨i1, c1, j, f1, rfl, hd, ?_⟩
  conv => whnf
  refine ⟨_, f2, ?_⟩
  conv => whnf
  generalize S[j] = x at f2 f3 htk hx0 ⊢
  have la := fun i (k : inSl pa i) => SlIs.own_lt na.1 k
  have lo := fun i (k : inSl po i) => SlIs.own_lt no.1 k
  have lr := fun i (k : inSl pr i) => SlIs.own_lt nr.1 k
  obtain ⟨gm, gn, ml⟩ := lay_row (h := hh) (sz := 3) [i64 0, i64 0, i64 0] (wC x)
  refine ⟨_, _, gm, Nat.le_of_ble_eq_true rfl, ?_⟩
  conv => whnf
  refine ⟨_, Cell.mk gn rfl, ?_⟩
  conv => whnf
  have na1 := NewSl.kept na ml
  have no1 := NewSl.kept no ml
  have nr1 := NewSl.kept nr ml
  have mo1 := mod_none mo ml
  refine br_mk (fun hq => ?_) (fun hq => ?_)
  · conv => whnf
    have hF : dueF B M R now x = some x := by rw [dueF, if_pos (by simpa using hq)]
    have hA : agB R now x = false := by rw [agB, show decide (x.2.1 > now) = true from hq]; rfl
    have hO : ovB R now x = false := by rw [ovB, show decide (x.2.1 > now) = true from hq]; rfl
    have ea : agS R now (S.take (j + 1)) = agS R now (S.take j) := by rw [htk, agS_snoc, hA]; simp
    have eo : ovS R now (S.take (j + 1)) = ovS R now (S.take j) := by rw [htk, ovS_snoc, hO]; simp
    have er : rsS B M R now (S.take (j + 1)) = rsS B M R now (S.take j) ++ [x] := by rw [htk, rsS_snoc, hF]; rfl
    refine ⟨_, Cells.mk gn (Nat.le_of_ble_eq_true rfl) rfl, ?_⟩
    conv => whnf
    obtain ⟨y1, y2, y3⟩ := app1 nr1 mo1 (wC x) rfl
    refine ⟨_, _, y1, y2, by rw [show (T.at_ 136).bytes = 24 from rfl]; omega, by omega, fun pr2 hY hs hm hf => ?_⟩
    obtain ⟨nr2, mo2, my⟩ := y3 pr2 hY hs hm hf
    obtain ⟨na2, e2⟩ := app1d na1 (fun i a b => d2 i b a) my hf
    obtain ⟨no2, e3⟩ := app1d no1 (fun i a b => d3 i b a) my hf
    have e6 : (rsS B M R now (S.take j)).flatMap wC ++ wC x = (rsS B M R now (S.take (j + 1))).flatMap wC := by rw [er, List.flatMap_append]; simp
    have e7 : (rsS B M R now (S.take j)).length + 1 = (rsS B M R now (S.take (j + 1))).length := by rw [er]; simp
    rw [e6, e7] at nr2
    rw [← ea] at na2
    rw [← eo] at no2
    conv => whnf
    rw [e7, ← ea, ← eo]
    exact ⟨_, Forget.cons rfl (Forget.cons rfl (Forget.cons rfl (Forget.cons rfl (Forget.cons rfl (Forget.cons rfl (Forget.nil _)))))), ⟨j + 1, _, pa, po, pr2, hd, succ_i64 hd (by omega), na2, no2, nr2, d1, fun i a b => e2 i b a, fun i a b => e3 i b a, mo2, rfl⟩, mu_lt hd (by omega)⟩
  conv => whnf
  refine ⟨[0, 1, 2, 3, 4, 5, 6, 7], [0, 1, 0, 4, 12, 28, 63, 127], by kernel_rfl, ?_⟩
  conv => whnf
  refine ⟨_, Cell.mk gn rfl, ?_⟩
  conv => whnf
  have bx1 := ml.get bx (.inl (fun k => k))
  refine ⟨_, Cell.mk bx1 rfl, ?_⟩
  conv => whnf
  refine br_mk (fun hc => ?_) (fun hc => ?_)
  · conv => whnf
    have hc' : x.2.2 < R := by simpa using hc
    have hF : dueF B M R now x = some (x.1, now + waitV B M (x.2.2 + 1), x.2.2 + 1) := by rw [dueF, if_neg (by simpa using hq), if_pos hc']
    have hA : agB R now x = true := by rw [agB, show decide (x.2.1 > now) = false from hq, hc]; rfl
    have hO : ovB R now x = false := by rw [ovB, show decide (x.2.1 > now) = false from hq, hc]; rfl
    have ea : agS R now (S.take (j + 1)) = agS R now (S.take j) ++ [x.1] := by rw [htk, agS_snoc, hA]; simp
    have eo : ovS R now (S.take (j + 1)) = ovS R now (S.take j) := by rw [htk, ovS_snoc, hO]; simp
    have er : rsS B M R now (S.take (j + 1)) = rsS B M R now (S.take j) ++ [(x.1, now + waitV B M (x.2.2 + 1), x.2.2 + 1)] := by rw [htk, rsS_snoc, hF]; rfl
    refine ⟨_, Cell.mk gn rfl, ?_⟩
    conv => whnf
    have ew : IntKind.i64.wrap (x.2.2 + 1) = x.2.2 + 1 := wrap_i64 (by omega) (by omega)
    rw [ew]
    refine ⟨_, _, gn, Nat.le_of_ble_eq_true rfl, ?_⟩
    conv => whnf
    have gn2 := H.obj_set_same (ob' := .row true 3 [i64 x.1, i64 x.2.1, i64 (x.2.2 + 1)]) gn
    have ml2 : Ab.Mod (one hh.next) _ _ := Mod.set (ob := .row true 3 [i64 x.1, i64 x.2.1, i64 (x.2.2 + 1)]) rfl gn rfl
    have bx2 := ml2.get bx1 (.inl (fun k => by
      have : g = hh.next := k
      have := mo.next
      omega))
    refine ⟨_, Cell.mk gn2 rfl, ?_⟩
    conv => whnf
    refine (wait38 bx2 b1 b3 b4 (n := x.2.2 + 1) (by omega)).mono ?_
    rintro _ h4 ⟨eh, rfl⟩
    subst eh
    conv => whnf
    rw [wrap_i64 (x := now + waitV B M (x.2.2 + 1)) (by have := waitV_rng b1 b3 (x.2.2 + 1); omega) (by have := waitV_rng b1 b3 (x.2.2 + 1); omega)]
    refine ⟨_, _, gn2, Nat.le_of_ble_eq_true rfl, ?_⟩
    conv => whnf
    have gn3 := H.obj_set_same (ob' := .row true 3 (wC (x.1, now + waitV B M (x.2.2 + 1), x.2.2 + 1))) gn2
    have ml3 : Ab.Mod (one hh.next) _ _ := Mod.set (ob := .row true 3 (wC (x.1, now + waitV B M (x.2.2 + 1), x.2.2 + 1))) rfl gn2 rfl
    have na3 := NewSl.keep1 (NewSl.keep1 na1 ml2 la) ml3 la
    have no3 := NewSl.keep1 (NewSl.keep1 no1 ml2 lo) ml3 lo
    have nr3 := NewSl.keep1 (NewSl.keep1 nr1 ml2 lr) ml3 lr
    have hfr : ∀ i, i < h.next → one hh.next i → none_ i := fun i hi k => by
      have : i = hh.next := k
      have := mo.next
      omega
    have mo3 := (mo1.trans' ml2 (fun _ _ k => k) hfr).trans' ml3 (fun _ _ k => k) hfr
    refine ⟨_, Cell.mk gn3 rfl, ?_⟩
    conv => whnf
    obtain ⟨y1, y2, y3⟩ := app1 na3 mo3 [i64 x.1] rfl
    refine ⟨_, _, y1, y2, by rw [show (T.at_ 3).bytes = 8 from rfl]; omega, by omega, fun pa2 hY hs hm hf => ?_⟩
    obtain ⟨na4, mo4, my⟩ := y3 pa2 hY hs hm hf
    obtain ⟨no4, e1⟩ := app1d no3 d1 my hf
    obtain ⟨nr4, e2⟩ := app1d nr3 d2 my hf
    have gn4 := my.get gn3 (.inl (fun k => by
      have := la _ k
      omega))
    conv => whnf
    refine ⟨_, Cells.mk gn4 (Nat.le_of_ble_eq_true rfl) rfl, ?_⟩
    conv => whnf
    obtain ⟨z1, z2, z3⟩ := app1 nr4 mo4 (wC (x.1, now + waitV B M (x.2.2 + 1), x.2.2 + 1)) rfl
    refine ⟨_, _, z1, z2, by rw [show (T.at_ 136).bytes = 24 from rfl]; omega, by omega, fun pr2 hZ hs2 hm2 hf2 => ?_⟩
    obtain ⟨nr5, mo5, mz⟩ := z3 pr2 hZ hs2 hm2 hf2
    obtain ⟨na5, e3⟩ := app1d na4 (fun i a b => e2 i b a) mz hf2
    obtain ⟨no5, e4⟩ := app1d no4 (fun i a b => d3 i b a) mz hf2
    have q6 : ints .i64 (agS R now (S.take j)) ++ [i64 x.1] = ints .i64 (agS R now (S.take (j + 1))) := by rw [ea, ints_append]; rfl
    have q7 : (agS R now (S.take j)).length + 1 = (agS R now (S.take (j + 1))).length := by rw [ea]; simp
    have r6 : (rsS B M R now (S.take j)).flatMap wC ++ wC (x.1, now + waitV B M (x.2.2 + 1), x.2.2 + 1) = (rsS B M R now (S.take (j + 1))).flatMap wC := by rw [er, List.flatMap_append]; simp
    have r7 : (rsS B M R now (S.take j)).length + 1 = (rsS B M R now (S.take (j + 1))).length := by rw [er]; simp
    rw [q6, q7] at na5
    rw [r6, r7] at nr5
    rw [← eo] at no5
    conv => whnf
    rw [q7, r7, ← eo]
    exact ⟨_, Forget.cons rfl (Forget.cons rfl (Forget.cons rfl (Forget.cons rfl (Forget.cons rfl (Forget.cons rfl (Forget.nil _)))))), ⟨j + 1, _, pa2, po, pr2, hd, succ_i64 hd (by omega), na5, no5, nr5, e1, fun i a b => e3 i b a, fun i a b => e4 i b a, mo5, rfl⟩, mu_lt hd (by omega)⟩
  · conv => whnf
    have hF : dueF B M R now x = none := by rw [dueF, if_neg (by simpa using hq), if_neg (by simpa using hc)]
    have hA : agB R now x = false := by rw [agB, hc, Bool.and_false]
    have hO : ovB R now x = true := by rw [ovB, show decide (x.2.1 > now) = false from hq, hc]; rfl
    have ea : agS R now (S.take j) = agS R now (S.take (j + 1)) := by rw [htk, agS_snoc, hA]; simp
    have eo : ovS R now (S.take (j + 1)) = ovS R now (S.take j) ++ [x.1] := by rw [htk, ovS_snoc, hO]; simp
    have er : rsS B M R now (S.take j) = rsS B M R now (S.take (j + 1)) := by rw [htk, rsS_snoc, hF]; simp
    refine ⟨_, Cell.mk gn rfl, ?_⟩
    conv => whnf
    obtain ⟨y1, y2, y3⟩ := app1 no1 mo1 [i64 x.1] rfl
    refine ⟨_, _, y1, y2, by rw [show (T.at_ 3).bytes = 8 from rfl]; omega, by omega, fun po2 hY hs hm hf => ?_⟩
    obtain ⟨no2, mo2, my⟩ := y3 po2 hY hs hm hf
    obtain ⟨na2, e2⟩ := app1d na1 (fun i a b => d1 i b a) my hf
    obtain ⟨nr2, e3⟩ := app1d nr1 d3 my hf
    have e6 : ints .i64 (ovS R now (S.take j)) ++ [i64 x.1] = ints .i64 (ovS R now (S.take (j + 1))) := by rw [eo, ints_append]; rfl
    have e7 : (ovS R now (S.take j)).length + 1 = (ovS R now (S.take (j + 1))).length := by rw [eo]; simp
    rw [e6, e7] at no2
    rw [ea] at na2
    rw [er] at nr2
    conv => whnf
    rw [e7, ea, er]
    exact ⟨_, Forget.cons rfl (Forget.cons rfl (Forget.cons rfl (Forget.cons rfl (Forget.cons rfl (Forget.cons rfl (Forget.nil _)))))), ⟨j + 1, _, pa, po2, pr, hd, succ_i64 hd (by omega), na2, no2, nr2, fun i a b => e2 i b a, d2, e3, mo2, rfl⟩, mu_lt hd (by omega)⟩
def Due42R (h : H) (g : Nat) (B M R : Int) (S : List Wt) (now : Int) (r : V) (h' : H) : Prop :=
  ∃ qa qo, r = .tup [.sl qa (agS R now S).length, .sl qo (ovS R now S).length] ∧ RoSl h' qa (agS R now S).length 1 (ints .i64 (agS R now S)) ∧ RoSl h' qo (ovS R now S).length 1 (ints .i64 (ovS R now S)) ∧ RSt h' g B M R (rsS B M R now S) ∧ Ab.Mod (one g) h h'
theorem due42r {h : H} {g : Nat} {B M R : Int} {S : List Wt} (s : RSt h g B M R S) (ok : okT B M R = true) (hS : S.length ≤ 100000) (hN : ∀ x ∈ S, 0 ≤ x.2.2) {now : Int} (hn0 : -1000000000 ≤ now) (hn1 : now ≤ 1000000000) :
    ACalls Try.prog 42 [.ptr (some (g, 0)), i64 now] h (Due42R h g B M R S now) := by
  have hg := s.lt
  let W : H → Option (Nat × Nat) → List Int → Prop := fun h' q l => SlIs h' q l.length false 1 (ints .i64 l) ∧ ∀ i o, q = some (i, o) → h.next ≤ i
  refine ACalls.ro (Q := fun r h' => ∃ qa qo, r = .tup [.sl qa (agS R now S).length, .sl qo (ovS R now S).length] ∧ RoSl h' qa (agS R now S).length 1 (ints .i64 (agS R now S)) ∧ W h' qo (ovS R now S) ∧ RSt h' g B M R (rsS B M R now S) ∧ Ab.Mod (one g) h h') ?_ ?_
  · refine ACalls.ro (Q := fun r h' => ∃ qa qo, r = .tup [.sl qa (agS R now S).length, .sl qo (ovS R now S).length] ∧ W h' qa (agS R now S) ∧ W h' qo (ovS R now S) ∧ RSt h' g B M R (rsS B M R now S) ∧ Ab.Mod (one g) h h') ?_ ?_
    · refine (due42 s ok hS hN hn0 hn1).ro ?_
      rintro r h' ⟨qa, qo, qr, rfl, na, no, nr, bx, m⟩
      obtain ⟨i, h1, h2, h3⟩ := rst_ro hg bx nr m
      exact ⟨i, qa, qo, rfl, ⟨SlIs.ro_weak na.1.weak i, na.2⟩, ⟨SlIs.ro_weak no.1.weak i, no.2⟩, h2, h3⟩
    · rintro r h' ⟨qa, qo, rfl, na, no, st, m⟩
      obtain ⟨i, h1, h2⟩ := SlIs.freeze na.1
      have hi : h.next ≤ i := by
        rcases h1 with ⟨o, h1⟩ | h1
        · exact na.2 i o h1
        · exact Nat.le_trans m.next h1
      exact ⟨i, qa, qo, rfl, h2, ⟨SlIs.ro_weak no.1 i, no.2⟩, st.ro (by omega), m.ro_new hi⟩
  · rintro r h' ⟨qa, qo, rfl, na, no, st, m⟩
    obtain ⟨i, h1, h2⟩ := SlIs.freeze no.1
    have hi : h.next ≤ i := by
      rcases h1 with ⟨o, h1⟩ | h1
      · exact no.2 i o h1
      · exact Nat.le_trans m.next h1
    exact ⟨i, qa, qo, rfl, na.ro i, h2, st.ro (by omega), m.ro_new hi⟩
end Go.Proofs.Ytpefdmidfllhoaa
