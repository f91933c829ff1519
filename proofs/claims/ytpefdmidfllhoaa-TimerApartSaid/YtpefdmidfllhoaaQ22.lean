/- Timers: who is due. -/
import Derived.Test.YtpefdmidfllhoaaQ21
set_option linter.unusedVariables false
namespace Go.Proofs.Ytpefdmidfllhoaa
open Go Go.Ab
def dueF (B M R now : Int) (x : Wt) : Option Wt := if x.2.1 > now then some x else if x.2.2 < R then some (x.1, now + waitV B M (x.2.2 + 1), x.2.2 + 1) else none
def agB (R now : Int) (x : Wt) : Bool := !decide (x.2.1 > now) && decide (x.2.2 < R)
def ovB (R now : Int) (x : Wt) : Bool := !decide (x.2.1 > now) && !decide (x.2.2 < R)
def agS (R now : Int) (S : List Wt) : List Int := keys (S.filter (agB R now))
def ovS (R now : Int) (S : List Wt) : List Int := keys (S.filter (ovB R now))
def rsS (B M R now : Int) (S : List Wt) : List Wt := S.filterMap (dueF B M R now)
theorem agS_snoc (R now : Int) (S : List Wt) (x : Wt) : agS R now (S ++ [x]) = agS R now S ++ (if agB R now x then [x.1] else []) := by
  rw [agS, filter_snoc, keys_append, agS]
  congr 1
  by_cases h : agB R now x = true
  · rw [if_pos h, if_pos h]
    rfl
  · rw [if_neg h, if_neg h]
    rfl
theorem ovS_snoc (R now : Int) (S : List Wt) (x : Wt) : ovS R now (S ++ [x]) = ovS R now S ++ (if ovB R now x then [x.1] else []) := by
  rw [ovS, filter_snoc, keys_append, ovS]
  congr 1
  by_cases h : ovB R now x = true
  · rw [if_pos h, if_pos h]
    rfl
  · rw [if_neg h, if_neg h]
    rfl
theorem rsS_snoc (B M R now : Int) (S : List Wt) (x : Wt) : rsS B M R now (S ++ [x]) = rsS B M R now S ++ (dueF B M R now x).toList := by
  rw [rsS, List.filterMap_append, rsS, List.filterMap_cons, List.filterMap_nil]
  cases h : dueF B M R now x <;> rfl
theorem agS_le (R now : Int) (S : List Wt) : (agS R now S).length ≤ S.length := by
  rw [agS, keys, List.length_map]
  exact List.length_filter_le _ _
theorem ovS_le (R now : Int) (S : List Wt) : (ovS R now S).length ≤ S.length := by
  rw [ovS, keys, List.length_map]
  exact List.length_filter_le _ _
theorem keys_get {S : List Wt} {j : Nat} (h : j < S.length) : (keys S).getD j 0 = S[j].1 := by
  simp [keys, List.getD_eq_getElem?_getD, h]
theorem keys_len (S : List Wt) : (keys S).length = S.length := by simp [keys]
/-- another row of one's own is as it was -/
theorem app1d {h0 hh h' : H} {po pb po2 : Option (Nat × Nat)} {k sz sz' : Nat} {c ys : List V} (nb : NewSl h0 hh pb k sz ys) (dis : ∀ i, inSl po i → inSl pb i → False) (m6 : Ab.Mod (inSl po) hh h') (hf : isFresh (hh.push (.row true sz' c)) po po2) :
    NewSl h0 h' pb k sz ys ∧ ∀ i, inSl po2 i → inSl pb i → False := by
  refine ⟨⟨nb.1.get m6 (fun i o e => .inl (fun a => dis i a ⟨o, e⟩)), nb.2⟩, fun i a b => ?_⟩
  obtain ⟨o, a⟩ := a
  rcases hf i o a with k | k
  · exact dis i ⟨o, by rw [← k, a]⟩ b
  · have := SlIs.own_lt nb.1 b
    have : hh.next + 1 ≤ i := k
    omega
def DueQ (h : H) (g mi : Nat) (B M R : Int) (S : List Wt) (now : Int) (r : V) (h' : H) : Prop :=
  ∃ qa qo, r = .tup [.sl qa (agS R now S).length, .sl qo (ovS R now S).length] ∧ NewSl h h' qa (agS R now S).length 1 (ints .i64 (agS R now S)) ∧ NewSl h h' qo (ovS R now S).length 1 (ints .i64 (ovS R now S)) ∧ TSt h' g mi B M R (rsS B M R now S) ∧ Ab.Mod (one mi) h h'
set_option maxHeartbeats 1000000 in
theorem due24 {h : H} {g mi : Nat} {B M R : Int} {S : List Wt} (s : TSt h g mi B M R S) (ok : okT B M R = true) (hS : S.length ≤ 100000) (hN : ∀ x ∈ S, 0 ≤ x.2.2) {now : Int} (hn0 : -1000000000 ≤ now) (hn1 : now ≤ 1000000000) :
    ACalls Try.prog 24 [.ptr (some (g, 0)), i64 now] h (DueQ h g mi B M R S now) := by
  obtain ⟨b1, b2, b3, b4, b5, b6⟩ := okT_iff.1 ok
  refine call_ Try.func24 rfl rfl (by kernel_rfl) ?_
  conv => whnf
  refine ⟨_, Cell.mk s.box rfl, ?_⟩
  conv => whnf
  refine (keys67 h mi).mono ?_
  rintro _ h1 ⟨rfl, e1⟩
  subst e1
  conv => whnf
  obtain ⟨ms, g1, g2⟩ := s.map
  have mP := Mod.push none_ h (.row true 1 [.mp (some mi)])
  have gP := mP.get g1 (.inl (fun k => k))
  have hkm : ∀ p ∈ encM wV ms, inI p.1 := fun p hp => by
    obtain ⟨x, hx, rfl⟩ := List.mem_map.1 hp
    refine s.rng x.1 ?_
    rw [← sget_some, ← g2.2, sget_some]
    exact List.mem_map.2 ⟨x, hx, rfl⟩
  refine (sorted66 (.inl rfl) (H.obj_push_new h _) gP (by rw [encM_keys]; exact g2.1) hkm (by rw [encM_length, g2.length s.asc]; omega)).mono ?_
  rintro _ h2 ⟨q, rfl, nq, m2⟩
  rw [encM_keys, encM_length, g2.keys s.asc, g2.length s.asc] at nq
  rw [encM_length, g2.length s.asc]
  have mA := mod_none mP m2
  have s2 := s.old mA
  have hlt := s.lt
  have hqi : ∀ i o, q = some (i, o) → h.next ≤ i := fun i o e => Nat.le_of_succ_le (nq.2 i o e)
  conv => whnf
  refine ⟨fun env hh => ∃ (j : Nat) (z : Int) (pa po : Option (Nat × Nat)), j ≤ S.length ∧ z = j ∧ NewSl h2 hh pa (agS R now (S.take j)).length 1 (ints .i64 (agS R now (S.take j))) ∧ NewSl h2 hh po (ovS R now (S.take j)).length 1 (ints .i64 (ovS R now (S.take j))) ∧
      (∀ i, inSl pa i → inSl po i → False) ∧ TSt hh g mi B M R (rsS B M R now (S.take j) ++ S.drop j) ∧ Ab.Mod (one mi) h2 hh ∧
      env = [(18, i64 z), (4, .sl pa (agS R now (S.take j)).length), (5, .sl po (ovS R now (S.take j)).length), (17, i64 S.length), (16, .sl q S.length), (0, .ptr (some (g, 0))), (1, i64 now)],
    fun env _ => match get env 18 with
      | .int _ z => (S.length - z).toNat
      | _ => 0, ⟨_, Forget.cons rfl (Forget.cons rfl (Forget.cons rfl (Forget.cons rfl (Forget.cons rfl (Forget.cons rfl (Forget.cons rfl (Forget.nil _))))))), 0, _, none, none, Nat.zero_le _, rfl, NewSl.nil _ _ _, NewSl.nil _ _ _, (fun i a => by
        obtain ⟨o, a⟩ := a
        cases a), s2, ⟨Nat.le_refl _, fun _ _ _ => rfl⟩, rfl⟩, ?_⟩
  rintro _ hh ⟨j, z, pa, po, hj, rfl, na, no, dis, st, mo, rfl⟩
  conv => whnf
  refine br_mk (fun hd => ?_) (fun hd => ?_)
  rotate_left
  · conv => whnf
    have hd : ¬ j < S.length := by simpa using hd
    obtain rfl : j = S.length := by omega
    rw [List.take_length] at na no st ⊢
    rw [List.drop_length, List.append_nil] at st
    exact ⟨pa, po, rfl, ⟨na.1, fun i o e => Nat.le_trans mA.next (na.2 i o e)⟩, ⟨no.1, fun i o e => Nat.le_trans mA.next (no.2 i o e)⟩, st, mA.trans' mo (fun _ _ k => k.elim) (fun _ _ k => k)⟩
  conv => whnf
  have hd : j < S.length := by simpa using hd
  have sq : SlIs hh q S.length true 1 (ints .i64 (keys S)) := nq.1.get mo (fun i o e => .inl (fun k => by
    have := hqi i o e
    have : i = mi := k
    omega))
  obtain ⟨i1, c1, f1, f2⟩ := slo_get sq hd
  rw [keys_get hd] at f2
  refine ⟨i1, c1, j, f1, rfl, hd, ?_⟩
  conv => whnf
  refine ⟨_, f2, ?_⟩
  conv => whnf
  refine ⟨_, Cell.mk st.box rfl, ?_⟩
  conv => whnf
  have hdr : S.drop j = S[j] :: S.drop (j + 1) := List.drop_eq_getElem_cons hd
  have htk : S.take (j + 1) = S.take j ++ [S[j]] := List.take_succ_eq_append_getElem hd
  have hx0 := hN _ (getElem_in hd)
  have hjl : (agS R now (S.take j)).length ≤ S.length ∧ (ovS R now (S.take j)).length ≤ S.length := by
    have h1 := agS_le R now (S.take j)
    have h2 := ovS_le R now (S.take j)
    rw [List.length_take] at h1 h2
    omega
  rw [hdr] at st
  generalize S[j] = x at f2 hdr htk hx0 st ⊢
  have hm1 := sget_mid st.asc
  obtain ⟨ms1, k1, k2⟩ := st.map
  have e2 : mget (encM wV ms1) x.1 = some (wV x.2) := by rw [mget_enc, k2.2, hm1]; rfl
  refine ⟨true, encM wV ms1, k1, ?_⟩
  rw [e2]
  conv => whnf
  obtain ⟨gm, gn, ml⟩ := lay_row (h := hh) (sz := 2) [i64 0, i64 0] [i64 x.2.1, i64 x.2.2]
  refine ⟨_, _, gm, Nat.le_of_ble_eq_true rfl, ?_⟩
  conv => whnf
  refine ⟨_, Cell.mk gn rfl, ?_⟩
  conv => whnf
  have na1 := NewSl.kept na ml
  have no1 := NewSl.kept no ml
  have st1 := st.old ml
  have mo1 := mo.trans' ml (fun _ _ k => k) (fun _ _ k => k.elim)
  refine br_mk (fun hb => ?_) (fun hb => ?_)
  · conv => whnf
    have hF : dueF B M R now x = some x := by rw [dueF, if_pos (by simpa using hb)]
    have hA : agB R now x = false := by rw [agB, show decide (x.2.1 > now) = true from hb]; rfl
    have hO : ovB R now x = false := by rw [ovB, show decide (x.2.1 > now) = true from hb]; rfl
    have ea : agS R now (S.take (j + 1)) = agS R now (S.take j) := by rw [htk, agS_snoc, hA]; simp
    have eo : ovS R now (S.take (j + 1)) = ovS R now (S.take j) := by rw [htk, ovS_snoc, hO]; simp
    have er : rsS B M R now (S.take j) ++ x :: S.drop (j + 1) = rsS B M R now (S.take (j + 1)) ++ S.drop (j + 1) := by rw [htk, rsS_snoc, hF]; simp
    rw [er] at st1
    rw [← ea] at na1
    rw [← eo] at no1
    rw [← ea, ← eo]
    exact ⟨_, Forget.cons rfl (Forget.cons rfl (Forget.cons rfl (Forget.cons rfl (Forget.cons rfl (Forget.cons rfl (Forget.cons rfl (Forget.nil _))))))), ⟨j + 1, _, pa, po, hd, succ_i64 hd (by omega), na1, no1, dis, st1, mo1, rfl⟩, mu_lt hd (by omega)⟩
  conv => whnf
  refine ⟨[0, 1, 2, 3, 4, 5, 6, 7], [0, 1, 0, 4, 12, 28, 63, 127], by kernel_rfl, ?_⟩
  conv => whnf
  refine ⟨_, Cell.mk gn rfl, ?_⟩
  conv => whnf
  refine ⟨_, Cell.mk st1.box rfl, ?_⟩
  conv => whnf
  refine br_mk (fun hc => ?_) (fun hc => ?_)
  · conv => whnf
    have hc' : x.2.2 < R := by simpa using hc
    have hF : dueF B M R now x = some (x.1, now + waitV B M (x.2.2 + 1), x.2.2 + 1) := by rw [dueF, if_neg (by simpa using hb), if_pos hc']
    have hA : agB R now x = true := by rw [agB, show decide (x.2.1 > now) = false from hb, hc]; rfl
    have hO : ovB R now x = false := by rw [ovB, show decide (x.2.1 > now) = false from hb, hc]; rfl
    have ea : agS R now (S.take (j + 1)) = agS R now (S.take j) ++ [x.1] := by rw [htk, agS_snoc, hA]; simp
    have eo : ovS R now (S.take (j + 1)) = ovS R now (S.take j) := by rw [htk, ovS_snoc, hO]; simp
    have er : rsS B M R now (S.take j) ++ (x.1, now + waitV B M (x.2.2 + 1), x.2.2 + 1) :: S.drop (j + 1) = rsS B M R now (S.take (j + 1)) ++ S.drop (j + 1) := by rw [htk, rsS_snoc, hF]; simp
    refine ⟨[0, 1, 2, 3, 4, 5, 6, 7, 8, 9, 12, 13, 14, 10, 11, 15, 16], [0, 1, 3, 7, 0, 0, 0, 0, 128, 384, 960, 2016, 0, 4096, 12288, 32736, 65535], by kernel_rfl, ?_⟩
    conv => whnf
    refine ⟨_, Cell.mk st1.box rfl, ?_⟩
    conv => whnf
    refine ⟨_, Cell.mk gn rfl, ?_⟩
    conv => whnf
    refine ⟨_, Cell.mk gn rfl, ?_⟩
    conv => whnf
    have ew : IntKind.i64.wrap (x.2.2 + 1) = x.2.2 + 1 := wrap_i64 (by omega) (by omega)
    rw [ew]
    refine (wait37 st1.box b1 b3 b4 (n := x.2.2 + 1) (by omega)).mono ?_
    rintro _ h4 ⟨eh, rfl⟩
    subst eh
    conv => whnf
    refine ⟨⟨_, Cell.mk gn rfl, rfl⟩, ?_⟩
    conv => whnf
    refine ⟨⟨_, Cell.mk st1.box rfl, rfl⟩, ?_⟩
    conv => whnf
    rw [wrap_i64 (x := now + waitV B M (x.2.2 + 1)) (by have := waitV_rng b1 b3 (x.2.2 + 1); omega) (by have := waitV_rng b1 b3 (x.2.2 + 1); omega)]
    have k1N := ml.get k1 (.inl (fun k => k))
    refine ⟨encM wV ms1, k1N, ?_⟩
    conv => whnf
    have em := mput_enc wV x.1 (now + waitV B M (x.2.2 + 1), x.2.2 + 1) ms1
    have hasc : AscS (rsS B M R now (S.take j) ++ (x.1, now + waitV B M (x.2.2 + 1), x.2.2 + 1) :: S.drop (j + 1)) := asc_upd st.asc _
    obtain ⟨t1, t2⟩ := st1.turn (k2.put x.1 (now + waitV B M (x.2.2 + 1), x.2.2 + 1) (sget_upd st.asc _)) hasc (fun k hk => st.rng k (by
      rw [keys_append] at hk ⊢
      exact hk))
    rw [← em] at t1 t2
    rw [er] at t1
    have na1 := NewSl.keep na1 t2 (fun i hi => by
      have := mA.next
      have : i = mi := hi
      omega)
    have no1 := NewSl.keep no1 t2 (fun i hi => by
      have := mA.next
      have : i = mi := hi
      omega)
    have mo2 := mo1.trans' t2 (fun _ _ k => k) (fun _ _ k => k)
    obtain ⟨y1, y2, y3⟩ := app1 na1 mo2 [i64 x.1] rfl
    refine ⟨_, _, y1, y2, by rw [show (T.at_ 3).bytes = 8 from rfl]; omega, by omega, fun pa2 hY hs hm hf => ?_⟩
    obtain ⟨na2, mo3, my⟩ := y3 pa2 hY hs hm hf
    obtain ⟨no2, dis2⟩ := app1d no1 dis my hf
    have st3 := t1.get my (fun k => by
      obtain ⟨o, k⟩ := k
      have := na1.2 g o k
      have := mA.next
      omega) (fun k => by
      obtain ⟨o, k⟩ := k
      have := na1.2 mi o k
      have := mA.next
      omega)
    have e6 : ints .i64 (agS R now (S.take j)) ++ [i64 x.1] = ints .i64 (agS R now (S.take (j + 1))) := by rw [ea, ints_append]; rfl
    have e7 : (agS R now (S.take j)).length + 1 = (agS R now (S.take (j + 1))).length := by rw [ea]; simp
    have e8 : ovS R now (S.take j) = ovS R now (S.take (j + 1)) := by rw [htk, ovS_snoc, hO]; simp
    rw [e6, e7] at na2
    rw [e8] at no2
    conv => whnf
    rw [e7, e8]
    exact ⟨_, Forget.cons rfl (Forget.cons rfl (Forget.cons rfl (Forget.cons rfl (Forget.cons rfl (Forget.cons rfl (Forget.cons rfl (Forget.nil _))))))), ⟨j + 1, _, pa2, po, hd, succ_i64 hd (by omega), na2, no2, dis2, st3, mo3, rfl⟩, mu_lt hd (by omega)⟩
  · conv => whnf
    have hF : dueF B M R now x = none := by rw [dueF, if_neg (by simpa using hb), if_neg (by simpa using hc)]
    have hA : agB R now x = false := by rw [agB, hc, Bool.and_false]
    have hO : ovB R now x = true := by rw [ovB, show decide (x.2.1 > now) = false from hb, hc]; rfl
    have ea : agS R now (S.take j) = agS R now (S.take (j + 1)) := by rw [htk, agS_snoc, hA]; simp
    have eo : ovS R now (S.take (j + 1)) = ovS R now (S.take j) ++ [x.1] := by rw [htk, ovS_snoc, hO]; simp
    have er : rsS B M R now (S.take j) ++ S.drop (j + 1) = rsS B M R now (S.take (j + 1)) ++ S.drop (j + 1) := by rw [htk, rsS_snoc, hF]; simp
    refine ⟨_, Cell.mk st1.box rfl, ?_⟩
    conv => whnf
    have k1N := ml.get k1 (.inl (fun k => k))
    refine ⟨encM wV ms1, k1N, ?_⟩
    conv => whnf
    have em := mdel_enc wV x.1 ms1
    obtain ⟨t1, t2⟩ := st1.turn (k2.del x.1 (sget_del st.asc)) (asc_del st.asc) (fun k hk => st.rng k (by
      rw [keys_append, List.mem_append] at hk ⊢
      rcases hk with hk | hk
      · exact .inl hk
      · exact .inr (List.mem_cons_of_mem _ hk)))
    rw [← em] at t1 t2
    rw [er] at t1
    have na1 := NewSl.keep na1 t2 (fun i hi => by
      have := mA.next
      have : i = mi := hi
      omega)
    have no1 := NewSl.keep no1 t2 (fun i hi => by
      have := mA.next
      have : i = mi := hi
      omega)
    have mo2 := mo1.trans' t2 (fun _ _ k => k) (fun _ _ k => k)
    obtain ⟨y1, y2, y3⟩ := app1 no1 mo2 [i64 x.1] rfl
    refine ⟨_, _, y1, y2, by rw [show (T.at_ 3).bytes = 8 from rfl]; omega, by omega, fun po2 hY hs hm hf => ?_⟩
    obtain ⟨no2, mo3, my⟩ := y3 po2 hY hs hm hf
    obtain ⟨na2, dis2'⟩ := app1d na1 (fun i a b => dis i b a) my hf
    have dis2 : ∀ i, inSl pa i → inSl po2 i → False := fun i a b => dis2' i b a
    have st3 := t1.get my (fun k => by
      obtain ⟨o, k⟩ := k
      have := no1.2 g o k
      have := mA.next
      omega) (fun k => by
      obtain ⟨o, k⟩ := k
      have := no1.2 mi o k
      have := mA.next
      omega)
    have e6 : ints .i64 (ovS R now (S.take j)) ++ [i64 x.1] = ints .i64 (ovS R now (S.take (j + 1))) := by rw [eo, ints_append]; rfl
    have e7 : (ovS R now (S.take j)).length + 1 = (ovS R now (S.take (j + 1))).length := by rw [eo]; simp
    rw [e6, e7] at no2
    rw [ea] at na2
    conv => whnf
    rw [e7, ea]
    exact ⟨_, Forget.cons rfl (Forget.cons rfl (Forget.cons rfl (Forget.cons rfl (Forget.cons rfl (Forget.cons rfl (Forget.cons rfl (Forget.nil _))))))), ⟨j + 1, _, pa, po2, hd, succ_i64 hd (by omega), na2, no2, dis2, st3, mo3, rfl⟩, mu_lt hd (by omega)⟩
end Go.Proofs.Ytpefdmidfllhoaa
