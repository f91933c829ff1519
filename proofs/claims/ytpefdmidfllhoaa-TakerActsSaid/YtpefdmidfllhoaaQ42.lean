/- Takers: what is taken. -/
import Derived.Test.YtpefdmidfllhoaaQ41
set_option linter.unusedVariables false
namespace Go.Proofs.Ytpefdmidfllhoaa
open Go Go.Ab
def mayT (W N seq : Int) (S : Ent) : Bool := decide (N ≤ seq) && decide (seq < N + W) && (sget S seq).isNone
def TakeQ (h : H) (g mi : Nat) (W N : Int) (S : Ent) (seq : Int) (body : List Int) (r : V) (h' : H) : Prop :=
  (mayT W N seq S = false ∧ r = .tup [.sl none 0, .bool false] ∧ TkSt h' g mi W N S ∧ Ab.Mod (two g mi) h h') ∨
  (mayT W N seq S = true ∧ ∃ p' q G N' S', chn N (insS S seq (p', body)) = (G, N', S') ∧ r = .tup [.sl q G.length, .bool true] ∧ NewSl h h' q G.length 1 (G.flatMap slC) ∧ (∀ x ∈ G, bOk h' x) ∧ TkSt h' g mi W N' S' ∧ Ab.Mod (two g mi) h h')
theorem insS_ent {h : H} {S : Ent} (he : ∀ x ∈ S, bOk h x.2) {b : Bd} (hb : bOk h b) (seq : Int) : ∀ x ∈ insS S seq b, bOk h x.2 := fun x hx => by
  rw [insS, List.mem_append, List.mem_cons] at hx
  rcases hx with hx | rfl | hx
  · exact he x (List.mem_filter.1 hx).1
  · exact hb
  · exact he x (List.mem_filter.1 hx).1
theorem insS_keys {β : Type} {S : List (Int × β)} {P : Int → Prop} (hS : ∀ k ∈ keys S, P k) {seq : Int} (hs : P seq) (b : β) : ∀ k ∈ keys (insS S seq b), P k := fun k hk => by
  obtain ⟨x, hx, rfl⟩ := List.mem_map.1 hk
  rw [insS, List.mem_append, List.mem_cons] at hx
  rcases hx with hx | rfl | hx
  · exact hS _ (List.mem_map.2 ⟨x, (List.mem_filter.1 hx).1, rfl⟩)
  · exact hs
  · exact hS _ (List.mem_map.2 ⟨x, (List.mem_filter.1 hx).1, rfl⟩)
theorem insS_len {β : Type} (id : Int) (v : β) (S : List (Int × β)) : (insS S id v).length ≤ S.length + 1 := by
  have key : ∀ l : List (Int × β), (l.filter fun p => decide (p.1 < id)).length + (l.filter fun p => decide (id < p.1)).length ≤ l.length := by
    intro l
    induction l with
    | nil => simp
    | cons p l ih =>
      by_cases h1 : p.1 < id
      · rw [List.filter_cons_of_pos (by simpa using h1), List.filter_cons_of_neg (by simp; omega)]
        simp only [List.length_cons]
        omega
      · rw [List.filter_cons_of_neg (by simpa using h1)]
        by_cases h2 : id < p.1
        · rw [List.filter_cons_of_pos (by simpa using h2)]
          simp only [List.length_cons]
          omega
        · rw [List.filter_cons_of_neg (by simpa using h2)]
          simp only [List.length_cons]
          omega
  rw [insS, List.length_append, List.length_cons]
  exact Nat.succ_le_succ (key S)
theorem sl_flat (G : List Bd) : (G.flatMap slC).length = G.length := by
  have := flat_length slC_len G
  omega
set_option maxHeartbeats 1000000 in
theorem take29 {h : H} {g mi : Nat} {W N : Int} {S : Ent} (s : TkSt h g mi W N S) (ok : okW W = true) (hK : ∀ k ∈ keys S, N < k) (hN0 : 0 ≤ N) (hN1 : N ≤ 1000000) (hS : S.length ≤ 1000) {seq : Int} (hs : inI seq) {q : Option (Nat × Nat)} {m : Nat} {body : List Int} (nm : SlIs h q m false 1 (ints .u8 body)) (hm : m ≤ 100000) :
    ACalls Try.prog 29 [.ptr (some (g, 0)), i64 seq, .sl q m] h (TakeQ h g mi W N S seq body) := by
  have hW : 1 ≤ W ∧ W ≤ 16 := by simpa [okW] using ok
  have hl := slo_len nm
  have hlt := s.lt
  have hsb : seq ≤ 9223372036854775807 := by
    have := hs.2
    simp [IntKind.max, IntKind.signed, IntKind.bits] at this
    exact this
  refine call_ Try.func29 rfl rfl (by kernel_rfl) ?_
  conv => whnf
  refine ⟨[0, 1, 2, 3, 4, 5, 6, 7, 8, 9, 10, 11, 12, 13, 14, 15, 16, 17, 18, 19, 20, 21, 22], [0, 1, 3, 7, 7, 23, 55, 119, 255, 511, 1023, 2047, 2047, 6143, 14335, 30719, 65535, 2047, 133119, 395263, 919551, 2097151, 4194303], by kernel_rfl, ?_⟩
  conv => whnf
  refine ⟨_, Cell.mk s.box rfl, ?_⟩
  conv => whnf
  have no : mayT W N seq S = false → TakeQ h g mi W N S seq body (.tup [.sl none 0, .bool false]) h := fun hn => .inl ⟨hn, rfl, s, ⟨Nat.le_refl _, fun _ _ _ => rfl⟩⟩
  refine br_mk (fun ha => ?_) (fun ha => ?_)
  · conv => whnf
    have ha : seq < N := by simpa using ha
    exact no (by rw [mayT, decide_eq_false (by omega)]; rfl)
  conv => whnf
  have ha : ¬ seq < N := by simpa using ha
  refine ⟨_, Cell.mk s.box rfl, ?_⟩
  conv => whnf
  refine ⟨_, Cell.mk s.box rfl, ?_⟩
  conv => whnf
  have hsub : IntKind.i64.wrap (seq - N) = seq - N := wrap_i64 (by omega) (by omega)
  rw [hsub]
  refine br_mk (fun hb => ?_) (fun hb => ?_)
  · conv => whnf
    have hb : seq - N ≥ W := by simpa using hb
    exact no (by rw [mayT, decide_eq_false (show ¬ seq < N + W by omega), Bool.and_false, Bool.false_and])
  conv => whnf
  have hb : ¬ seq - N ≥ W := by simpa using hb
  refine ⟨_, Cell.mk s.box rfl, ?_⟩
  conv => whnf
  obtain ⟨ms, k1, k2⟩ := s.map
  have e1 : mget (encM slV ms) seq = (sget S seq).map slV := by rw [mget_enc, k2.2]
  refine ⟨true, encM slV ms, k1, ?_⟩
  rw [e1]
  cases hz : sget S seq with
  | some v =>
    conv => whnf
    refine ⟨_, rfl, ?_⟩
    conv => whnf
    refine ⟨_, rfl, ?_⟩
    conv => whnf
    exact no (by rw [mayT, hz]; simp)
  | none =>
  conv => whnf
  refine ⟨_, rfl, ?_⟩
  conv => whnf
  refine ⟨_, rfl, ?_⟩
  conv => whnf
  have may : mayT W N seq S = true := by
    rw [mayT, hz, decide_eq_true (show N ≤ seq by omega), decide_eq_true (show seq < N + W by omega)]
    rfl
  refine ⟨[0, 1, 2, 3, 4, 5, 6, 7], [0, 1, 3, 7, 0, 0, 32, 127], by kernel_rfl, ?_⟩
  conv => whnf
  refine ⟨_, Cell.mk s.box rfl, ?_⟩
  conv => whnf
  refine (clone63 nm (by omega)).mono ?_
  rintro _ h1 ⟨p', rfl, rb, m1⟩
  have s1 := s.old m1
  rw [hl] at rb
  rw [hl]
  conv => whnf
  refine ⟨⟨_, Cell.mk s1.box rfl, rfl⟩, ?_⟩
  conv => whnf
  have k1' := m1.get k1 (.inl (fun k => k))
  refine ⟨encM slV ms, k1', ?_⟩
  conv => whnf
  have em := mput_enc slV seq (p', body) ms
  obtain ⟨t1, t2⟩ := s1.turn (k2.put seq (p', body) (insS_get s.asc seq (p', body))) (insS_asc s.asc seq (p', body)) (insS_ent s1.ent (b := (p', body)) rb seq)
  rw [← em] at t1 t2
  have hkS : ∀ k ∈ keys (insS S seq (p', body)), N ≤ k := insS_keys (fun k hk => by have := hK k hk; omega) (by omega) _
  have hlen := insS_len seq (p', body) S
  have mA : Ab.Mod (two g mi) h _ := m1.trans' t2 (S2 := two g mi) (fun _ _ k => k.elim) (fun _ _ k => .inr k)
  obtain ⟨S1, hS1⟩ : ∃ S1, S1 = insS S seq (p', body) := ⟨_, rfl⟩
  rw [← hS1] at t1 hkS hlen
  refine ⟨fun env hh => ∃ (N' : Int) (G : List Bd) (S' : Ent) (qg : Option (Nat × Nat)), chn N S1 = (G ++ (chn N' S').1, (chn N' S').2) ∧ (∀ k ∈ keys S', N' ≤ k) ∧ N' = N + G.length ∧ G.length + S'.length ≤ S1.length ∧ NewSl h hh qg G.length 1 (G.flatMap slC) ∧ (∀ x ∈ G, bOk hh x) ∧ TkSt hh g mi W N' S' ∧ Ab.Mod (two g mi) h hh ∧ env = [(6, .sl qg G.length), (0, .ptr (some (g, 0)))],
    fun env _ => match get env 6 with
      | .sl _ n => S1.length - n
      | _ => 0, ⟨_, Forget.cons rfl (Forget.cons rfl (Forget.nil _)), N, [], S1, none, rfl, hkS, by simp, by simp, NewSl.nil _ _ _, (fun x hx => by cases hx), t1, mA, rfl⟩, ?_⟩
  clear t1 t2 mA s1 m1 rb k1' em
  rintro _ hh ⟨N', G, S', qg, hch, hk', hN', hGS, ng, hG, st, mo, rfl⟩
  conv => whnf
  refine ⟨[0, 1, 2, 3, 4, 5, 6, 7, 8, 9, 10, 11, 12, 13], [0, 1, 3, 7, 0, 16, 48, 112, 255, 511, 1023, 1023, 2047, 8191], by kernel_rfl, ?_⟩
  conv => whnf
  refine ⟨_, Cell.mk st.box rfl, ?_⟩
  conv => whnf
  refine ⟨_, Cell.mk st.box rfl, ?_⟩
  conv => whnf
  obtain ⟨ms2, l1, l2⟩ := st.map
  have e2 : mget (encM slV ms2) N' = (sget S' N').map slV := by rw [mget_enc, l2.2]
  refine ⟨true, encM slV ms2, l1, ?_⟩
  rw [e2]
  cases hz2 : sget S' N' with
  | none =>
    conv => whnf
    refine ⟨_, rfl, ?_⟩
    conv => whnf
    refine ⟨_, rfl, ?_⟩
    conv => whnf
    rw [head_no hz2, List.append_nil] at hch
    rw [hS1] at hch
    exact .inr ⟨may, p', qg, G, N', S', hch, rfl, ng, hG, st, mo⟩
  | some v =>
    obtain ⟨R, hR⟩ := head_yes st.asc hk' hz2
    conv => whnf
    refine ⟨_, rfl, ?_⟩
    conv => whnf
    refine ⟨_, rfl, ?_⟩
    conv => whnf
    refine ⟨[0, 1, 2, 3, 4, 5, 6, 7, 8], [0, 1, 3, 7, 0, 16, 48, 112, 255], by kernel_rfl, ?_⟩
    conv => whnf
    refine ⟨_, Cell.mk st.box rfl, ?_⟩
    conv => whnf
    refine ⟨_, Cell.mk st.box rfl, ?_⟩
    conv => whnf
    refine ⟨encM slV ms2, l1, ?_⟩
    conv => whnf
    have em := mdel_enc slV N' ms2
    have hascR : AscS ([] ++ (N', v) :: R) := by
      have := st.asc
      rw [hR] at this
      exact this
    have hdel : ∀ k, sget R k = if k = N' then none else sget S' k := fun k => by
      rw [hR]
      exact sget_del (A := []) hascR k
    obtain ⟨t1, t2⟩ := st.turn (l2.del N' hdel) (asc_del (A := []) hascR) (fun x hx => st.ent x (by rw [hR]; exact List.mem_cons_of_mem _ hx))
    rw [← em] at t1 t2
    have kp : ∀ i, one mi i → i < h.next := fun i hi => by
      have : i = mi := hi
      omega
    have kg : ∀ i, one g i → i < h.next := fun i hi => by
      have : i = g := hi
      omega
    have ng1 := NewSl.keep ng t2 kp
    have hG1 : ∀ x ∈ G, bOk _ x := fun x hx => (hG x hx).get t2
    have hv1 := (st.ent (N', v) (by rw [hR]; exact List.mem_cons_self)).get t2
    have mo1 := mo.trans' t2 (S2 := two g mi) (fun _ _ k => k) (fun _ _ k => .inr k)
    have hgl : (G.flatMap slC).length = G.length := sl_flat G
    obtain ⟨y1, y2, y3⟩ := app1 ng1 mo1 (slC v) rfl
    refine ⟨_, _, y1, y2, by rw [show (T.at_ 33).bytes = 24 from rfl]; omega, by omega, fun pG hY hs2 hm2 hf2 => ?_⟩
    obtain ⟨ng2, mo2, my⟩ := y3 pG hY hs2 hm2 hf2
    have st2 := t1.get my (fun k => by
      obtain ⟨o, k⟩ := k
      have := ng1.2 g o k
      omega) (fun k => by
      obtain ⟨o, k⟩ := k
      have := ng1.2 mi o k
      omega)
    have hG2 : ∀ x ∈ G ++ [v], bOk hY x := fun x hx => by
      rcases List.mem_append.1 hx with hx | hx
      · exact (hG1 x hx).get my
      · obtain rfl : x = v := by simpa using hx
        exact hv1.get my
    have e6 : G.flatMap slC ++ slC v = (G ++ [v]).flatMap slC := by rw [List.flatMap_append]; simp
    have e7 : G.length + 1 = (G ++ [v]).length := by simp
    rw [e6, e7] at ng2
    conv => whnf
    rw [e7]
    refine ⟨_, Cell.mk st2.box rfl, ?_⟩
    conv => whnf
    have hSR : S'.length = R.length + 1 := by rw [hR]; rfl
    have hwr : IntKind.i64.wrap (N' + 1) = N' + 1 := wrap_i64 (by omega) (by omega)
    rw [hwr]
    refine ⟨_, _, st2.box, Nat.le_of_ble_eq_true rfl, ?_⟩
    conv => whnf
    obtain ⟨u1, u2⟩ := st2.next (N' + 1)
    refine ⟨_, Forget.cons rfl (Forget.cons rfl (Forget.nil _)), ⟨N' + 1, G ++ [v], R, pG, ?_, ?_, by omega, by omega, NewSl.keep ng2 u2 kg, fun x hx => (hG2 x hx).get u2, u1, mo2.trans' u2 (S2 := two g mi) (fun _ _ k => k) (fun _ _ k => .inl k), rfl⟩, ?_⟩
    · rw [hch, hR, chn_yes]
      simp
    · intro k hk
      have ha2 := st.asc
      rw [hR, AscS, keys, List.map_cons, List.pairwise_cons] at ha2
      have := ha2.1 k hk
      have : N' < k := this
      omega
    · show S1.length - (G ++ [v]).length < S1.length - G.length
      omega
end Go.Proofs.Ytpefdmidfllhoaa
