/- U6: texts of another seat, turned to this one. -/
import Derived.Test.YtoljllfbabahpaaU5
set_option linter.unusedVariables false
set_option linter.unusedSimpArgs false
namespace Go.Proofs.Ytoljllfbabahpaa
open Go Go.Ab Go.Shelf
theorem dis_comm {a b : Option (Nat × Nat)} (d : ∀ i, inSl a i → inSl b i → False) : ∀ i, inSl b i → inSl a i → False := fun i x y => d i y x
theorem new0 {S : Nat → Prop} {h0 hh : H} (sz : Nat) (mo : Ab.Mod S h0 hh) : NewSl h0 (hh.push (.row true sz [])) (some (hh.next, 0)) 0 sz [] ∧ Ab.Mod S h0 (hh.push (.row true sz [])) :=
  ⟨⟨⟨by simp, .inr ⟨_, 0, true, [], rfl, H.obj_push_new _ _, fun e => e, by simp, by simp⟩⟩, fun i o e => by
    injection e with e
    injection e with e _
    rw [← e]
    exact mo.next⟩, mo.trans' (Mod.push none_ hh _) (fun _ _ k => k) (fun _ _ k => k.elim)⟩
theorem new0d {S : Nat → Prop} {h0 hh : H} (sz : Nat) {b : Option (Nat × Nat)} {k szb : Nat} {ys : List V} (nb : NewSl h0 hh b k szb ys) (mo : Ab.Mod S h0 hh) :
    NewSl h0 (hh.push (.row true sz [])) (some (hh.next, 0)) 0 sz [] ∧ NewSl h0 (hh.push (.row true sz [])) b k szb ys ∧ (∀ i, inSl (some (hh.next, 0)) i → inSl b i → False) ∧ Ab.Mod S h0 (hh.push (.row true sz [])) := by
  obtain ⟨x, y⟩ := new0 sz mo
  refine ⟨x, NewSl.kept nb (Mod.push none_ hh _), fun i a b => ?_, y⟩
  obtain ⟨o, a⟩ := a
  injection a with a
  injection a with a _
  have := SlIs.own_lt nb.1 b
  omega
theorem pushD {h0 hh : H} (ob : Ab.Obj) {a b : Option (Nat × Nat)} {ka sa kb sb : Nat} {xs ys : List V} (na : NewSl h0 hh a ka sa xs) (nb : NewSl h0 hh b kb sb ys) (mo : Ab.Mod none_ h0 hh) :
    NewSl h0 (hh.push ob) a ka sa xs ∧ NewSl h0 (hh.push ob) b kb sb ys ∧ Ab.Mod none_ h0 (hh.push ob) :=
  ⟨NewSl.kept na (Mod.push none_ hh _), NewSl.kept nb (Mod.push none_ hh _), mod_none mo (Mod.push none_ hh _)⟩
theorem appD {S : Nat → Prop} {h0 hh h' : H} {a a' b : Option (Nat × Nat)} {k l sz kb sb : Nat} {xs zs ys : List V} (na : NewSl h0 hh a k sz xs) (nb : NewSl h0 hh b kb sb ys) (dis : ∀ i, inSl a i → inSl b i → False) (mo : Ab.Mod S h0 hh)
    (hs : SlIs h' a' (k + l) true sz (xs ++ zs)) (hm : Ab.Mod (inSl a) hh h') (hf : isFresh hh a a') :
    NewSl h0 h' a' (k + l) sz (xs ++ zs) ∧ NewSl h0 h' b kb sb ys ∧ (∀ i, inSl a' i → inSl b i → False) ∧ Ab.Mod S h0 h' := by
  refine ⟨NewSl.app na hs hf mo.next, ⟨nb.1.get hm (fun i o e => .inl (fun x => dis i x ⟨o, e⟩)), nb.2⟩, fun i x y => ?_, NewSl.mod na mo hm⟩
  obtain ⟨o, x⟩ := x
  rcases hf i o x with q | q
  · exact dis i ⟨o, by rw [← q, x]⟩ y
  · have := SlIs.own_lt nb.1 y
    omega
/-- new and one's own, or written by nobody any more -/
def NR (h0 h : H) (p : Option (Nat × Nat)) (n sz : Nat) (xs : List V) : Prop := NewSl h0 h p n sz xs ∨ RoSl h p n sz xs
theorem NR.ro {h0 h : H} {p : Option (Nat × Nat)} {n sz : Nat} {xs : List V} (s : NR h0 h p n sz xs) (i : Nat) : NR h0 (h.ro i) p n sz xs := by
  rcases s with ⟨⟨h1, h2⟩, h3⟩ | s
  · rcases h2 with h2 | ⟨j, o, o', r, e1, e2, e3, e4, e5⟩
    · exact .inl ⟨⟨h1, .inl h2⟩, h3⟩
    · by_cases e : j = i
      · subst e
        exact .inr ⟨h1, .inr ⟨j, o, r, e1, H.ro_same e2, e4, e5⟩⟩
      · exact .inl ⟨⟨h1, .inr ⟨j, o, o', r, e1, by rw [H.ro_ne _ e, e2], e3, e4, e5⟩⟩, h3⟩
  · exact .inr (s.ro i)
theorem NR.freeze {S : Nat → Prop} {h0 h : H} {p : Option (Nat × Nat)} {n sz : Nat} {cs : List V} (s : NR h0 h p n sz cs) (m : Ab.Mod S h0 h) : ∃ i, h0.next ≤ i ∧ RoSl (h.ro i) p n sz cs ∧ Ab.Mod S h0 (h.ro i) := by
  rcases s with s | s
  · exact s.freeze m
  · exact ⟨h.next, m.next, s.ro _, m.ro_new m.next⟩
theorem slp_slp (p : Option (Nat × Nat)) (a b : Nat) : slp (slp p a) b = slp p (a + b) := by
  cases p with
  | none => rfl
  | some x => simp [slp, Nat.add_assoc]
theorem slp_zero (p : Option (Nat × Nat)) : slp p 0 = p := by cases p <;> rfl
/-- an element put in its place -/
theorem ins_atE {β : Type} {S : List (Int × β)} (ha : AscS S) {id : Int} (hne : ∀ p ∈ S, p.1 ≠ id) (v : β) {n : Nat} (hn : n ≤ S.length) (h1 : ∀ k (hk : k < S.length), k < n → S[k].1 < id) (h2 : n = S.length ∨ ∃ hk : n < S.length, ¬ S[n].1 < id) :
    S.take n ++ (id, v) :: S.drop n = insS S id v := by
  have hasc : AscS (S.take n ++ (id, v) :: S.drop n) := by
    rw [AscS, keys_append, List.pairwise_append]
    refine ⟨List.Pairwise.sublist (List.Sublist.map _ (List.take_sublist _ _)) ha, ?_, fun a ha2 b hb => ?_⟩
    · show (id :: keys _).Pairwise _
      rw [List.pairwise_cons]
      refine ⟨fun b hb => ?_, List.Pairwise.sublist (List.Sublist.map _ (List.drop_sublist _ _)) ha⟩
      obtain ⟨p, hp, rfl⟩ := List.mem_map.1 hb
      rcases h2 with rfl | ⟨hk, h2⟩
      · simp at hp
      · rw [List.drop_eq_getElem_cons hk, List.mem_cons] at hp
        have h3 := hne _ (List.getElem_mem hk)
        rcases hp with rfl | hp
        · omega
        · have hD2 := ha
          rw [← List.take_append_drop n S, List.drop_eq_getElem_cons hk] at hD2
          have := (asc_mid hD2).2 p hp
          omega
    · obtain ⟨p, hp, rfl⟩ := List.mem_map.1 ha2
      have hpl : p.1 < id := by
        obtain ⟨k, hk, rfl⟩ := List.getElem_of_mem hp
        rw [List.length_take] at hk
        rw [List.getElem_take]
        exact h1 k (by omega) (by omega)
      obtain ⟨q, hq, rfl⟩ := List.mem_map.1 hb
      rcases List.mem_cons.1 hq with rfl | hq
      · exact hpl
      · have hD2 := ha
        rw [← List.take_append_drop n S, AscS, keys_append, List.pairwise_append] at hD2
        exact hD2.2.2 _ (List.mem_map.2 ⟨p, hp, rfl⟩) _ (List.mem_map.2 ⟨q, hq, rfl⟩)
  refine asc_get_ext hasc (insS_asc ha id v) (fun k => ?_)
  rw [insS_get ha]
  by_cases e : k = id
  · rw [if_pos e, e]
    exact sget_mid hasc
  · rw [if_neg e]
    have := sget_del hasc k
    rw [if_neg e, List.take_append_drop] at this
    exact this.symm
def eC (x : Int × Bd) : List V := [i64 x.1, slV x.2]
theorem eC_len (x : Int × Bd) : (eC x).length = 2 := rfl
structure RTk (h : H) (g : Nat) (W N : Int) (S : Ent) : Prop where
  box : ∃ p, h.obj g = some (.row true 3 [i64 W, i64 N, .sl p S.length]) ∧ RoSl h p S.length 2 (S.flatMap eC)
  ent : ∀ x ∈ S, bOk h x.2
theorem RTk.get {Z : Nat → Prop} {h h' : H} {g : Nat} {W N : Int} {S : Ent} (s : RTk h g W N S) (m : Ab.Mod Z h h') (hg : ¬ Z g) : RTk h' g W N S := by
  obtain ⟨⟨p, h1, h2⟩, h3⟩ := s
  exact ⟨⟨p, m.get h1 (.inl hg), h2.get m⟩, fun x hx => (h3 x hx).get m⟩
theorem RTk.lt {h : H} {g : Nat} {W N : Int} {S : Ent} (s : RTk h g W N S) : g < h.next := by
  obtain ⟨⟨p, h1, h2⟩, _⟩ := s
  exact h.lt _ _ h1
theorem okW_inR (W : Int) : okW W = inR W 1 16 := rfl
def NewRT (W : Int) (h : H) (r : V) (h' : H) : Prop :=
  (okW W = false ∧ r = .ptr none ∧ h' = h) ∨ (okW W = true ∧ ∃ g, r = .ptr (some (g, 0)) ∧ RTk h' g W 0 [] ∧ h.next ≤ g ∧ Ab.Mod none_ h h')
theorem new28 (h : H) (W : Int) : ACalls Try.prog 89 [i64 W] h (fun r h' => NewRT W h r h') := by
  refine call_ Try.func89 rfl rfl (by kernel_rfl) ?_
  conv => whnf
  refine (within68 h W 1 16).mono ?_
  rintro _ h1 ⟨eh, rfl⟩
  subst eh
  conv => whnf
  refine br_mk (fun ha => ?_) (fun ha => ?_)
  · conv => whnf
    have ha : inR W 1 16 = false := by simpa using ha
    exact .inl ⟨ha, rfl, rfl⟩
  conv => whnf
  have ha : inR W 1 16 = true := by simpa using ha
  exact .inr ⟨ha, _, rfl, ⟨⟨none, H.obj_push_new _ _, RoSl.nil _ _ _⟩, fun x hx => by cases hx⟩, Nat.le_refl _, Mod.push none_ _ _⟩
def TakeR (h : H) (g : Nat) (W N : Int) (S : Ent) (seq : Int) (m : Nat) (body : List Int) (r : V) (h' : H) : Prop :=
  (mayT W N seq S = false ∧ r = .tup [.sl none 0, .bool false] ∧ h' = h) ∨
  (mayT W N seq S = true ∧ ∃ pb pC q k X, X = insS S seq (pb, body) ∧ k ≤ X.length ∧ chn N X = ((X.take k).map Prod.snd, N + (k : Int), X.drop k) ∧ r = .tup [.sl q k, .bool true] ∧
    h'.obj g = some (.row true 3 [i64 W, i64 (N + (k : Int)), .sl (slp pC (k * 2)) (X.length - k)]) ∧ NewSl h h' pC X.length 2 (X.flatMap eC) ∧ NewSl h h' pb m 1 (ints .u8 body) ∧ NewSl h h' q k 1 ((X.take k).flatMap fun x => slC x.2) ∧ Ab.Mod (one g) h h')
theorem chn_step {β : Type} {N : Int} {X : List (Int × β)} {k : Nat} (hk : k < X.length) (e : X[k].1 = N + (k : Int)) : chn (N + (k : Int)) (X.drop k) = (X[k].2 :: (chn (N + ((k + 1 : Nat) : Int)) (X.drop (k + 1))).1, (chn (N + ((k + 1 : Nat) : Int)) (X.drop (k + 1))).2) := by
  rw [List.drop_eq_getElem_cons hk, chn, if_pos e, show N + (k : Int) + 1 = N + ((k + 1 : Nat) : Int) by omega]
theorem chn_stop {β : Type} {N : Int} {X : List (Int × β)} {k : Nat} (h : k = X.length ∨ ∃ hk : k < X.length, X[k].1 ≠ N + (k : Int)) (hk : k ≤ X.length) : chn (N + (k : Int)) (X.drop k) = ([], N + (k : Int), X.drop k) := by
  rcases h with rfl | ⟨hk, e⟩
  · rw [List.drop_length]
    rfl
  · rw [List.drop_eq_getElem_cons hk, chn, if_neg e]
theorem sub_is {h : H} {p : Option (Nat × Nat)} {own : Bool} {X : Ent} (s : SlIs h p X.length own 2 (X.flatMap eC)) {k : Nat} (hk : k ≤ X.length) : SlIs h (slp p (k * 2)) (X.length - k) false 2 ((X.drop k).flatMap eC) := by
  have := SlIs.cut s.weak hk (Nat.le_refl X.length)
  rw [flat_drop eC_len X hk, List.take_of_length_le (by rw [flat_length eC_len, List.length_drop]; exact Nat.le_refl _)] at this
  exact this
set_option maxHeartbeats 4000000 in
theorem take30 {h : H} {g : Nat} {W N : Int} {S : Ent} (s : RTk h g W N S) (ha : AscS S) (ok : okW W = true) (hN0 : 0 ≤ N) (hN1 : N ≤ 1000000) (hS : S.length ≤ 1000) {seq : Int} (hs : inI seq) {q : Option (Nat × Nat)} {m : Nat} {body : List Int} (nm : SlIs h q m false 1 (ints .u8 body)) (hm : m ≤ 100000) :
    ACalls Try.prog 91 [.ptr (some (g, 0)), i64 seq, .sl q m] h (TakeR h g W N S seq m body) := by
  have hW : 1 ≤ W ∧ W ≤ 16 := by simpa [okW] using ok
  have hml := slo_len nm
  have hg := s.lt
  have hsb : seq ≤ 9223372036854775807 := by
    have := hs.2
    simp [IntKind.max, IntKind.signed, IntKind.bits] at this
    exact this
  obtain ⟨⟨p, hb, hr⟩, hent⟩ := s
  refine call_ Try.func91 rfl rfl (by kernel_rfl) ?_
  conv => whnf
  refine ⟨[0, 1, 2, 3, 4, 5, 6, 7, 8, 9, 10, 11, 12, 13, 14, 15, 16, 17, 18], [0, 0, 2, 6, 14, 31, 63, 127, 127, 383, 895, 1919, 4095, 127, 8319, 24703, 57471, 131071, 262143], by kernel_rfl, ?_⟩
  conv => whnf
  refine ⟨_, Cell.mk hb rfl, ?_⟩
  conv => whnf
  have no : mayT W N seq S = false → TakeR h g W N S seq m body (.tup [.sl none 0, .bool false]) h := fun hn => .inl ⟨hn, rfl, rfl⟩
  refine br_mk (fun hc => ?_) (fun hc => ?_)
  · conv => whnf
    have hc : seq < N := by simpa using hc
    exact no (by rw [mayT, decide_eq_false (by omega)]; rfl)
  conv => whnf
  have hc : ¬ seq < N := by simpa using hc
  refine ⟨_, Cell.mk hb rfl, ?_⟩
  conv => whnf
  refine ⟨_, Cell.mk hb rfl, ?_⟩
  conv => whnf
  have hsub : IntKind.i64.wrap (seq - N) = seq - N := wrap_i64 (by omega) (by omega)
  rw [hsub]
  refine br_mk (fun hd => ?_) (fun hd => ?_)
  · conv => whnf
    have hd : seq - N ≥ W := by simpa using hd
    exact no (by rw [mayT, decide_eq_false (show ¬ seq < N + W by omega), Bool.and_false, Bool.false_and])
  conv => whnf
  have hd : ¬ seq - N ≥ W := by simpa using hd
  have may : sget S seq = none → mayT W N seq S = true := fun hz => by
    rw [mayT, hz, decide_eq_true (show N ≤ seq by omega), decide_eq_true (show seq < N + W by omega)]
    rfl
  clear hc hd
  refine ⟨fun env hh => ∃ (j : Nat) (z : Int), j ≤ S.length ∧ z = j ∧ hh = h ∧ (∀ k (hk : k < S.length), k < j → S[k].1 < seq) ∧ env = [(8, i64 z), (0, .ptr (some (g, 0))), (1, i64 seq), (2, .sl q m)],
    fun env _ => match get env 8 with
      | .int _ z => (S.length - z).toNat
      | _ => 0, ⟨_, Forget.cons rfl (Forget.cons rfl (Forget.cons rfl (Forget.cons rfl (Forget.nil _)))), 0, _, Nat.zero_le _, rfl, rfl, fun k _ hk => absurd hk (Nat.not_lt_zero k), rfl⟩, ?_⟩
  rintro _ hh ⟨j, z, hj, rfl, eh, hall, rfl⟩
  subst eh
  conv => whnf
  refine ⟨_, Cell.mk hb rfl, ?_⟩
  conv => whnf
  refine br_mk (fun hd => ?_) (fun hd => ?_)
  · conv => whnf
    have hd : j < S.length := by simpa using hd
    obtain ⟨i1, c1, f1, f2, f3⟩ := sls_get eC_len hr.is rfl hd
    have k0 := f3 0 (i64 S[j].1) rfl
    refine ⟨_, Cell.mk hb rfl, ?_⟩
    conv => whnf
    refine ⟨i1, c1, j, f1, rfl, hd, ?_⟩
    conv => whnf
    refine ⟨_, k0, ?_⟩
    conv => whnf
    refine br_mk (fun hx => ?_) (fun hx => ?_)
    · conv => whnf
      have hx : S[j].1 < seq := by simpa using hx
      refine ⟨_, Forget.cons rfl (Forget.cons rfl (Forget.cons rfl (Forget.cons rfl (Forget.nil _)))), ⟨j + 1, _, hd, succ_i64 hd (by omega), rfl, fun k hk hkj => ?_, rfl⟩, mu_lt hd (by omega)⟩
      by_cases e : k = j
      · subst e; exact hx
      · exact hall k hk (by omega)
    · have hx : ¬ S[j].1 < seq := by simpa using hx
      conv => whnf
      refine ⟨_, Cell.mk hb rfl, ?_⟩
      conv => whnf
      refine br_mk (fun hd2 => ?_) (fun hd2 => ?_)
      rotate_left
      · have : ¬ (j : Int) < S.length := by simpa using hd2
        omega
      conv => whnf
      refine ⟨_, Cell.mk hb rfl, ?_⟩
      conv => whnf
      refine ⟨i1, c1, j, f1, rfl, hd, ?_⟩
      conv => whnf
      refine ⟨_, k0, ?_⟩
      conv => whnf
      refine br_mk (fun he => ?_) (fun he => ?_)
      · conv => whnf
        have he : S[j].1 = seq := by simpa using he
        have hz : sget S seq = some S[j].2 := by
          rw [← he]
          exact (sget_mem ha.nodup).2 (List.getElem_mem hd)
        exact no (by rw [mayT, hz]; simp)
      have he : ¬ S[j].1 = seq := by
        intro e
        rw [e] at he
        simp at he
      have hne : ∀ p ∈ S, p.1 ≠ seq := fun x hx2 => by
        obtain ⟨k, hk, rfl⟩ := List.getElem_of_mem hx2
        by_cases e1 : k < j
        · have := hall k hk e1
          omega
        · by_cases e2 : k = j
          · subst e2
            exact he
          · have := (List.pairwise_iff_getElem.1 ha) j k (by rw [keys_length]; exact hd) (by rw [keys_length]; exact hk) (by omega)
            simp only [keys, List.getElem_map] at this
            omega
      have hmay := may (sget_none.2 (fun k => by
        obtain ⟨x, hx2, e⟩ := List.mem_map.1 k
        exact hne x hx2 e))
      have efin := fun v => ins_atE ha hne v hj hall (.inr ⟨hd, hx⟩)
      conv => whnf
      refine ⟨[], [1, 10], rfl, ?_, ?_⟩
      · conv => whnf
        refine ⟨[], [8, 10], rfl, ?_, ?_⟩
        · conv => whnf
          refine ⟨[0, 2, 3, 4, 5, 6, 7, 9, 11, 16, 17, 18, 19, 20, 21, 1, 8, 10, 12, 13, 14, 15, 22, 23, 24, 25], [0, 0, 0, 4, 12, 28, 0, 124, 254, 0, 510, 0, 3582, 8190, 16382, 32766, 0, 65536, 196608, 458752, 0, 2031616, 4194302, 8388607, 16777215, 33554431], by kernel_rfl, ?_⟩
          conv => whnf
          refine ⟨_, Cell.mk hb rfl, ?_⟩
          conv => whnf
          refine ⟨⟨_, hr.is⟩, j, rfl, Nat.zero_le _, hj, ?_⟩
          conv => whnf
          refine ⟨_, Cell.mk hb rfl, ?_⟩
          conv => whnf
          refine ⟨⟨_, hr.is⟩, j, rfl, hj, Nat.le_refl _, ?_⟩
          conv => whnf
          have rt := ro_take eC_len hr hj
          have rd := ro_drop eC_len hr hj
          have mo := mod_refl none_ hh
          obtain ⟨nA, mo⟩ := new0 2 mo
          refine ⟨_, _, nA.1, (rt.get mo).is, by rw [show (T.at_ 177).bytes = 32 from rfl]; omega, by omega, fun pA hA hs hm hf => ?_⟩
          obtain ⟨nA, mo⟩ := appN nA mo pA hA hs hm hf
          conv => whnf
          refine ⟨⟨⟨_, (hr.get mo).is⟩, j, rfl, hj, Nat.le_refl _, rfl⟩, ?_⟩
          conv => whnf
          refine ⟨⟨_, Cell.mk (mo.get hb (.inl (fun k => k))) rfl, rfl⟩, ?_⟩
          conv => whnf
          obtain ⟨nB, nA, dis, mo⟩ := new0d 1 nA mo
          have dis := dis_comm dis
          refine ⟨_, _, nB.1, SlIs.old nm mo (fun _ _ k => k), by rw [show (T.at_ 5).bytes = 1 from rfl]; omega, by omega, fun pB hB hs hm hf => ?_⟩
          obtain ⟨nB, nA, dis, mo⟩ := appD nB nA (dis_comm dis) mo hs hm hf
          have dis := dis_comm dis
          rw [Nat.zero_add, List.nil_append] at nB nA
          conv => whnf
          rw [show 0 + m = m from Nat.zero_add _]
          refine ⟨⟨⟨_, (hr.get mo).is⟩, j, rfl, hj, Nat.le_refl _, rfl⟩, ?_⟩
          conv => whnf
          refine ⟨⟨_, Cell.mk (mo.get hb (.inl (fun k => k))) rfl, rfl⟩, ?_⟩
          conv => whnf
          obtain ⟨nA, nB, mo⟩ := pushD (.row true 2 [i64 seq, .sl pB m]) nA nB mo
          rw [show 0 + (j - 0) = j - 0 from Nat.zero_add _]
          refine ⟨_, _, nA.1, (SlIs.row (n := 1) (sz := 2) (cs := [i64 seq, .sl pB m]) (H.obj_push_new _ _) rfl).weak, by rw [show (T.at_ 177).bytes = 32 from rfl]; omega, by omega, fun pC hC hs hm hf => ?_⟩
          obtain ⟨nA, nB, dis, mo⟩ := appD nA nB dis mo hs hm hf
          conv => whnf
          refine ⟨⟨⟨_, (hr.get mo).is⟩, j, rfl, hj, Nat.le_refl _, rfl⟩, ?_⟩
          conv => whnf
          refine ⟨⟨_, Cell.mk (mo.get hb (.inl (fun k => k))) rfl, rfl⟩, ?_⟩
          conv => whnf
          refine ⟨_, _, nA.1, (rd.get mo).is, by rw [show (T.at_ 177).bytes = 32 from rfl]; omega, by omega, fun pD hD hs hm hf => ?_⟩
          obtain ⟨nA, nB, dis, mo⟩ := appD nA nB dis mo hs hm hf
          conv => whnf
          refine ⟨_, _, mo.get hb (.inl (fun k => k)), Nat.le_of_ble_eq_true rfl, ?_⟩
          conv => whnf
          obtain ⟨X, hX⟩ : ∃ X, X = insS S seq (pB, body) := ⟨_, rfl⟩
          have el : j - 0 + 1 + (S.length - j) = X.length := by
            rw [hX, ← efin, List.length_append, List.length_cons, List.length_take, List.length_drop]
            omega
          have ef : (S.take j).flatMap eC ++ [i64 seq, .sl pB m] ++ (S.drop j).flatMap eC = X.flatMap eC := by
            rw [hX, ← efin, List.flatMap_append, List.flatMap_cons, List.append_assoc, hml]
            rfl
          rw [el, ef] at nA
          rw [el]
          have mS : Ab.Mod (one g) hD (hD.set g (.row true 3 [i64 W, i64 N, .sl pD X.length])) := Mod.set rfl (mo.get hb (.inl (fun k => k))) rfl
          have kg : ∀ i, one g i → i < hh.next := fun i hi => by
            have : i = g := hi
            omega
          have nA := NewSl.keep nA mS kg
          have nB := NewSl.keep nB mS kg
          have bx : (hD.set g (.row true 3 [i64 W, i64 N, .sl pD X.length])).obj g = some (.row true 3 [i64 W, i64 N, .sl pD X.length]) := H.obj_set_same (mo.get hb (.inl (fun k => k)))
          have mo : Ab.Mod (one g) hh (hD.set g (.row true 3 [i64 W, i64 N, .sl pD X.length])) := mo.trans' mS (fun _ _ k => k.elim) (fun _ _ k => k)
          have bx0 : (hD.set g (.row true 3 [i64 W, i64 N, .sl pD X.length])).obj g = some (.row true 3 [i64 W, i64 (N + ((0 : Nat) : Int)), .sl (slp pD (0 * 2)) (X.length - 0)]) := by
            rw [Nat.zero_mul, slp_zero, Nat.sub_zero, show N + ((0 : Nat) : Int) = N by omega]
            exact bx
          obtain ⟨h8, hh8⟩ : ∃ x, x = hD.set g (.row true 3 [i64 W, i64 N, .sl pD X.length]) := ⟨_, rfl⟩
          rw [← hh8] at nA nB bx mo
          have hXl : X.length ≤ 1001 := by
            rw [hX]
            have := insS_len seq (pB, body) S
            omega
          have hXN : ∀ x ∈ X, N ≤ x.1 → True := fun _ _ _ => trivial
          refine ⟨fun env hk => ∃ (k : Nat) (qq : Option (Nat × Nat)), k ≤ X.length ∧ chn N X = ((X.take k).map Prod.snd ++ (chn (N + (k : Int)) (X.drop k)).1, (chn (N + (k : Int)) (X.drop k)).2) ∧ hk.obj g = some (.row true 3 [i64 W, i64 (N + (k : Int)), .sl (slp pD (k * 2)) (X.length - k)]) ∧ NewSl h8 hk qq k 1 ((X.take k).flatMap fun x => slC x.2) ∧ Ab.Mod (one g) h8 hk ∧ env = [(9, .sl qq k), (0, .ptr (some (g, 0)))],
            fun env _ => match get env 9 with
              | .sl _ n => X.length - n
              | _ => 0, ⟨_, Forget.cons rfl (Forget.cons rfl (Forget.nil _)), 0, none, Nat.zero_le _, by simp, bx0, NewSl.nil _ _ _, by rw [hh8]; exact mod_refl _ _, rfl⟩, ?_⟩
          have hg8 : g < h8.next := h8.lt _ _ bx
          clear bx bx0 hh8
          rintro _ hk ⟨k, qq, hkX, hch, bx, nq, mk, rfl⟩
          conv => whnf
          refine ⟨[0, 1, 2, 3, 4, 5, 6, 7, 8, 9, 10, 11, 12, 13, 14, 15, 16, 17, 18, 19], [0, 1, 3, 7, 15, 31, 63, 127, 255, 511, 1023, 2047, 4095, 8191, 127, 16511, 49279, 114815, 262143, 524287], by kernel_rfl, ?_⟩
          conv => whnf
          refine ⟨_, Cell.mk bx rfl, ?_⟩
          conv => whnf
          have kg8 : ∀ i, one g i → i < h8.next := fun i hi => by
            have : i = g := hi
            omega
          have nA1 := NewSl.keep nA (S := one g) mk kg
          have nB1 := NewSl.keep nB (S := one g) mk kg
          have moK := mo.trans' mk (S2 := one g) (fun _ _ k => k) (fun _ _ k => k)
          have hsub := sub_is nA1.1 hkX
          have done : chn (N + (k : Int)) (X.drop k) = ([], N + (k : Int), X.drop k) → TakeR hh g W N S seq m body (.tup [.sl qq k, .bool true]) hk := fun e => by
            rw [e, List.append_nil] at hch
            exact .inr ⟨hmay, pB, pD, qq, k, X, hX, hkX, hch, rfl, bx, nA1, nB1, ⟨nq.1, fun i o e => Nat.le_trans mo.next (nq.2 i o e)⟩, moK⟩
          refine br_mk (fun hy => ?_) (fun hy => ?_)
          rotate_left
          · conv => whnf
            have hy : ¬ k < X.length := by
              have : ¬ ((X.length - k : Nat) : Int) > 0 := by simpa using hy
              omega
            exact done (chn_stop (.inl (by omega)) hkX)
          have hy : k < X.length := by
            have : ((X.length - k : Nat) : Int) > 0 := by simpa using hy
            omega
          conv => whnf
          refine ⟨_, Cell.mk bx rfl, ?_⟩
          conv => whnf
          have hdl : (X.drop k).length = X.length - k := List.length_drop
          have hd0 : 0 < (X.drop k).length := by omega
          have hX0 : (X.drop k)[0] = X[k] := by simp
          obtain ⟨i3, c3, w1, w2, w3⟩ := sls_get eC_len hsub hdl.symm hd0
          rw [hX0] at w3
          have v0 := w3 0 (i64 X[k].1) rfl
          have v1 := w3 1 (slV X[k].2) rfl
          refine ⟨i3, c3, 0, w1, rfl, by omega, ?_⟩
          conv => whnf
          refine ⟨_, v0, ?_⟩
          conv => whnf
          refine ⟨_, Cell.mk bx rfl, ?_⟩
          conv => whnf
          refine br_mk (fun hu => ?_) (fun hu => ?_)
          rotate_left
          · conv => whnf
            have hu : X[k].1 ≠ N + (k : Int) := by
              intro e
              rw [e] at hu
              simp at hu
            exact done (chn_stop (.inr ⟨hy, hu⟩) hkX)
          have hu : X[k].1 = N + (k : Int) := by simpa using hu
          conv => whnf
          refine ⟨_, Cell.mk bx rfl, ?_⟩
          conv => whnf
          refine ⟨i3, c3, 0, w1, rfl, by omega, ?_⟩
          conv => whnf
          refine ⟨_, v1, ?_⟩
          conv => whnf
          obtain ⟨y1, y2, y3⟩ := app1 nq mk (slC X[k].2) rfl
          refine ⟨_, _, y1, y2, by rw [show (T.at_ 33).bytes = 24 from rfl]; omega, by omega, fun pG hY hs2 hm2 hf2 => ?_⟩
          obtain ⟨nq2, mk2, my⟩ := y3 pG hY hs2 hm2 hf2
          have e6 : ((X.take k).flatMap fun x => slC x.2) ++ slC X[k].2 = (X.take (k + 1)).flatMap fun x => slC x.2 := by
            rw [List.take_succ_eq_append_getElem hy, List.flatMap_append]
            simp
          rw [e6] at nq2
          conv => whnf
          have bx2 := my.get bx (.inl (fun a => by
            obtain ⟨o, a⟩ := a
            have := nq.2 g o a
            omega))
          refine ⟨_, Cell.mk bx2 rfl, ?_⟩
          conv => whnf
          have hsub2 := sub_is (NewSl.keep nA (S := one g) mk2 kg).1 hkX
          refine ⟨⟨_, hsub2⟩, 1, rfl, by omega, Nat.le_refl _, ?_⟩
          conv => whnf
          refine ⟨_, _, bx2, Nat.le_of_ble_eq_true rfl, ?_⟩
          conv => whnf
          have bS1 : (hY.set g (.row true 3 [i64 W, i64 (N + (k : Int)), .sl (slp (slp pD (k * 2)) (1 * 2)) (X.length - k - 1)])).obj g = some (.row true 3 [i64 W, i64 (N + (k : Int)), .sl (slp (slp pD (k * 2)) (1 * 2)) (X.length - k - 1)]) := H.obj_set_same bx2
          have m1 : Ab.Mod (one g) hY (hY.set g (.row true 3 [i64 W, i64 (N + (k : Int)), .sl (slp (slp pD (k * 2)) (1 * 2)) (X.length - k - 1)])) := Mod.set rfl bx2 rfl
          have nq3 := NewSl.keep nq2 m1 kg8
          have mk3 := mk2.trans' m1 (S2 := one g) (fun _ _ k => k) (fun _ _ k => k)
          refine ⟨_, Cell.mk bS1 rfl, ?_⟩
          conv => whnf
          have hXS : (X.length : Int) ≤ 1001 := by omega
          have hwr : IntKind.i64.wrap (N + (k : Int) + 1) = N + ((k + 1 : Nat) : Int) := by rw [wrap_i64 (by omega) (by omega)]; omega
          rw [hwr]
          refine ⟨_, _, bS1, Nat.le_of_ble_eq_true rfl, ?_⟩
          conv => whnf
          obtain ⟨h9, hh9⟩ : ∃ x, x = hY.set g (.row true 3 [i64 W, i64 (N + (k : Int)), .sl (slp (slp pD (k * 2)) (1 * 2)) (X.length - k - 1)]) := ⟨_, rfl⟩
          rw [← hh9] at bS1 nq3 mk3
          have bS2 : (h9.set g (.row true 3 [i64 W, i64 (N + ((k + 1 : Nat) : Int)), .sl (slp (slp pD (k * 2)) (1 * 2)) (X.length - k - 1)])).obj g = some (.row true 3 [i64 W, i64 (N + ((k + 1 : Nat) : Int)), .sl (slp pD ((k + 1) * 2)) (X.length - (k + 1))]) := by
            rw [H.obj_set_same bS1, slp_slp, show k * 2 + 1 * 2 = (k + 1) * 2 by omega, show X.length - k - 1 = X.length - (k + 1) by omega]
          have m2 : Ab.Mod (one g) h9 (h9.set g (.row true 3 [i64 W, i64 (N + ((k + 1 : Nat) : Int)), .sl (slp (slp pD (k * 2)) (1 * 2)) (X.length - k - 1)])) := Mod.set rfl bS1 rfl
          have nq4 := NewSl.keep nq3 m2 kg8
          have mk4 := mk3.trans' m2 (S2 := one g) (fun _ _ k => k) (fun _ _ k => k)
          have hch2 : chn N X = ((X.take (k + 1)).map Prod.snd ++ (chn (N + ((k + 1 : Nat) : Int)) (X.drop (k + 1))).1, (chn (N + ((k + 1 : Nat) : Int)) (X.drop (k + 1))).2) := by
            rw [hch, chn_step hy hu, List.take_succ_eq_append_getElem hy, List.map_append, List.append_assoc]
            rfl
          subst hh9
          refine ⟨_, Forget.cons rfl (Forget.cons rfl (Forget.nil _)), ⟨k + 1, pG, hy, hch2, bS2, nq4, mk4, rfl⟩, ?_⟩
          show X.length - (k + 1) < X.length - k
          omega
        · conv => whnf
          refine ⟨[0, 2, 3, 4, 5, 6, 7, 9, 11, 16, 17, 18, 19, 20, 21, 1, 10, 8, 12, 13, 14, 15, 22, 23, 24, 25], [0, 0, 0, 4, 12, 28, 0, 124, 1278, 0, 2, 0, 3582, 8190, 16382, 32766, 0, 65536, 196608, 458752, 0, 2031616, 4194302, 8388607, 16777215, 33554431], by kernel_rfl, ?_⟩
          conv => whnf
          refine ⟨_, Cell.mk hb rfl, ?_⟩
          conv => whnf
          refine ⟨⟨_, hr.is⟩, j, rfl, Nat.zero_le _, hj, ?_⟩
          conv => whnf
          refine ⟨_, Cell.mk hb rfl, ?_⟩
          conv => whnf
          refine ⟨⟨_, hr.is⟩, j, rfl, hj, Nat.le_refl _, ?_⟩
          conv => whnf
          have rt := ro_take eC_len hr hj
          have rd := ro_drop eC_len hr hj
          have mo := mod_refl none_ hh
          obtain ⟨nA, mo⟩ := new0 2 mo
          obtain ⟨nB, nA, dis, mo⟩ := new0d 1 nA mo
          have dis := dis_comm dis
          refine ⟨_, _, nA.1, (rt.get mo).is, by rw [show (T.at_ 177).bytes = 32 from rfl]; omega, by omega, fun pA hA hs hm hf => ?_⟩
          obtain ⟨nA, nB, dis, mo⟩ := appD nA nB dis mo hs hm hf
          conv => whnf
          refine ⟨⟨⟨_, (hr.get mo).is⟩, j, rfl, hj, Nat.le_refl _, rfl⟩, ?_⟩
          conv => whnf
          refine ⟨⟨_, Cell.mk (mo.get hb (.inl (fun k => k))) rfl, rfl⟩, ?_⟩
          conv => whnf
          refine ⟨_, _, nB.1, SlIs.old nm mo (fun _ _ k => k), by rw [show (T.at_ 5).bytes = 1 from rfl]; omega, by omega, fun pB hB hs hm hf => ?_⟩
          obtain ⟨nB, nA, dis, mo⟩ := appD nB nA (dis_comm dis) mo hs hm hf
          have dis := dis_comm dis
          rw [Nat.zero_add, List.nil_append] at nB nA
          conv => whnf
          rw [show 0 + m = m from Nat.zero_add _]
          refine ⟨⟨⟨_, (hr.get mo).is⟩, j, rfl, hj, Nat.le_refl _, rfl⟩, ?_⟩
          conv => whnf
          refine ⟨⟨_, Cell.mk (mo.get hb (.inl (fun k => k))) rfl, rfl⟩, ?_⟩
          conv => whnf
          obtain ⟨nA, nB, mo⟩ := pushD (.row true 2 [i64 seq, .sl pB m]) nA nB mo
          rw [show 0 + (j - 0) = j - 0 from Nat.zero_add _]
          refine ⟨_, _, nA.1, (SlIs.row (n := 1) (sz := 2) (cs := [i64 seq, .sl pB m]) (H.obj_push_new _ _) rfl).weak, by rw [show (T.at_ 177).bytes = 32 from rfl]; omega, by omega, fun pC hC hs hm hf => ?_⟩
          obtain ⟨nA, nB, dis, mo⟩ := appD nA nB dis mo hs hm hf
          conv => whnf
          refine ⟨⟨⟨_, (hr.get mo).is⟩, j, rfl, hj, Nat.le_refl _, rfl⟩, ?_⟩
          conv => whnf
          refine ⟨⟨_, Cell.mk (mo.get hb (.inl (fun k => k))) rfl, rfl⟩, ?_⟩
          conv => whnf
          refine ⟨_, _, nA.1, (rd.get mo).is, by rw [show (T.at_ 177).bytes = 32 from rfl]; omega, by omega, fun pD hD hs hm hf => ?_⟩
          obtain ⟨nA, nB, dis, mo⟩ := appD nA nB dis mo hs hm hf
          conv => whnf
          refine ⟨_, _, mo.get hb (.inl (fun k => k)), Nat.le_of_ble_eq_true rfl, ?_⟩
          conv => whnf
          obtain ⟨X, hX⟩ : ∃ X, X = insS S seq (pB, body) := ⟨_, rfl⟩
          have el : j - 0 + 1 + (S.length - j) = X.length := by
            rw [hX, ← efin, List.length_append, List.length_cons, List.length_take, List.length_drop]
            omega
          have ef : (S.take j).flatMap eC ++ [i64 seq, .sl pB m] ++ (S.drop j).flatMap eC = X.flatMap eC := by
            rw [hX, ← efin, List.flatMap_append, List.flatMap_cons, List.append_assoc, hml]
            rfl
          rw [el, ef] at nA
          rw [el]
          have mS : Ab.Mod (one g) hD (hD.set g (.row true 3 [i64 W, i64 N, .sl pD X.length])) := Mod.set rfl (mo.get hb (.inl (fun k => k))) rfl
          have kg : ∀ i, one g i → i < hh.next := fun i hi => by
            have : i = g := hi
            omega
          have nA := NewSl.keep nA mS kg
          have nB := NewSl.keep nB mS kg
          have bx : (hD.set g (.row true 3 [i64 W, i64 N, .sl pD X.length])).obj g = some (.row true 3 [i64 W, i64 N, .sl pD X.length]) := H.obj_set_same (mo.get hb (.inl (fun k => k)))
          have mo : Ab.Mod (one g) hh (hD.set g (.row true 3 [i64 W, i64 N, .sl pD X.length])) := mo.trans' mS (fun _ _ k => k.elim) (fun _ _ k => k)
          have bx0 : (hD.set g (.row true 3 [i64 W, i64 N, .sl pD X.length])).obj g = some (.row true 3 [i64 W, i64 (N + ((0 : Nat) : Int)), .sl (slp pD (0 * 2)) (X.length - 0)]) := by
            rw [Nat.zero_mul, slp_zero, Nat.sub_zero, show N + ((0 : Nat) : Int) = N by omega]
            exact bx
          obtain ⟨h8, hh8⟩ : ∃ x, x = hD.set g (.row true 3 [i64 W, i64 N, .sl pD X.length]) := ⟨_, rfl⟩
          rw [← hh8] at nA nB bx mo
          have hXl : X.length ≤ 1001 := by
            rw [hX]
            have := insS_len seq (pB, body) S
            omega
          have hXN : ∀ x ∈ X, N ≤ x.1 → True := fun _ _ _ => trivial
          refine ⟨fun env hk => ∃ (k : Nat) (qq : Option (Nat × Nat)), k ≤ X.length ∧ chn N X = ((X.take k).map Prod.snd ++ (chn (N + (k : Int)) (X.drop k)).1, (chn (N + (k : Int)) (X.drop k)).2) ∧ hk.obj g = some (.row true 3 [i64 W, i64 (N + (k : Int)), .sl (slp pD (k * 2)) (X.length - k)]) ∧ NewSl h8 hk qq k 1 ((X.take k).flatMap fun x => slC x.2) ∧ Ab.Mod (one g) h8 hk ∧ env = [(9, .sl qq k), (0, .ptr (some (g, 0)))],
            fun env _ => match get env 9 with
              | .sl _ n => X.length - n
              | _ => 0, ⟨_, Forget.cons rfl (Forget.cons rfl (Forget.nil _)), 0, none, Nat.zero_le _, by simp, bx0, NewSl.nil _ _ _, by rw [hh8]; exact mod_refl _ _, rfl⟩, ?_⟩
          have hg8 : g < h8.next := h8.lt _ _ bx
          clear bx bx0 hh8
          rintro _ hk ⟨k, qq, hkX, hch, bx, nq, mk, rfl⟩
          conv => whnf
          refine ⟨[0, 1, 2, 3, 4, 5, 6, 7, 8, 9, 10, 11, 12, 13, 14, 15, 16, 17, 18, 19], [0, 1, 3, 7, 15, 31, 63, 127, 255, 511, 1023, 2047, 4095, 8191, 127, 16511, 49279, 114815, 262143, 524287], by kernel_rfl, ?_⟩
          conv => whnf
          refine ⟨_, Cell.mk bx rfl, ?_⟩
          conv => whnf
          have kg8 : ∀ i, one g i → i < h8.next := fun i hi => by
            have : i = g := hi
            omega
          have nA1 := NewSl.keep nA (S := one g) mk kg
          have nB1 := NewSl.keep nB (S := one g) mk kg
          have moK := mo.trans' mk (S2 := one g) (fun _ _ k => k) (fun _ _ k => k)
          have hsub := sub_is nA1.1 hkX
          have done : chn (N + (k : Int)) (X.drop k) = ([], N + (k : Int), X.drop k) → TakeR hh g W N S seq m body (.tup [.sl qq k, .bool true]) hk := fun e => by
            rw [e, List.append_nil] at hch
            exact .inr ⟨hmay, pB, pD, qq, k, X, hX, hkX, hch, rfl, bx, nA1, nB1, ⟨nq.1, fun i o e => Nat.le_trans mo.next (nq.2 i o e)⟩, moK⟩
          refine br_mk (fun hy => ?_) (fun hy => ?_)
          rotate_left
          · conv => whnf
            have hy : ¬ k < X.length := by
              have : ¬ ((X.length - k : Nat) : Int) > 0 := by simpa using hy
              omega
            exact done (chn_stop (.inl (by omega)) hkX)
          have hy : k < X.length := by
            have : ((X.length - k : Nat) : Int) > 0 := by simpa using hy
            omega
          conv => whnf
          refine ⟨_, Cell.mk bx rfl, ?_⟩
          conv => whnf
          have hdl : (X.drop k).length = X.length - k := List.length_drop
          have hd0 : 0 < (X.drop k).length := by omega
          have hX0 : (X.drop k)[0] = X[k] := by simp
          obtain ⟨i3, c3, w1, w2, w3⟩ := sls_get eC_len hsub hdl.symm hd0
          rw [hX0] at w3
          have v0 := w3 0 (i64 X[k].1) rfl
          have v1 := w3 1 (slV X[k].2) rfl
          refine ⟨i3, c3, 0, w1, rfl, by omega, ?_⟩
          conv => whnf
          refine ⟨_, v0, ?_⟩
          conv => whnf
          refine ⟨_, Cell.mk bx rfl, ?_⟩
          conv => whnf
          refine br_mk (fun hu => ?_) (fun hu => ?_)
          rotate_left
          · conv => whnf
            have hu : X[k].1 ≠ N + (k : Int) := by
              intro e
              rw [e] at hu
              simp at hu
            exact done (chn_stop (.inr ⟨hy, hu⟩) hkX)
          have hu : X[k].1 = N + (k : Int) := by simpa using hu
          conv => whnf
          refine ⟨_, Cell.mk bx rfl, ?_⟩
          conv => whnf
          refine ⟨i3, c3, 0, w1, rfl, by omega, ?_⟩
          conv => whnf
          refine ⟨_, v1, ?_⟩
          conv => whnf
          obtain ⟨y1, y2, y3⟩ := app1 nq mk (slC X[k].2) rfl
          refine ⟨_, _, y1, y2, by rw [show (T.at_ 33).bytes = 24 from rfl]; omega, by omega, fun pG hY hs2 hm2 hf2 => ?_⟩
          obtain ⟨nq2, mk2, my⟩ := y3 pG hY hs2 hm2 hf2
          have e6 : ((X.take k).flatMap fun x => slC x.2) ++ slC X[k].2 = (X.take (k + 1)).flatMap fun x => slC x.2 := by
            rw [List.take_succ_eq_append_getElem hy, List.flatMap_append]
            simp
          rw [e6] at nq2
          conv => whnf
          have bx2 := my.get bx (.inl (fun a => by
            obtain ⟨o, a⟩ := a
            have := nq.2 g o a
            omega))
          refine ⟨_, Cell.mk bx2 rfl, ?_⟩
          conv => whnf
          have hsub2 := sub_is (NewSl.keep nA (S := one g) mk2 kg).1 hkX
          refine ⟨⟨_, hsub2⟩, 1, rfl, by omega, Nat.le_refl _, ?_⟩
          conv => whnf
          refine ⟨_, _, bx2, Nat.le_of_ble_eq_true rfl, ?_⟩
          conv => whnf
          have bS1 : (hY.set g (.row true 3 [i64 W, i64 (N + (k : Int)), .sl (slp (slp pD (k * 2)) (1 * 2)) (X.length - k - 1)])).obj g = some (.row true 3 [i64 W, i64 (N + (k : Int)), .sl (slp (slp pD (k * 2)) (1 * 2)) (X.length - k - 1)]) := H.obj_set_same bx2
          have m1 : Ab.Mod (one g) hY (hY.set g (.row true 3 [i64 W, i64 (N + (k : Int)), .sl (slp (slp pD (k * 2)) (1 * 2)) (X.length - k - 1)])) := Mod.set rfl bx2 rfl
          have nq3 := NewSl.keep nq2 m1 kg8
          have mk3 := mk2.trans' m1 (S2 := one g) (fun _ _ k => k) (fun _ _ k => k)
          refine ⟨_, Cell.mk bS1 rfl, ?_⟩
          conv => whnf
          have hXS : (X.length : Int) ≤ 1001 := by omega
          have hwr : IntKind.i64.wrap (N + (k : Int) + 1) = N + ((k + 1 : Nat) : Int) := by rw [wrap_i64 (by omega) (by omega)]; omega
          rw [hwr]
          refine ⟨_, _, bS1, Nat.le_of_ble_eq_true rfl, ?_⟩
          conv => whnf
          obtain ⟨h9, hh9⟩ : ∃ x, x = hY.set g (.row true 3 [i64 W, i64 (N + (k : Int)), .sl (slp (slp pD (k * 2)) (1 * 2)) (X.length - k - 1)]) := ⟨_, rfl⟩
          rw [← hh9] at bS1 nq3 mk3
          have bS2 : (h9.set g (.row true 3 [i64 W, i64 (N + ((k + 1 : Nat) : Int)), .sl (slp (slp pD (k * 2)) (1 * 2)) (X.length - k - 1)])).obj g = some (.row true 3 [i64 W, i64 (N + ((k + 1 : Nat) : Int)), .sl (slp pD ((k + 1) * 2)) (X.length - (k + 1))]) := by
            rw [H.obj_set_same bS1, slp_slp, show k * 2 + 1 * 2 = (k + 1) * 2 by omega, show X.length - k - 1 = X.length - (k + 1) by omega]
          have m2 : Ab.Mod (one g) h9 (h9.set g (.row true 3 [i64 W, i64 (N + ((k + 1 : Nat) : Int)), .sl (slp (slp pD (k * 2)) (1 * 2)) (X.length - k - 1)])) := Mod.set rfl bS1 rfl
          have nq4 := NewSl.keep nq3 m2 kg8
          have mk4 := mk3.trans' m2 (S2 := one g) (fun _ _ k => k) (fun _ _ k => k)
          have hch2 : chn N X = ((X.take (k + 1)).map Prod.snd ++ (chn (N + ((k + 1 : Nat) : Int)) (X.drop (k + 1))).1, (chn (N + ((k + 1 : Nat) : Int)) (X.drop (k + 1))).2) := by
            rw [hch, chn_step hy hu, List.take_succ_eq_append_getElem hy, List.map_append, List.append_assoc]
            rfl
          subst hh9
          refine ⟨_, Forget.cons rfl (Forget.cons rfl (Forget.nil _)), ⟨k + 1, pG, hy, hch2, bS2, nq4, mk4, rfl⟩, ?_⟩
          show X.length - (k + 1) < X.length - k
          omega
      · conv => whnf
        refine ⟨[0, 2, 3, 4, 5, 6, 7, 9, 11, 16, 17, 18, 19, 20, 21, 10, 1, 8, 12, 13, 14, 15, 22, 23, 24, 25], [0, 1024, 0, 4, 12, 28, 0, 124, 1278, 0, 0, 0, 3582, 8190, 16382, 32766, 0, 65536, 196608, 458752, 0, 2031616, 4194302, 8388607, 16777215, 33554431], by kernel_rfl, ?_⟩
        conv => whnf
        refine ⟨_, Cell.mk hb rfl, ?_⟩
        conv => whnf
        refine ⟨⟨_, hr.is⟩, j, rfl, Nat.zero_le _, hj, ?_⟩
        conv => whnf
        refine ⟨_, Cell.mk hb rfl, ?_⟩
        conv => whnf
        refine ⟨⟨_, hr.is⟩, j, rfl, hj, Nat.le_refl _, ?_⟩
        conv => whnf
        have rt := ro_take eC_len hr hj
        have rd := ro_drop eC_len hr hj
        have mo := mod_refl none_ hh
        obtain ⟨nB, mo⟩ := new0 1 mo
        obtain ⟨nA, nB, dis, mo⟩ := new0d 2 nB mo
        refine ⟨_, _, nA.1, (rt.get mo).is, by rw [show (T.at_ 177).bytes = 32 from rfl]; omega, by omega, fun pA hA hs hm hf => ?_⟩
        obtain ⟨nA, nB, dis, mo⟩ := appD nA nB dis mo hs hm hf
        conv => whnf
        refine ⟨⟨⟨_, (hr.get mo).is⟩, j, rfl, hj, Nat.le_refl _, rfl⟩, ?_⟩
        conv => whnf
        refine ⟨⟨_, Cell.mk (mo.get hb (.inl (fun k => k))) rfl, rfl⟩, ?_⟩
        conv => whnf
        refine ⟨_, _, nB.1, SlIs.old nm mo (fun _ _ k => k), by rw [show (T.at_ 5).bytes = 1 from rfl]; omega, by omega, fun pB hB hs hm hf => ?_⟩
        obtain ⟨nB, nA, dis, mo⟩ := appD nB nA (dis_comm dis) mo hs hm hf
        have dis := dis_comm dis
        rw [Nat.zero_add, List.nil_append] at nB nA
        conv => whnf
        rw [show 0 + m = m from Nat.zero_add _]
        refine ⟨⟨⟨_, (hr.get mo).is⟩, j, rfl, hj, Nat.le_refl _, rfl⟩, ?_⟩
        conv => whnf
        refine ⟨⟨_, Cell.mk (mo.get hb (.inl (fun k => k))) rfl, rfl⟩, ?_⟩
        conv => whnf
        obtain ⟨nA, nB, mo⟩ := pushD (.row true 2 [i64 seq, .sl pB m]) nA nB mo
        rw [show 0 + (j - 0) = j - 0 from Nat.zero_add _]
        refine ⟨_, _, nA.1, (SlIs.row (n := 1) (sz := 2) (cs := [i64 seq, .sl pB m]) (H.obj_push_new _ _) rfl).weak, by rw [show (T.at_ 177).bytes = 32 from rfl]; omega, by omega, fun pC hC hs hm hf => ?_⟩
        obtain ⟨nA, nB, dis, mo⟩ := appD nA nB dis mo hs hm hf
        conv => whnf
        refine ⟨⟨⟨_, (hr.get mo).is⟩, j, rfl, hj, Nat.le_refl _, rfl⟩, ?_⟩
        conv => whnf
        refine ⟨⟨_, Cell.mk (mo.get hb (.inl (fun k => k))) rfl, rfl⟩, ?_⟩
        conv => whnf
        refine ⟨_, _, nA.1, (rd.get mo).is, by rw [show (T.at_ 177).bytes = 32 from rfl]; omega, by omega, fun pD hD hs hm hf => ?_⟩
        obtain ⟨nA, nB, dis, mo⟩ := appD nA nB dis mo hs hm hf
        conv => whnf
        refine ⟨_, _, mo.get hb (.inl (fun k => k)), Nat.le_of_ble_eq_true rfl, ?_⟩
        conv => whnf
        obtain ⟨X, hX⟩ : ∃ X, X = insS S seq (pB, body) := ⟨_, rfl⟩
        have el : j - 0 + 1 + (S.length - j) = X.length := by
          rw [hX, ← efin, List.length_append, List.length_cons, List.length_take, List.length_drop]
          omega
        have ef : (S.take j).flatMap eC ++ [i64 seq, .sl pB m] ++ (S.drop j).flatMap eC = X.flatMap eC := by
          rw [hX, ← efin, List.flatMap_append, List.flatMap_cons, List.append_assoc, hml]
          rfl
        rw [el, ef] at nA
        rw [el]
        have mS : Ab.Mod (one g) hD (hD.set g (.row true 3 [i64 W, i64 N, .sl pD X.length])) := Mod.set rfl (mo.get hb (.inl (fun k => k))) rfl
        have kg : ∀ i, one g i → i < hh.next := fun i hi => by
          have : i = g := hi
          omega
        have nA := NewSl.keep nA mS kg
        have nB := NewSl.keep nB mS kg
        have bx : (hD.set g (.row true 3 [i64 W, i64 N, .sl pD X.length])).obj g = some (.row true 3 [i64 W, i64 N, .sl pD X.length]) := H.obj_set_same (mo.get hb (.inl (fun k => k)))
        have mo : Ab.Mod (one g) hh (hD.set g (.row true 3 [i64 W, i64 N, .sl pD X.length])) := mo.trans' mS (fun _ _ k => k.elim) (fun _ _ k => k)
        have bx0 : (hD.set g (.row true 3 [i64 W, i64 N, .sl pD X.length])).obj g = some (.row true 3 [i64 W, i64 (N + ((0 : Nat) : Int)), .sl (slp pD (0 * 2)) (X.length - 0)]) := by
          rw [Nat.zero_mul, slp_zero, Nat.sub_zero, show N + ((0 : Nat) : Int) = N by omega]
          exact bx
        obtain ⟨h8, hh8⟩ : ∃ x, x = hD.set g (.row true 3 [i64 W, i64 N, .sl pD X.length]) := ⟨_, rfl⟩
        rw [← hh8] at nA nB bx mo
        have hXl : X.length ≤ 1001 := by
          rw [hX]
          have := insS_len seq (pB, body) S
          omega
        have hXN : ∀ x ∈ X, N ≤ x.1 → True := fun _ _ _ => trivial
        refine ⟨fun env hk => ∃ (k : Nat) (qq : Option (Nat × Nat)), k ≤ X.length ∧ chn N X = ((X.take k).map Prod.snd ++ (chn (N + (k : Int)) (X.drop k)).1, (chn (N + (k : Int)) (X.drop k)).2) ∧ hk.obj g = some (.row true 3 [i64 W, i64 (N + (k : Int)), .sl (slp pD (k * 2)) (X.length - k)]) ∧ NewSl h8 hk qq k 1 ((X.take k).flatMap fun x => slC x.2) ∧ Ab.Mod (one g) h8 hk ∧ env = [(9, .sl qq k), (0, .ptr (some (g, 0)))],
          fun env _ => match get env 9 with
            | .sl _ n => X.length - n
            | _ => 0, ⟨_, Forget.cons rfl (Forget.cons rfl (Forget.nil _)), 0, none, Nat.zero_le _, by simp, bx0, NewSl.nil _ _ _, by rw [hh8]; exact mod_refl _ _, rfl⟩, ?_⟩
        have hg8 : g < h8.next := h8.lt _ _ bx
        clear bx bx0 hh8
        rintro _ hk ⟨k, qq, hkX, hch, bx, nq, mk, rfl⟩
        conv => whnf
        refine ⟨[0, 1, 2, 3, 4, 5, 6, 7, 8, 9, 10, 11, 12, 13, 14, 15, 16, 17, 18, 19], [0, 1, 3, 7, 15, 31, 63, 127, 255, 511, 1023, 2047, 4095, 8191, 127, 16511, 49279, 114815, 262143, 524287], by kernel_rfl, ?_⟩
        conv => whnf
        refine ⟨_, Cell.mk bx rfl, ?_⟩
        conv => whnf
        have kg8 : ∀ i, one g i → i < h8.next := fun i hi => by
          have : i = g := hi
          omega
        have nA1 := NewSl.keep nA (S := one g) mk kg
        have nB1 := NewSl.keep nB (S := one g) mk kg
        have moK := mo.trans' mk (S2 := one g) (fun _ _ k => k) (fun _ _ k => k)
        have hsub := sub_is nA1.1 hkX
        have done : chn (N + (k : Int)) (X.drop k) = ([], N + (k : Int), X.drop k) → TakeR hh g W N S seq m body (.tup [.sl qq k, .bool true]) hk := fun e => by
          rw [e, List.append_nil] at hch
          exact .inr ⟨hmay, pB, pD, qq, k, X, hX, hkX, hch, rfl, bx, nA1, nB1, ⟨nq.1, fun i o e => Nat.le_trans mo.next (nq.2 i o e)⟩, moK⟩
        refine br_mk (fun hy => ?_) (fun hy => ?_)
        rotate_left
        · conv => whnf
          have hy : ¬ k < X.length := by
            have : ¬ ((X.length - k : Nat) : Int) > 0 := by simpa using hy
            omega
          exact done (chn_stop (.inl (by omega)) hkX)
        have hy : k < X.length := by
          have : ((X.length - k : Nat) : Int) > 0 := by simpa using hy
          omega
        conv => whnf
        refine ⟨_, Cell.mk bx rfl, ?_⟩
        conv => whnf
        have hdl : (X.drop k).length = X.length - k := List.length_drop
        have hd0 : 0 < (X.drop k).length := by omega
        have hX0 : (X.drop k)[0] = X[k] := by simp
        obtain ⟨i3, c3, w1, w2, w3⟩ := sls_get eC_len hsub hdl.symm hd0
        rw [hX0] at w3
        have v0 := w3 0 (i64 X[k].1) rfl
        have v1 := w3 1 (slV X[k].2) rfl
        refine ⟨i3, c3, 0, w1, rfl, by omega, ?_⟩
        conv => whnf
        refine ⟨_, v0, ?_⟩
        conv => whnf
        refine ⟨_, Cell.mk bx rfl, ?_⟩
        conv => whnf
        refine br_mk (fun hu => ?_) (fun hu => ?_)
        rotate_left
        · conv => whnf
          have hu : X[k].1 ≠ N + (k : Int) := by
            intro e
            rw [e] at hu
            simp at hu
          exact done (chn_stop (.inr ⟨hy, hu⟩) hkX)
        have hu : X[k].1 = N + (k : Int) := by simpa using hu
        conv => whnf
        refine ⟨_, Cell.mk bx rfl, ?_⟩
        conv => whnf
        refine ⟨i3, c3, 0, w1, rfl, by omega, ?_⟩
        conv => whnf
        refine ⟨_, v1, ?_⟩
        conv => whnf
        obtain ⟨y1, y2, y3⟩ := app1 nq mk (slC X[k].2) rfl
        refine ⟨_, _, y1, y2, by rw [show (T.at_ 33).bytes = 24 from rfl]; omega, by omega, fun pG hY hs2 hm2 hf2 => ?_⟩
        obtain ⟨nq2, mk2, my⟩ := y3 pG hY hs2 hm2 hf2
        have e6 : ((X.take k).flatMap fun x => slC x.2) ++ slC X[k].2 = (X.take (k + 1)).flatMap fun x => slC x.2 := by
          rw [List.take_succ_eq_append_getElem hy, List.flatMap_append]
          simp
        rw [e6] at nq2
        conv => whnf
        have bx2 := my.get bx (.inl (fun a => by
          obtain ⟨o, a⟩ := a
          have := nq.2 g o a
          omega))
        refine ⟨_, Cell.mk bx2 rfl, ?_⟩
        conv => whnf
        have hsub2 := sub_is (NewSl.keep nA (S := one g) mk2 kg).1 hkX
        refine ⟨⟨_, hsub2⟩, 1, rfl, by omega, Nat.le_refl _, ?_⟩
        conv => whnf
        refine ⟨_, _, bx2, Nat.le_of_ble_eq_true rfl, ?_⟩
        conv => whnf
        have bS1 : (hY.set g (.row true 3 [i64 W, i64 (N + (k : Int)), .sl (slp (slp pD (k * 2)) (1 * 2)) (X.length - k - 1)])).obj g = some (.row true 3 [i64 W, i64 (N + (k : Int)), .sl (slp (slp pD (k * 2)) (1 * 2)) (X.length - k - 1)]) := H.obj_set_same bx2
        have m1 : Ab.Mod (one g) hY (hY.set g (.row true 3 [i64 W, i64 (N + (k : Int)), .sl (slp (slp pD (k * 2)) (1 * 2)) (X.length - k - 1)])) := Mod.set rfl bx2 rfl
        have nq3 := NewSl.keep nq2 m1 kg8
        have mk3 := mk2.trans' m1 (S2 := one g) (fun _ _ k => k) (fun _ _ k => k)
        refine ⟨_, Cell.mk bS1 rfl, ?_⟩
        conv => whnf
        have hXS : (X.length : Int) ≤ 1001 := by omega
        have hwr : IntKind.i64.wrap (N + (k : Int) + 1) = N + ((k + 1 : Nat) : Int) := by rw [wrap_i64 (by omega) (by omega)]; omega
        rw [hwr]
        refine ⟨_, _, bS1, Nat.le_of_ble_eq_true rfl, ?_⟩
        conv => whnf
        obtain ⟨h9, hh9⟩ : ∃ x, x = hY.set g (.row true 3 [i64 W, i64 (N + (k : Int)), .sl (slp (slp pD (k * 2)) (1 * 2)) (X.length - k - 1)]) := ⟨_, rfl⟩
        rw [← hh9] at bS1 nq3 mk3
        have bS2 : (h9.set g (.row true 3 [i64 W, i64 (N + ((k + 1 : Nat) : Int)), .sl (slp (slp pD (k * 2)) (1 * 2)) (X.length - k - 1)])).obj g = some (.row true 3 [i64 W, i64 (N + ((k + 1 : Nat) : Int)), .sl (slp pD ((k + 1) * 2)) (X.length - (k + 1))]) := by
          rw [H.obj_set_same bS1, slp_slp, show k * 2 + 1 * 2 = (k + 1) * 2 by omega, show X.length - k - 1 = X.length - (k + 1) by omega]
        have m2 : Ab.Mod (one g) h9 (h9.set g (.row true 3 [i64 W, i64 (N + ((k + 1 : Nat) : Int)), .sl (slp (slp pD (k * 2)) (1 * 2)) (X.length - k - 1)])) := Mod.set rfl bS1 rfl
        have nq4 := NewSl.keep nq3 m2 kg8
        have mk4 := mk3.trans' m2 (S2 := one g) (fun _ _ k => k) (fun _ _ k => k)
        have hch2 : chn N X = ((X.take (k + 1)).map Prod.snd ++ (chn (N + ((k + 1 : Nat) : Int)) (X.drop (k + 1))).1, (chn (N + ((k + 1 : Nat) : Int)) (X.drop (k + 1))).2) := by
          rw [hch, chn_step hy hu, List.take_succ_eq_append_getElem hy, List.map_append, List.append_assoc]
          rfl
        subst hh9
        refine ⟨_, Forget.cons rfl (Forget.cons rfl (Forget.nil _)), ⟨k + 1, pG, hy, hch2, bS2, nq4, mk4, rfl⟩, ?_⟩
        show X.length - (k + 1) < X.length - k
        omega
  · have hd : ¬ j < S.length := by simpa using hd
    have hjS : j = S.length := by omega
    have hne : ∀ p ∈ S, p.1 ≠ seq := fun x hx2 => by
      obtain ⟨k, hk, rfl⟩ := List.getElem_of_mem hx2
      have := hall k hk (by omega)
      omega
    have hmay := may (sget_none.2 (fun k => by
      obtain ⟨x, hx2, e⟩ := List.mem_map.1 k
      exact hne x hx2 e))
    have efin := fun v => ins_atE ha hne v hj hall (.inl hjS)
    conv => whnf
    refine ⟨_, Cell.mk hb rfl, ?_⟩
    conv => whnf
    refine br_mk (fun hd2 => ?_) (fun hd2 => ?_)
    · have : (j : Int) < S.length := by simpa using hd2
      omega
    conv => whnf
    refine ⟨[], [1, 10], rfl, ?_, ?_⟩
    · conv => whnf
      refine ⟨[], [8, 10], rfl, ?_, ?_⟩
      · conv => whnf
        refine ⟨[0, 2, 3, 4, 5, 6, 7, 9, 11, 16, 17, 18, 19, 20, 21, 1, 8, 10, 12, 13, 14, 15, 22, 23, 24, 25], [0, 0, 0, 4, 12, 28, 0, 124, 254, 0, 510, 0, 3582, 8190, 16382, 32766, 0, 65536, 196608, 458752, 0, 2031616, 4194302, 8388607, 16777215, 33554431], by kernel_rfl, ?_⟩
        conv => whnf
        refine ⟨_, Cell.mk hb rfl, ?_⟩
        conv => whnf
        refine ⟨⟨_, hr.is⟩, j, rfl, Nat.zero_le _, hj, ?_⟩
        conv => whnf
        refine ⟨_, Cell.mk hb rfl, ?_⟩
        conv => whnf
        refine ⟨⟨_, hr.is⟩, j, rfl, hj, Nat.le_refl _, ?_⟩
        conv => whnf
        have rt := ro_take eC_len hr hj
        have rd := ro_drop eC_len hr hj
        have mo := mod_refl none_ hh
        obtain ⟨nA, mo⟩ := new0 2 mo
        refine ⟨_, _, nA.1, (rt.get mo).is, by rw [show (T.at_ 177).bytes = 32 from rfl]; omega, by omega, fun pA hA hs hm hf => ?_⟩
        obtain ⟨nA, mo⟩ := appN nA mo pA hA hs hm hf
        conv => whnf
        refine ⟨⟨⟨_, (hr.get mo).is⟩, j, rfl, hj, Nat.le_refl _, rfl⟩, ?_⟩
        conv => whnf
        refine ⟨⟨_, Cell.mk (mo.get hb (.inl (fun k => k))) rfl, rfl⟩, ?_⟩
        conv => whnf
        obtain ⟨nB, nA, dis, mo⟩ := new0d 1 nA mo
        have dis := dis_comm dis
        refine ⟨_, _, nB.1, SlIs.old nm mo (fun _ _ k => k), by rw [show (T.at_ 5).bytes = 1 from rfl]; omega, by omega, fun pB hB hs hm hf => ?_⟩
        obtain ⟨nB, nA, dis, mo⟩ := appD nB nA (dis_comm dis) mo hs hm hf
        have dis := dis_comm dis
        rw [Nat.zero_add, List.nil_append] at nB nA
        conv => whnf
        rw [show 0 + m = m from Nat.zero_add _]
        refine ⟨⟨⟨_, (hr.get mo).is⟩, j, rfl, hj, Nat.le_refl _, rfl⟩, ?_⟩
        conv => whnf
        refine ⟨⟨_, Cell.mk (mo.get hb (.inl (fun k => k))) rfl, rfl⟩, ?_⟩
        conv => whnf
        obtain ⟨nA, nB, mo⟩ := pushD (.row true 2 [i64 seq, .sl pB m]) nA nB mo
        rw [show 0 + (j - 0) = j - 0 from Nat.zero_add _]
        refine ⟨_, _, nA.1, (SlIs.row (n := 1) (sz := 2) (cs := [i64 seq, .sl pB m]) (H.obj_push_new _ _) rfl).weak, by rw [show (T.at_ 177).bytes = 32 from rfl]; omega, by omega, fun pC hC hs hm hf => ?_⟩
        obtain ⟨nA, nB, dis, mo⟩ := appD nA nB dis mo hs hm hf
        conv => whnf
        refine ⟨⟨⟨_, (hr.get mo).is⟩, j, rfl, hj, Nat.le_refl _, rfl⟩, ?_⟩
        conv => whnf
        refine ⟨⟨_, Cell.mk (mo.get hb (.inl (fun k => k))) rfl, rfl⟩, ?_⟩
        conv => whnf
        refine ⟨_, _, nA.1, (rd.get mo).is, by rw [show (T.at_ 177).bytes = 32 from rfl]; omega, by omega, fun pD hD hs hm hf => ?_⟩
        obtain ⟨nA, nB, dis, mo⟩ := appD nA nB dis mo hs hm hf
        conv => whnf
        refine ⟨_, _, mo.get hb (.inl (fun k => k)), Nat.le_of_ble_eq_true rfl, ?_⟩
        conv => whnf
        obtain ⟨X, hX⟩ : ∃ X, X = insS S seq (pB, body) := ⟨_, rfl⟩
        have el : j - 0 + 1 + (S.length - j) = X.length := by
          rw [hX, ← efin, List.length_append, List.length_cons, List.length_take, List.length_drop]
          omega
        have ef : (S.take j).flatMap eC ++ [i64 seq, .sl pB m] ++ (S.drop j).flatMap eC = X.flatMap eC := by
          rw [hX, ← efin, List.flatMap_append, List.flatMap_cons, List.append_assoc, hml]
          rfl
        rw [el, ef] at nA
        rw [el]
        have mS : Ab.Mod (one g) hD (hD.set g (.row true 3 [i64 W, i64 N, .sl pD X.length])) := Mod.set rfl (mo.get hb (.inl (fun k => k))) rfl
        have kg : ∀ i, one g i → i < hh.next := fun i hi => by
          have : i = g := hi
          omega
        have nA := NewSl.keep nA mS kg
        have nB := NewSl.keep nB mS kg
        have bx : (hD.set g (.row true 3 [i64 W, i64 N, .sl pD X.length])).obj g = some (.row true 3 [i64 W, i64 N, .sl pD X.length]) := H.obj_set_same (mo.get hb (.inl (fun k => k)))
        have mo : Ab.Mod (one g) hh (hD.set g (.row true 3 [i64 W, i64 N, .sl pD X.length])) := mo.trans' mS (fun _ _ k => k.elim) (fun _ _ k => k)
        have bx0 : (hD.set g (.row true 3 [i64 W, i64 N, .sl pD X.length])).obj g = some (.row true 3 [i64 W, i64 (N + ((0 : Nat) : Int)), .sl (slp pD (0 * 2)) (X.length - 0)]) := by
          rw [Nat.zero_mul, slp_zero, Nat.sub_zero, show N + ((0 : Nat) : Int) = N by omega]
          exact bx
        obtain ⟨h8, hh8⟩ : ∃ x, x = hD.set g (.row true 3 [i64 W, i64 N, .sl pD X.length]) := ⟨_, rfl⟩
        rw [← hh8] at nA nB bx mo
        have hXl : X.length ≤ 1001 := by
          rw [hX]
          have := insS_len seq (pB, body) S
          omega
        have hXN : ∀ x ∈ X, N ≤ x.1 → True := fun _ _ _ => trivial
        refine ⟨fun env hk => ∃ (k : Nat) (qq : Option (Nat × Nat)), k ≤ X.length ∧ chn N X = ((X.take k).map Prod.snd ++ (chn (N + (k : Int)) (X.drop k)).1, (chn (N + (k : Int)) (X.drop k)).2) ∧ hk.obj g = some (.row true 3 [i64 W, i64 (N + (k : Int)), .sl (slp pD (k * 2)) (X.length - k)]) ∧ NewSl h8 hk qq k 1 ((X.take k).flatMap fun x => slC x.2) ∧ Ab.Mod (one g) h8 hk ∧ env = [(9, .sl qq k), (0, .ptr (some (g, 0)))],
          fun env _ => match get env 9 with
            | .sl _ n => X.length - n
            | _ => 0, ⟨_, Forget.cons rfl (Forget.cons rfl (Forget.nil _)), 0, none, Nat.zero_le _, by simp, bx0, NewSl.nil _ _ _, by rw [hh8]; exact mod_refl _ _, rfl⟩, ?_⟩
        have hg8 : g < h8.next := h8.lt _ _ bx
        clear bx bx0 hh8
        rintro _ hk ⟨k, qq, hkX, hch, bx, nq, mk, rfl⟩
        conv => whnf
        refine ⟨[0, 1, 2, 3, 4, 5, 6, 7, 8, 9, 10, 11, 12, 13, 14, 15, 16, 17, 18, 19], [0, 1, 3, 7, 15, 31, 63, 127, 255, 511, 1023, 2047, 4095, 8191, 127, 16511, 49279, 114815, 262143, 524287], by kernel_rfl, ?_⟩
        conv => whnf
        refine ⟨_, Cell.mk bx rfl, ?_⟩
        conv => whnf
        have kg8 : ∀ i, one g i → i < h8.next := fun i hi => by
          have : i = g := hi
          omega
        have nA1 := NewSl.keep nA (S := one g) mk kg
        have nB1 := NewSl.keep nB (S := one g) mk kg
        have moK := mo.trans' mk (S2 := one g) (fun _ _ k => k) (fun _ _ k => k)
        have hsub := sub_is nA1.1 hkX
        have done : chn (N + (k : Int)) (X.drop k) = ([], N + (k : Int), X.drop k) → TakeR hh g W N S seq m body (.tup [.sl qq k, .bool true]) hk := fun e => by
          rw [e, List.append_nil] at hch
          exact .inr ⟨hmay, pB, pD, qq, k, X, hX, hkX, hch, rfl, bx, nA1, nB1, ⟨nq.1, fun i o e => Nat.le_trans mo.next (nq.2 i o e)⟩, moK⟩
        refine br_mk (fun hy => ?_) (fun hy => ?_)
        rotate_left
        · conv => whnf
          have hy : ¬ k < X.length := by
            have : ¬ ((X.length - k : Nat) : Int) > 0 := by simpa using hy
            omega
          exact done (chn_stop (.inl (by omega)) hkX)
        have hy : k < X.length := by
          have : ((X.length - k : Nat) : Int) > 0 := by simpa using hy
          omega
        conv => whnf
        refine ⟨_, Cell.mk bx rfl, ?_⟩
        conv => whnf
        have hdl : (X.drop k).length = X.length - k := List.length_drop
        have hd0 : 0 < (X.drop k).length := by omega
        have hX0 : (X.drop k)[0] = X[k] := by simp
        obtain ⟨i3, c3, w1, w2, w3⟩ := sls_get eC_len hsub hdl.symm hd0
        rw [hX0] at w3
        have v0 := w3 0 (i64 X[k].1) rfl
        have v1 := w3 1 (slV X[k].2) rfl
        refine ⟨i3, c3, 0, w1, rfl, by omega, ?_⟩
        conv => whnf
        refine ⟨_, v0, ?_⟩
        conv => whnf
        refine ⟨_, Cell.mk bx rfl, ?_⟩
        conv => whnf
        refine br_mk (fun hu => ?_) (fun hu => ?_)
        rotate_left
        · conv => whnf
          have hu : X[k].1 ≠ N + (k : Int) := by
            intro e
            rw [e] at hu
            simp at hu
          exact done (chn_stop (.inr ⟨hy, hu⟩) hkX)
        have hu : X[k].1 = N + (k : Int) := by simpa using hu
        conv => whnf
        refine ⟨_, Cell.mk bx rfl, ?_⟩
        conv => whnf
        refine ⟨i3, c3, 0, w1, rfl, by omega, ?_⟩
        conv => whnf
        refine ⟨_, v1, ?_⟩
        conv => whnf
        obtain ⟨y1, y2, y3⟩ := app1 nq mk (slC X[k].2) rfl
        refine ⟨_, _, y1, y2, by rw [show (T.at_ 33).bytes = 24 from rfl]; omega, by omega, fun pG hY hs2 hm2 hf2 => ?_⟩
        obtain ⟨nq2, mk2, my⟩ := y3 pG hY hs2 hm2 hf2
        have e6 : ((X.take k).flatMap fun x => slC x.2) ++ slC X[k].2 = (X.take (k + 1)).flatMap fun x => slC x.2 := by
          rw [List.take_succ_eq_append_getElem hy, List.flatMap_append]
          simp
        rw [e6] at nq2
        conv => whnf
        have bx2 := my.get bx (.inl (fun a => by
          obtain ⟨o, a⟩ := a
          have := nq.2 g o a
          omega))
        refine ⟨_, Cell.mk bx2 rfl, ?_⟩
        conv => whnf
        have hsub2 := sub_is (NewSl.keep nA (S := one g) mk2 kg).1 hkX
        refine ⟨⟨_, hsub2⟩, 1, rfl, by omega, Nat.le_refl _, ?_⟩
        conv => whnf
        refine ⟨_, _, bx2, Nat.le_of_ble_eq_true rfl, ?_⟩
        conv => whnf
        have bS1 : (hY.set g (.row true 3 [i64 W, i64 (N + (k : Int)), .sl (slp (slp pD (k * 2)) (1 * 2)) (X.length - k - 1)])).obj g = some (.row true 3 [i64 W, i64 (N + (k : Int)), .sl (slp (slp pD (k * 2)) (1 * 2)) (X.length - k - 1)]) := H.obj_set_same bx2
        have m1 : Ab.Mod (one g) hY (hY.set g (.row true 3 [i64 W, i64 (N + (k : Int)), .sl (slp (slp pD (k * 2)) (1 * 2)) (X.length - k - 1)])) := Mod.set rfl bx2 rfl
        have nq3 := NewSl.keep nq2 m1 kg8
        have mk3 := mk2.trans' m1 (S2 := one g) (fun _ _ k => k) (fun _ _ k => k)
        refine ⟨_, Cell.mk bS1 rfl, ?_⟩
        conv => whnf
        have hXS : (X.length : Int) ≤ 1001 := by omega
        have hwr : IntKind.i64.wrap (N + (k : Int) + 1) = N + ((k + 1 : Nat) : Int) := by rw [wrap_i64 (by omega) (by omega)]; omega
        rw [hwr]
        refine ⟨_, _, bS1, Nat.le_of_ble_eq_true rfl, ?_⟩
        conv => whnf
        obtain ⟨h9, hh9⟩ : ∃ x, x = hY.set g (.row true 3 [i64 W, i64 (N + (k : Int)), .sl (slp (slp pD (k * 2)) (1 * 2)) (X.length - k - 1)]) := ⟨_, rfl⟩
        rw [← hh9] at bS1 nq3 mk3
        have bS2 : (h9.set g (.row true 3 [i64 W, i64 (N + ((k + 1 : Nat) : Int)), .sl (slp (slp pD (k * 2)) (1 * 2)) (X.length - k - 1)])).obj g = some (.row true 3 [i64 W, i64 (N + ((k + 1 : Nat) : Int)), .sl (slp pD ((k + 1) * 2)) (X.length - (k + 1))]) := by
          rw [H.obj_set_same bS1, slp_slp, show k * 2 + 1 * 2 = (k + 1) * 2 by omega, show X.length - k - 1 = X.length - (k + 1) by omega]
        have m2 : Ab.Mod (one g) h9 (h9.set g (.row true 3 [i64 W, i64 (N + ((k + 1 : Nat) : Int)), .sl (slp (slp pD (k * 2)) (1 * 2)) (X.length - k - 1)])) := Mod.set rfl bS1 rfl
        have nq4 := NewSl.keep nq3 m2 kg8
        have mk4 := mk3.trans' m2 (S2 := one g) (fun _ _ k => k) (fun _ _ k => k)
        have hch2 : chn N X = ((X.take (k + 1)).map Prod.snd ++ (chn (N + ((k + 1 : Nat) : Int)) (X.drop (k + 1))).1, (chn (N + ((k + 1 : Nat) : Int)) (X.drop (k + 1))).2) := by
          rw [hch, chn_step hy hu, List.take_succ_eq_append_getElem hy, List.map_append, List.append_assoc]
          rfl
        subst hh9
        refine ⟨_, Forget.cons rfl (Forget.cons rfl (Forget.nil _)), ⟨k + 1, pG, hy, hch2, bS2, nq4, mk4, rfl⟩, ?_⟩
        show X.length - (k + 1) < X.length - k
        omega
      · conv => whnf
        refine ⟨[0, 2, 3, 4, 5, 6, 7, 9, 11, 16, 17, 18, 19, 20, 21, 1, 10, 8, 12, 13, 14, 15, 22, 23, 24, 25], [0, 0, 0, 4, 12, 28, 0, 124, 1278, 0, 2, 0, 3582, 8190, 16382, 32766, 0, 65536, 196608, 458752, 0, 2031616, 4194302, 8388607, 16777215, 33554431], by kernel_rfl, ?_⟩
        conv => whnf
        refine ⟨_, Cell.mk hb rfl, ?_⟩
        conv => whnf
        refine ⟨⟨_, hr.is⟩, j, rfl, Nat.zero_le _, hj, ?_⟩
        conv => whnf
        refine ⟨_, Cell.mk hb rfl, ?_⟩
        conv => whnf
        refine ⟨⟨_, hr.is⟩, j, rfl, hj, Nat.le_refl _, ?_⟩
        conv => whnf
        have rt := ro_take eC_len hr hj
        have rd := ro_drop eC_len hr hj
        have mo := mod_refl none_ hh
        obtain ⟨nA, mo⟩ := new0 2 mo
        obtain ⟨nB, nA, dis, mo⟩ := new0d 1 nA mo
        have dis := dis_comm dis
        refine ⟨_, _, nA.1, (rt.get mo).is, by rw [show (T.at_ 177).bytes = 32 from rfl]; omega, by omega, fun pA hA hs hm hf => ?_⟩
        obtain ⟨nA, nB, dis, mo⟩ := appD nA nB dis mo hs hm hf
        conv => whnf
        refine ⟨⟨⟨_, (hr.get mo).is⟩, j, rfl, hj, Nat.le_refl _, rfl⟩, ?_⟩
        conv => whnf
        refine ⟨⟨_, Cell.mk (mo.get hb (.inl (fun k => k))) rfl, rfl⟩, ?_⟩
        conv => whnf
        refine ⟨_, _, nB.1, SlIs.old nm mo (fun _ _ k => k), by rw [show (T.at_ 5).bytes = 1 from rfl]; omega, by omega, fun pB hB hs hm hf => ?_⟩
        obtain ⟨nB, nA, dis, mo⟩ := appD nB nA (dis_comm dis) mo hs hm hf
        have dis := dis_comm dis
        rw [Nat.zero_add, List.nil_append] at nB nA
        conv => whnf
        rw [show 0 + m = m from Nat.zero_add _]
        refine ⟨⟨⟨_, (hr.get mo).is⟩, j, rfl, hj, Nat.le_refl _, rfl⟩, ?_⟩
        conv => whnf
        refine ⟨⟨_, Cell.mk (mo.get hb (.inl (fun k => k))) rfl, rfl⟩, ?_⟩
        conv => whnf
        obtain ⟨nA, nB, mo⟩ := pushD (.row true 2 [i64 seq, .sl pB m]) nA nB mo
        rw [show 0 + (j - 0) = j - 0 from Nat.zero_add _]
        refine ⟨_, _, nA.1, (SlIs.row (n := 1) (sz := 2) (cs := [i64 seq, .sl pB m]) (H.obj_push_new _ _) rfl).weak, by rw [show (T.at_ 177).bytes = 32 from rfl]; omega, by omega, fun pC hC hs hm hf => ?_⟩
        obtain ⟨nA, nB, dis, mo⟩ := appD nA nB dis mo hs hm hf
        conv => whnf
        refine ⟨⟨⟨_, (hr.get mo).is⟩, j, rfl, hj, Nat.le_refl _, rfl⟩, ?_⟩
        conv => whnf
        refine ⟨⟨_, Cell.mk (mo.get hb (.inl (fun k => k))) rfl, rfl⟩, ?_⟩
        conv => whnf
        refine ⟨_, _, nA.1, (rd.get mo).is, by rw [show (T.at_ 177).bytes = 32 from rfl]; omega, by omega, fun pD hD hs hm hf => ?_⟩
        obtain ⟨nA, nB, dis, mo⟩ := appD nA nB dis mo hs hm hf
        conv => whnf
        refine ⟨_, _, mo.get hb (.inl (fun k => k)), Nat.le_of_ble_eq_true rfl, ?_⟩
        conv => whnf
        obtain ⟨X, hX⟩ : ∃ X, X = insS S seq (pB, body) := ⟨_, rfl⟩
        have el : j - 0 + 1 + (S.length - j) = X.length := by
          rw [hX, ← efin, List.length_append, List.length_cons, List.length_take, List.length_drop]
          omega
        have ef : (S.take j).flatMap eC ++ [i64 seq, .sl pB m] ++ (S.drop j).flatMap eC = X.flatMap eC := by
          rw [hX, ← efin, List.flatMap_append, List.flatMap_cons, List.append_assoc, hml]
          rfl
        rw [el, ef] at nA
        rw [el]
        have mS : Ab.Mod (one g) hD (hD.set g (.row true 3 [i64 W, i64 N, .sl pD X.length])) := Mod.set rfl (mo.get hb (.inl (fun k => k))) rfl
        have kg : ∀ i, one g i → i < hh.next := fun i hi => by
          have : i = g := hi
          omega
        have nA := NewSl.keep nA mS kg
        have nB := NewSl.keep nB mS kg
        have bx : (hD.set g (.row true 3 [i64 W, i64 N, .sl pD X.length])).obj g = some (.row true 3 [i64 W, i64 N, .sl pD X.length]) := H.obj_set_same (mo.get hb (.inl (fun k => k)))
        have mo : Ab.Mod (one g) hh (hD.set g (.row true 3 [i64 W, i64 N, .sl pD X.length])) := mo.trans' mS (fun _ _ k => k.elim) (fun _ _ k => k)
        have bx0 : (hD.set g (.row true 3 [i64 W, i64 N, .sl pD X.length])).obj g = some (.row true 3 [i64 W, i64 (N + ((0 : Nat) : Int)), .sl (slp pD (0 * 2)) (X.length - 0)]) := by
          rw [Nat.zero_mul, slp_zero, Nat.sub_zero, show N + ((0 : Nat) : Int) = N by omega]
          exact bx
        obtain ⟨h8, hh8⟩ : ∃ x, x = hD.set g (.row true 3 [i64 W, i64 N, .sl pD X.length]) := ⟨_, rfl⟩
        rw [← hh8] at nA nB bx mo
        have hXl : X.length ≤ 1001 := by
          rw [hX]
          have := insS_len seq (pB, body) S
          omega
        have hXN : ∀ x ∈ X, N ≤ x.1 → True := fun _ _ _ => trivial
        refine ⟨fun env hk => ∃ (k : Nat) (qq : Option (Nat × Nat)), k ≤ X.length ∧ chn N X = ((X.take k).map Prod.snd ++ (chn (N + (k : Int)) (X.drop k)).1, (chn (N + (k : Int)) (X.drop k)).2) ∧ hk.obj g = some (.row true 3 [i64 W, i64 (N + (k : Int)), .sl (slp pD (k * 2)) (X.length - k)]) ∧ NewSl h8 hk qq k 1 ((X.take k).flatMap fun x => slC x.2) ∧ Ab.Mod (one g) h8 hk ∧ env = [(9, .sl qq k), (0, .ptr (some (g, 0)))],
          fun env _ => match get env 9 with
            | .sl _ n => X.length - n
            | _ => 0, ⟨_, Forget.cons rfl (Forget.cons rfl (Forget.nil _)), 0, none, Nat.zero_le _, by simp, bx0, NewSl.nil _ _ _, by rw [hh8]; exact mod_refl _ _, rfl⟩, ?_⟩
        have hg8 : g < h8.next := h8.lt _ _ bx
        clear bx bx0 hh8
        rintro _ hk ⟨k, qq, hkX, hch, bx, nq, mk, rfl⟩
        conv => whnf
        refine ⟨[0, 1, 2, 3, 4, 5, 6, 7, 8, 9, 10, 11, 12, 13, 14, 15, 16, 17, 18, 19], [0, 1, 3, 7, 15, 31, 63, 127, 255, 511, 1023, 2047, 4095, 8191, 127, 16511, 49279, 114815, 262143, 524287], by kernel_rfl, ?_⟩
        conv => whnf
        refine ⟨_, Cell.mk bx rfl, ?_⟩
        conv => whnf
        have kg8 : ∀ i, one g i → i < h8.next := fun i hi => by
          have : i = g := hi
          omega
        have nA1 := NewSl.keep nA (S := one g) mk kg
        have nB1 := NewSl.keep nB (S := one g) mk kg
        have moK := mo.trans' mk (S2 := one g) (fun _ _ k => k) (fun _ _ k => k)
        have hsub := sub_is nA1.1 hkX
        have done : chn (N + (k : Int)) (X.drop k) = ([], N + (k : Int), X.drop k) → TakeR hh g W N S seq m body (.tup [.sl qq k, .bool true]) hk := fun e => by
          rw [e, List.append_nil] at hch
          exact .inr ⟨hmay, pB, pD, qq, k, X, hX, hkX, hch, rfl, bx, nA1, nB1, ⟨nq.1, fun i o e => Nat.le_trans mo.next (nq.2 i o e)⟩, moK⟩
        refine br_mk (fun hy => ?_) (fun hy => ?_)
        rotate_left
        · conv => whnf
          have hy : ¬ k < X.length := by
            have : ¬ ((X.length - k : Nat) : Int) > 0 := by simpa using hy
            omega
          exact done (chn_stop (.inl (by omega)) hkX)
        have hy : k < X.length := by
          have : ((X.length - k : Nat) : Int) > 0 := by simpa using hy
          omega
        conv => whnf
        refine ⟨_, Cell.mk bx rfl, ?_⟩
        conv => whnf
        have hdl : (X.drop k).length = X.length - k := List.length_drop
        have hd0 : 0 < (X.drop k).length := by omega
        have hX0 : (X.drop k)[0] = X[k] := by simp
        obtain ⟨i3, c3, w1, w2, w3⟩ := sls_get eC_len hsub hdl.symm hd0
        rw [hX0] at w3
        have v0 := w3 0 (i64 X[k].1) rfl
        have v1 := w3 1 (slV X[k].2) rfl
        refine ⟨i3, c3, 0, w1, rfl, by omega, ?_⟩
        conv => whnf
        refine ⟨_, v0, ?_⟩
        conv => whnf
        refine ⟨_, Cell.mk bx rfl, ?_⟩
        conv => whnf
        refine br_mk (fun hu => ?_) (fun hu => ?_)
        rotate_left
        · conv => whnf
          have hu : X[k].1 ≠ N + (k : Int) := by
            intro e
            rw [e] at hu
            simp at hu
          exact done (chn_stop (.inr ⟨hy, hu⟩) hkX)
        have hu : X[k].1 = N + (k : Int) := by simpa using hu
        conv => whnf
        refine ⟨_, Cell.mk bx rfl, ?_⟩
        conv => whnf
        refine ⟨i3, c3, 0, w1, rfl, by omega, ?_⟩
        conv => whnf
        refine ⟨_, v1, ?_⟩
        conv => whnf
        obtain ⟨y1, y2, y3⟩ := app1 nq mk (slC X[k].2) rfl
        refine ⟨_, _, y1, y2, by rw [show (T.at_ 33).bytes = 24 from rfl]; omega, by omega, fun pG hY hs2 hm2 hf2 => ?_⟩
        obtain ⟨nq2, mk2, my⟩ := y3 pG hY hs2 hm2 hf2
        have e6 : ((X.take k).flatMap fun x => slC x.2) ++ slC X[k].2 = (X.take (k + 1)).flatMap fun x => slC x.2 := by
          rw [List.take_succ_eq_append_getElem hy, List.flatMap_append]
          simp
        rw [e6] at nq2
        conv => whnf
        have bx2 := my.get bx (.inl (fun a => by
          obtain ⟨o, a⟩ := a
          have := nq.2 g o a
          omega))
        refine ⟨_, Cell.mk bx2 rfl, ?_⟩
        conv => whnf
        have hsub2 := sub_is (NewSl.keep nA (S := one g) mk2 kg).1 hkX
        refine ⟨⟨_, hsub2⟩, 1, rfl, by omega, Nat.le_refl _, ?_⟩
        conv => whnf
        refine ⟨_, _, bx2, Nat.le_of_ble_eq_true rfl, ?_⟩
        conv => whnf
        have bS1 : (hY.set g (.row true 3 [i64 W, i64 (N + (k : Int)), .sl (slp (slp pD (k * 2)) (1 * 2)) (X.length - k - 1)])).obj g = some (.row true 3 [i64 W, i64 (N + (k : Int)), .sl (slp (slp pD (k * 2)) (1 * 2)) (X.length - k - 1)]) := H.obj_set_same bx2
        have m1 : Ab.Mod (one g) hY (hY.set g (.row true 3 [i64 W, i64 (N + (k : Int)), .sl (slp (slp pD (k * 2)) (1 * 2)) (X.length - k - 1)])) := Mod.set rfl bx2 rfl
        have nq3 := NewSl.keep nq2 m1 kg8
        have mk3 := mk2.trans' m1 (S2 := one g) (fun _ _ k => k) (fun _ _ k => k)
        refine ⟨_, Cell.mk bS1 rfl, ?_⟩
        conv => whnf
        have hXS : (X.length : Int) ≤ 1001 := by omega
        have hwr : IntKind.i64.wrap (N + (k : Int) + 1) = N + ((k + 1 : Nat) : Int) := by rw [wrap_i64 (by omega) (by omega)]; omega
        rw [hwr]
        refine ⟨_, _, bS1, Nat.le_of_ble_eq_true rfl, ?_⟩
        conv => whnf
        obtain ⟨h9, hh9⟩ : ∃ x, x = hY.set g (.row true 3 [i64 W, i64 (N + (k : Int)), .sl (slp (slp pD (k * 2)) (1 * 2)) (X.length - k - 1)]) := ⟨_, rfl⟩
        rw [← hh9] at bS1 nq3 mk3
        have bS2 : (h9.set g (.row true 3 [i64 W, i64 (N + ((k + 1 : Nat) : Int)), .sl (slp (slp pD (k * 2)) (1 * 2)) (X.length - k - 1)])).obj g = some (.row true 3 [i64 W, i64 (N + ((k + 1 : Nat) : Int)), .sl (slp pD ((k + 1) * 2)) (X.length - (k + 1))]) := by
          rw [H.obj_set_same bS1, slp_slp, show k * 2 + 1 * 2 = (k + 1) * 2 by omega, show X.length - k - 1 = X.length - (k + 1) by omega]
        have m2 : Ab.Mod (one g) h9 (h9.set g (.row true 3 [i64 W, i64 (N + ((k + 1 : Nat) : Int)), .sl (slp (slp pD (k * 2)) (1 * 2)) (X.length - k - 1)])) := Mod.set rfl bS1 rfl
        have nq4 := NewSl.keep nq3 m2 kg8
        have mk4 := mk3.trans' m2 (S2 := one g) (fun _ _ k => k) (fun _ _ k => k)
        have hch2 : chn N X = ((X.take (k + 1)).map Prod.snd ++ (chn (N + ((k + 1 : Nat) : Int)) (X.drop (k + 1))).1, (chn (N + ((k + 1 : Nat) : Int)) (X.drop (k + 1))).2) := by
          rw [hch, chn_step hy hu, List.take_succ_eq_append_getElem hy, List.map_append, List.append_assoc]
          rfl
        subst hh9
        refine ⟨_, Forget.cons rfl (Forget.cons rfl (Forget.nil _)), ⟨k + 1, pG, hy, hch2, bS2, nq4, mk4, rfl⟩, ?_⟩
        show X.length - (k + 1) < X.length - k
        omega
    · conv => whnf
      refine ⟨[0, 2, 3, 4, 5, 6, 7, 9, 11, 16, 17, 18, 19, 20, 21, 10, 1, 8, 12, 13, 14, 15, 22, 23, 24, 25], [0, 1024, 0, 4, 12, 28, 0, 124, 1278, 0, 0, 0, 3582, 8190, 16382, 32766, 0, 65536, 196608, 458752, 0, 2031616, 4194302, 8388607, 16777215, 33554431], by kernel_rfl, ?_⟩
      conv => whnf
      refine ⟨_, Cell.mk hb rfl, ?_⟩
      conv => whnf
      refine ⟨⟨_, hr.is⟩, j, rfl, Nat.zero_le _, hj, ?_⟩
      conv => whnf
      refine ⟨_, Cell.mk hb rfl, ?_⟩
      conv => whnf
      refine ⟨⟨_, hr.is⟩, j, rfl, hj, Nat.le_refl _, ?_⟩
      conv => whnf
      have rt := ro_take eC_len hr hj
      have rd := ro_drop eC_len hr hj
      have mo := mod_refl none_ hh
      obtain ⟨nB, mo⟩ := new0 1 mo
      obtain ⟨nA, nB, dis, mo⟩ := new0d 2 nB mo
      refine ⟨_, _, nA.1, (rt.get mo).is, by rw [show (T.at_ 177).bytes = 32 from rfl]; omega, by omega, fun pA hA hs hm hf => ?_⟩
      obtain ⟨nA, nB, dis, mo⟩ := appD nA nB dis mo hs hm hf
      conv => whnf
      refine ⟨⟨⟨_, (hr.get mo).is⟩, j, rfl, hj, Nat.le_refl _, rfl⟩, ?_⟩
      conv => whnf
      refine ⟨⟨_, Cell.mk (mo.get hb (.inl (fun k => k))) rfl, rfl⟩, ?_⟩
      conv => whnf
      refine ⟨_, _, nB.1, SlIs.old nm mo (fun _ _ k => k), by rw [show (T.at_ 5).bytes = 1 from rfl]; omega, by omega, fun pB hB hs hm hf => ?_⟩
      obtain ⟨nB, nA, dis, mo⟩ := appD nB nA (dis_comm dis) mo hs hm hf
      have dis := dis_comm dis
      rw [Nat.zero_add, List.nil_append] at nB nA
      conv => whnf
      rw [show 0 + m = m from Nat.zero_add _]
      refine ⟨⟨⟨_, (hr.get mo).is⟩, j, rfl, hj, Nat.le_refl _, rfl⟩, ?_⟩
      conv => whnf
      refine ⟨⟨_, Cell.mk (mo.get hb (.inl (fun k => k))) rfl, rfl⟩, ?_⟩
      conv => whnf
      obtain ⟨nA, nB, mo⟩ := pushD (.row true 2 [i64 seq, .sl pB m]) nA nB mo
      rw [show 0 + (j - 0) = j - 0 from Nat.zero_add _]
      refine ⟨_, _, nA.1, (SlIs.row (n := 1) (sz := 2) (cs := [i64 seq, .sl pB m]) (H.obj_push_new _ _) rfl).weak, by rw [show (T.at_ 177).bytes = 32 from rfl]; omega, by omega, fun pC hC hs hm hf => ?_⟩
      obtain ⟨nA, nB, dis, mo⟩ := appD nA nB dis mo hs hm hf
      conv => whnf
      refine ⟨⟨⟨_, (hr.get mo).is⟩, j, rfl, hj, Nat.le_refl _, rfl⟩, ?_⟩
      conv => whnf
      refine ⟨⟨_, Cell.mk (mo.get hb (.inl (fun k => k))) rfl, rfl⟩, ?_⟩
      conv => whnf
      refine ⟨_, _, nA.1, (rd.get mo).is, by rw [show (T.at_ 177).bytes = 32 from rfl]; omega, by omega, fun pD hD hs hm hf => ?_⟩
      obtain ⟨nA, nB, dis, mo⟩ := appD nA nB dis mo hs hm hf
      conv => whnf
      refine ⟨_, _, mo.get hb (.inl (fun k => k)), Nat.le_of_ble_eq_true rfl, ?_⟩
      conv => whnf
      obtain ⟨X, hX⟩ : ∃ X, X = insS S seq (pB, body) := ⟨_, rfl⟩
      have el : j - 0 + 1 + (S.length - j) = X.length := by
        rw [hX, ← efin, List.length_append, List.length_cons, List.length_take, List.length_drop]
        omega
      have ef : (S.take j).flatMap eC ++ [i64 seq, .sl pB m] ++ (S.drop j).flatMap eC = X.flatMap eC := by
        rw [hX, ← efin, List.flatMap_append, List.flatMap_cons, List.append_assoc, hml]
        rfl
      rw [el, ef] at nA
      rw [el]
      have mS : Ab.Mod (one g) hD (hD.set g (.row true 3 [i64 W, i64 N, .sl pD X.length])) := Mod.set rfl (mo.get hb (.inl (fun k => k))) rfl
      have kg : ∀ i, one g i → i < hh.next := fun i hi => by
        have : i = g := hi
        omega
      have nA := NewSl.keep nA mS kg
      have nB := NewSl.keep nB mS kg
      have bx : (hD.set g (.row true 3 [i64 W, i64 N, .sl pD X.length])).obj g = some (.row true 3 [i64 W, i64 N, .sl pD X.length]) := H.obj_set_same (mo.get hb (.inl (fun k => k)))
      have mo : Ab.Mod (one g) hh (hD.set g (.row true 3 [i64 W, i64 N, .sl pD X.length])) := mo.trans' mS (fun _ _ k => k.elim) (fun _ _ k => k)
      have bx0 : (hD.set g (.row true 3 [i64 W, i64 N, .sl pD X.length])).obj g = some (.row true 3 [i64 W, i64 (N + ((0 : Nat) : Int)), .sl (slp pD (0 * 2)) (X.length - 0)]) := by
        rw [Nat.zero_mul, slp_zero, Nat.sub_zero, show N + ((0 : Nat) : Int) = N by omega]
        exact bx
      obtain ⟨h8, hh8⟩ : ∃ x, x = hD.set g (.row true 3 [i64 W, i64 N, .sl pD X.length]) := ⟨_, rfl⟩
      rw [← hh8] at nA nB bx mo
      have hXl : X.length ≤ 1001 := by
        rw [hX]
        have := insS_len seq (pB, body) S
        omega
      have hXN : ∀ x ∈ X, N ≤ x.1 → True := fun _ _ _ => trivial
      refine ⟨fun env hk => ∃ (k : Nat) (qq : Option (Nat × Nat)), k ≤ X.length ∧ chn N X = ((X.take k).map Prod.snd ++ (chn (N + (k : Int)) (X.drop k)).1, (chn (N + (k : Int)) (X.drop k)).2) ∧ hk.obj g = some (.row true 3 [i64 W, i64 (N + (k : Int)), .sl (slp pD (k * 2)) (X.length - k)]) ∧ NewSl h8 hk qq k 1 ((X.take k).flatMap fun x => slC x.2) ∧ Ab.Mod (one g) h8 hk ∧ env = [(9, .sl qq k), (0, .ptr (some (g, 0)))],
        fun env _ => match get env 9 with
          | .sl _ n => X.length - n
          | _ => 0, ⟨_, Forget.cons rfl (Forget.cons rfl (Forget.nil _)), 0, none, Nat.zero_le _, by simp, bx0, NewSl.nil _ _ _, by rw [hh8]; exact mod_refl _ _, rfl⟩, ?_⟩
      have hg8 : g < h8.next := h8.lt _ _ bx
      clear bx bx0 hh8
      rintro _ hk ⟨k, qq, hkX, hch, bx, nq, mk, rfl⟩
      conv => whnf
      refine ⟨[0, 1, 2, 3, 4, 5, 6, 7, 8, 9, 10, 11, 12, 13, 14, 15, 16, 17, 18, 19], [0, 1, 3, 7, 15, 31, 63, 127, 255, 511, 1023, 2047, 4095, 8191, 127, 16511, 49279, 114815, 262143, 524287], by kernel_rfl, ?_⟩
      conv => whnf
      refine ⟨_, Cell.mk bx rfl, ?_⟩
      conv => whnf
      have kg8 : ∀ i, one g i → i < h8.next := fun i hi => by
        have : i = g := hi
        omega
      have nA1 := NewSl.keep nA (S := one g) mk kg
      have nB1 := NewSl.keep nB (S := one g) mk kg
      have moK := mo.trans' mk (S2 := one g) (fun _ _ k => k) (fun _ _ k => k)
      have hsub := sub_is nA1.1 hkX
      have done : chn (N + (k : Int)) (X.drop k) = ([], N + (k : Int), X.drop k) → TakeR hh g W N S seq m body (.tup [.sl qq k, .bool true]) hk := fun e => by
        rw [e, List.append_nil] at hch
        exact .inr ⟨hmay, pB, pD, qq, k, X, hX, hkX, hch, rfl, bx, nA1, nB1, ⟨nq.1, fun i o e => Nat.le_trans mo.next (nq.2 i o e)⟩, moK⟩
      refine br_mk (fun hy => ?_) (fun hy => ?_)
      rotate_left
      · conv => whnf
        have hy : ¬ k < X.length := by
          have : ¬ ((X.length - k : Nat) : Int) > 0 := by simpa using hy
          omega
        exact done (chn_stop (.inl (by omega)) hkX)
      have hy : k < X.length := by
        have : ((X.length - k : Nat) : Int) > 0 := by simpa using hy
        omega
      conv => whnf
      refine ⟨_, Cell.mk bx rfl, ?_⟩
      conv => whnf
      have hdl : (X.drop k).length = X.length - k := List.length_drop
      have hd0 : 0 < (X.drop k).length := by omega
      have hX0 : (X.drop k)[0] = X[k] := by simp
      obtain ⟨i3, c3, w1, w2, w3⟩ := sls_get eC_len hsub hdl.symm hd0
      rw [hX0] at w3
      have v0 := w3 0 (i64 X[k].1) rfl
      have v1 := w3 1 (slV X[k].2) rfl
      refine ⟨i3, c3, 0, w1, rfl, by omega, ?_⟩
      conv => whnf
      refine ⟨_, v0, ?_⟩
      conv => whnf
      refine ⟨_, Cell.mk bx rfl, ?_⟩
      conv => whnf
      refine br_mk (fun hu => ?_) (fun hu => ?_)
      rotate_left
      · conv => whnf
        have hu : X[k].1 ≠ N + (k : Int) := by
          intro e
          rw [e] at hu
          simp at hu
        exact done (chn_stop (.inr ⟨hy, hu⟩) hkX)
      have hu : X[k].1 = N + (k : Int) := by simpa using hu
      conv => whnf
      refine ⟨_, Cell.mk bx rfl, ?_⟩
      conv => whnf
      refine ⟨i3, c3, 0, w1, rfl, by omega, ?_⟩
      conv => whnf
      refine ⟨_, v1, ?_⟩
      conv => whnf
      obtain ⟨y1, y2, y3⟩ := app1 nq mk (slC X[k].2) rfl
      refine ⟨_, _, y1, y2, by rw [show (T.at_ 33).bytes = 24 from rfl]; omega, by omega, fun pG hY hs2 hm2 hf2 => ?_⟩
      obtain ⟨nq2, mk2, my⟩ := y3 pG hY hs2 hm2 hf2
      have e6 : ((X.take k).flatMap fun x => slC x.2) ++ slC X[k].2 = (X.take (k + 1)).flatMap fun x => slC x.2 := by
        rw [List.take_succ_eq_append_getElem hy, List.flatMap_append]
        simp
      rw [e6] at nq2
      conv => whnf
      have bx2 := my.get bx (.inl (fun a => by
        obtain ⟨o, a⟩ := a
        have := nq.2 g o a
        omega))
      refine ⟨_, Cell.mk bx2 rfl, ?_⟩
      conv => whnf
      have hsub2 := sub_is (NewSl.keep nA (S := one g) mk2 kg).1 hkX
      refine ⟨⟨_, hsub2⟩, 1, rfl, by omega, Nat.le_refl _, ?_⟩
      conv => whnf
      refine ⟨_, _, bx2, Nat.le_of_ble_eq_true rfl, ?_⟩
      conv => whnf
      have bS1 : (hY.set g (.row true 3 [i64 W, i64 (N + (k : Int)), .sl (slp (slp pD (k * 2)) (1 * 2)) (X.length - k - 1)])).obj g = some (.row true 3 [i64 W, i64 (N + (k : Int)), .sl (slp (slp pD (k * 2)) (1 * 2)) (X.length - k - 1)]) := H.obj_set_same bx2
      have m1 : Ab.Mod (one g) hY (hY.set g (.row true 3 [i64 W, i64 (N + (k : Int)), .sl (slp (slp pD (k * 2)) (1 * 2)) (X.length - k - 1)])) := Mod.set rfl bx2 rfl
      have nq3 := NewSl.keep nq2 m1 kg8
      have mk3 := mk2.trans' m1 (S2 := one g) (fun _ _ k => k) (fun _ _ k => k)
      refine ⟨_, Cell.mk bS1 rfl, ?_⟩
      conv => whnf
      have hXS : (X.length : Int) ≤ 1001 := by omega
      have hwr : IntKind.i64.wrap (N + (k : Int) + 1) = N + ((k + 1 : Nat) : Int) := by rw [wrap_i64 (by omega) (by omega)]; omega
      rw [hwr]
      refine ⟨_, _, bS1, Nat.le_of_ble_eq_true rfl, ?_⟩
      conv => whnf
      obtain ⟨h9, hh9⟩ : ∃ x, x = hY.set g (.row true 3 [i64 W, i64 (N + (k : Int)), .sl (slp (slp pD (k * 2)) (1 * 2)) (X.length - k - 1)]) := ⟨_, rfl⟩
      rw [← hh9] at bS1 nq3 mk3
      have bS2 : (h9.set g (.row true 3 [i64 W, i64 (N + ((k + 1 : Nat) : Int)), .sl (slp (slp pD (k * 2)) (1 * 2)) (X.length - k - 1)])).obj g = some (.row true 3 [i64 W, i64 (N + ((k + 1 : Nat) : Int)), .sl (slp pD ((k + 1) * 2)) (X.length - (k + 1))]) := by
        rw [H.obj_set_same bS1, slp_slp, show k * 2 + 1 * 2 = (k + 1) * 2 by omega, show X.length - k - 1 = X.length - (k + 1) by omega]
      have m2 : Ab.Mod (one g) h9 (h9.set g (.row true 3 [i64 W, i64 (N + ((k + 1 : Nat) : Int)), .sl (slp (slp pD (k * 2)) (1 * 2)) (X.length - k - 1)])) := Mod.set rfl bS1 rfl
      have nq4 := NewSl.keep nq3 m2 kg8
      have mk4 := mk3.trans' m2 (S2 := one g) (fun _ _ k => k) (fun _ _ k => k)
      have hch2 : chn N X = ((X.take (k + 1)).map Prod.snd ++ (chn (N + ((k + 1 : Nat) : Int)) (X.drop (k + 1))).1, (chn (N + ((k + 1 : Nat) : Int)) (X.drop (k + 1))).2) := by
        rw [hch, chn_step hy hu, List.take_succ_eq_append_getElem hy, List.map_append, List.append_assoc]
        rfl
      subst hh9
      refine ⟨_, Forget.cons rfl (Forget.cons rfl (Forget.nil _)), ⟨k + 1, pG, hy, hch2, bS2, nq4, mk4, rfl⟩, ?_⟩
      show X.length - (k + 1) < X.length - k
      omega
theorem ro3 {P : Go.Program} {f : Nat} {vs : List V} {h : H} {Q Q' : V → H → Prop} (c : ACalls P f vs h Q) (k : ∀ r h', Q r h' → ∃ i j l, Q' r (((h'.ro i).ro j).ro l)) : ACalls P f vs h Q' :=
  ((c.ro (Q' := fun r h' => ∃ j l, Q' r ((h'.ro j).ro l)) k).ro (Q' := fun r h' => ∃ l, Q' r (h'.ro l)) (fun _ _ q => q)).ro (fun _ _ q => q)
theorem RTk.ro {h : H} {g : Nat} {W N : Int} {S : Ent} (s : RTk h g W N S) {i : Nat} (hg : g ≠ i) : RTk (h.ro i) g W N S := by
  obtain ⟨⟨p, h1, h2⟩, h3⟩ := s
  exact ⟨⟨p, by rw [H.ro_ne _ hg, h1], h2.ro i⟩, fun x hx => (h3 x hx).ro i⟩
def RTkC (h : H) (g : Nat) (W N : Int) (C : Hd) : Prop := ∃ S, RTk h g W N S ∧ encM Prod.snd S = C
theorem RTkC.get {Z : Nat → Prop} {h h' : H} {g : Nat} {W N : Int} {C : Hd} (s : RTkC h g W N C) (m : Ab.Mod Z h h') (hg : ¬ Z g) : RTkC h' g W N C := by
  obtain ⟨S, h1, h2⟩ := s
  exact ⟨S, h1.get m hg, h2⟩
theorem RTkC.old {h h' : H} {g : Nat} {W N : Int} {C : Hd} (s : RTkC h g W N C) (m : Ab.Mod none_ h h') : RTkC h' g W N C := s.get m (fun k => k)
theorem RTkC.lt {h : H} {g : Nat} {W N : Int} {C : Hd} (s : RTkC h g W N C) : g < h.next := by
  obtain ⟨S, h1, _⟩ := s
  exact h1.lt
theorem RTkC.n {h : H} {g : Nat} {W N : Int} {C : Hd} (s : RTkC h g W N C) : Cell h g 1 (i64 N) := by
  obtain ⟨S, ⟨⟨p, h1, _⟩, _⟩, _⟩ := s
  exact Cell.mk h1 rfl
def RTakeC (h : H) (g : Nat) (W N : Int) (C : Hd) (seq : Int) (body : List Int) (r : V) (h' : H) : Prop :=
  ∃ q, r = .tup [.sl q (tkV W N C seq body).2.1.length, .bool (tkV W N C seq body).1] ∧ Rws h' q (tkV W N C seq body).2.1 ∧ RTkC h' g W (tkV W N C seq body).2.2.1 (tkV W N C seq body).2.2.2 ∧ Ab.Mod (one g) h h'
theorem ro_sub {h : H} {p : Option (Nat × Nat)} {X : Ent} (o : RoSl h p X.length 2 (X.flatMap eC)) {k : Nat} (hk : k ≤ X.length) : RoSl h (slp p (k * 2)) (X.drop k).length 2 ((X.drop k).flatMap eC) := by
  rw [List.length_drop]
  exact ro_drop eC_len o hk
theorem take30c {h : H} {g : Nat} {W N : Int} {C : Hd} (s : RTkC h g W N C) (ok : okW W = true) (o : OkH W N C) (hN0 : 0 ≤ N) (hN1 : N ≤ 1000000) {seq : Int} (hs : inI seq) {q : Option (Nat × Nat)} {m : Nat} {body : List Int} (nm : SlIs h q m false 1 (ints .u8 body)) (hm : m ≤ 100000) :
    ACalls Try.prog 91 [.ptr (some (g, 0)), i64 seq, .sl q m] h (RTakeC h g W N C seq body) := by
  obtain ⟨S, st, hC⟩ := s
  have hW : 1 ≤ W ∧ W ≤ 16 := by simpa [okW] using ok
  have hml := slo_len nm
  have hlt := st.lt
  have hlen : C.length = S.length := by rw [← hC, encM_length]
  have hasc : AscS S := by
    have := o.asc
    rw [← hC] at this
    exact (encM_asc Prod.snd).1 this
  have hl := o.len hW.1
  have hmay : mayT W N seq S = mayC W N seq C := by
    rw [mayT, mayC, ← hC, encM_get]
    cases sget S seq <;> rfl
  refine ro3 (take30 st hasc ok hN0 hN1 (by omega) hs nm hm) ?_
  rintro r h' (⟨e, rfl, eh⟩ | ⟨e, pb, pC, q, k, X, hX, hk, hch, rfl, hb, nA, nB, nq, m'⟩)
  · subst eh
    rw [hmay] at e
    have hv : tkV W N C seq body = (false, [], N, C) := by rw [tkV, if_neg (by rw [e]; simp)]
    unfold RTakeC
    rw [hv]
    exact ⟨h'.next, h'.next, h'.next, none, rfl, ⟨[], RoSl.nil _ _ _, (fun x hx => by cases hx), rfl⟩, ⟨S, ((st.ro (by omega)).ro (by omega)).ro (by omega), hC⟩, (((mod_refl _ _).ro_new (Nat.le_refl _)).ro_new (Nat.le_refl _)).ro_new (Nat.le_refl _)⟩
  · rw [hmay] at e
    have key : chn N (insS C seq body) = ((X.take k).map fun x => x.2.2, N + (k : Int), encM Prod.snd (X.drop k)) := by
      have e1 : insS C seq body = encM Prod.snd X := by rw [← hC, hX]; exact encM_ins Prod.snd S seq (pb, body)
      rw [e1, chn_map, hch, List.map_map]
      rfl
    have hv : tkV W N C seq body = (true, (X.take k).map (fun x => x.2.2), N + (k : Int), encM Prod.snd (X.drop k)) := by rw [tkV, if_pos e, key]
    obtain ⟨i, h1, h2, h3⟩ := NR.freeze (.inl nA) m'
    obtain ⟨j, k1, k2, k3⟩ := ((NR.ro (.inl nB) i : NR h (h'.ro i) pb m 1 (ints .u8 body))).freeze h3
    obtain ⟨l, l1, l2, l3⟩ := (((NR.ro (.inl nq) i : NR h (h'.ro i) q k 1 _).ro j)).freeze k3
    refine ⟨i, j, l, ?_⟩
    unfold RTakeC
    rw [hv]
    have hgl : ((X.take k).map fun x => x.2.2).length = k := by simp [hk]
    have hXok : ∀ x ∈ X, bOk (((h'.ro i).ro j).ro l) x.2 := by
      rw [hX]
      refine insS_ent (fun x hx => ?_) ?_ seq
      · exact ((((st.ent x hx).get m').ro i).ro j).ro l
      · show RoSl _ pb body.length 1 (ints .u8 body)
        rw [← hml]
        exact k2.ro l
    have hs := ro_sub ((h2.ro j).ro l) hk
    refine ⟨q, ?_, ⟨(X.take k).map Prod.snd, ?_, fun x hx => ?_, ?_⟩, ⟨X.drop k, ⟨⟨slp pC (k * 2), ?_, hs⟩, fun x hx => hXok x (List.mem_of_mem_drop hx)⟩, rfl⟩, l3⟩
    · show V.tup [.sl q k, .bool true] = V.tup [.sl q ((X.take k).map fun x => x.2.2).length, .bool true]
      rw [hgl]
    · show RoSl _ q ((X.take k).map fun x => x.2.2).length 1 _
      rw [hgl, List.flatMap_map]
      exact l2
    · obtain ⟨y, hy, rfl⟩ := List.mem_map.1 hx
      exact hXok y (List.mem_of_mem_take hy)
    · rw [List.map_map]
      rfl
    · rw [H.ro_ne _ (by omega), H.ro_ne _ (by omega), H.ro_ne _ (by omega), hb, List.length_drop]
def Oct (b : List Int) : Prop := ∀ x ∈ b, 0 ≤ x ∧ x < 256
theorem rows31 {h : H} {p q : Option (Nat × Nat)} {L K : List (List Int)} (ra : Rws h p L) (rb : Rws h q K) (ha : ∀ b ∈ L, Oct b) (hb : ∀ b ∈ K, Oct b) (hn : L.length ≤ 1000000) :
    ACalls Try.prog 61 [.sl p L.length, .sl q K.length] h (fun r h' => h' = h ∧ r = .bool (decide (L = K))) := by
  refine call_ Try.func61 rfl rfl (by kernel_rfl) ?_
  conv => whnf
  refine br_mk (fun hd => ?_) (fun hd => ?_)
  · conv => whnf
    have hd : ¬ L.length = K.length := by
      intro e
      rw [e] at hd
      simp at hd
    exact ⟨rfl, by rw [decide_eq_false (by rintro rfl; omega)]⟩
  conv => whnf
  have hnm : L.length = K.length := by
    have : (L.length : Int) = K.length := by simpa using hd
    omega
  clear hd
  refine ⟨fun env hh => ∃ (j : Nat) (z : Int), j ≤ L.length ∧ z = j ∧ hh = h ∧ (∀ k (h1 : k < L.length) (h2 : k < K.length), k < j → L[k] = K[k]) ∧ env = [(5, i64 z), (0, .sl p L.length), (1, .sl q K.length)],
    fun env _ => match get env 5 with
      | .int _ z => (L.length - z).toNat
      | _ => 0, ⟨_, Forget.cons rfl (Forget.cons rfl (Forget.cons rfl (Forget.nil _))), 0, _, Nat.zero_le _, rfl, rfl, fun k _ _ hk => absurd hk (Nat.not_lt_zero k), rfl⟩, ?_⟩
  rintro _ hh ⟨j, z, hj, rfl, eh, hall, rfl⟩
  subst eh
  conv => whnf
  refine br_mk (fun hd => ?_) (fun hd => ?_)
  · conv => whnf
    have hd : j < L.length := by simpa using hd
    have hdk : j < K.length := by omega
    refine ⟨[0, 1, 2, 3, 4, 5, 6, 7, 8, 9, 10], [0, 0, 3, 7, 15, 0, 0, 96, 224, 480, 1023], by kernel_rfl, ?_⟩
    conv => whnf
    obtain ⟨i1, c1, p1, f1, f2, f3⟩ := ra.cell hd
    refine ⟨i1, c1, j, f1, rfl, hd, ?_⟩
    conv => whnf
    refine ⟨_, f2, ?_⟩
    conv => whnf
    refine ⟨_, f3.is, ha _ (List.getElem_mem hd), ?_⟩
    conv => whnf
    obtain ⟨i2, c2, p2, g1, g2, g3⟩ := rb.cell hdk
    refine ⟨i2, c2, j, g1, rfl, hdk, ?_⟩
    conv => whnf
    refine ⟨_, g2, ?_⟩
    conv => whnf
    refine ⟨_, g3.is, hb _ (List.getElem_mem hdk), ?_⟩
    conv => whnf
    refine br_mk (fun he => ?_) (fun he => ?_)
    · conv => whnf
      refine ⟨rfl, by rw [decide_eq_false]; rintro rfl; simp at he⟩
    · conv => whnf
      have he : L[j] = K[j] := by simpa using he
      refine ⟨_, Forget.cons rfl (Forget.cons rfl (Forget.cons rfl (Forget.nil _))), ⟨j + 1, _, hd, succ_i64 hd (by omega), rfl, fun k h1 h2 hk => ?_, rfl⟩, mu_lt hd hn⟩
      by_cases e : k = j
      · subst e; exact he
      · exact hall k h1 h2 (by omega)
  · conv => whnf
    have hd : ¬ j < L.length := by simpa using hd
    have : L = K := List.ext_getElem hnm (fun k h1 h2 => hall k h1 h2 (by omega))
    exact ⟨rfl, by rw [decide_eq_true this]⟩
end Go.Proofs.Ytoljllfbabahpaa
