/- Tables: who is there; who goes. -/
import Derived.Test.YtoljllfbabahpaaU51
set_option linter.unusedVariables false
namespace Go.Proofs.Ytoljllfbabahpaa
open Go Go.Ab
/-- who is asked for -/
def getV (E : En) (p c : Int) : V := match sget E p with
  | some x => if x.2 = c then eV x else .ptr none
  | none => .ptr none
theorem get00 (h : H) (p c : Int) : ACalls Try.prog 32 [.ptr none, i64 p, i64 c] h (fun r h' => h' = h ∧ r = .ptr none) := by
  refine call_ Try.func32 rfl rfl (by kernel_rfl) ?_
  conv => whnf
  exact ⟨rfl, rfl⟩
theorem get32 {h : H} {t mi gi : Nat} {most : Int} {E : En} {G : List (Int × Int)} (s : TbSt h t mi gi most E G) (p c : Int) : ACalls Try.prog 32 [.ptr (some (t, 0)), i64 p, i64 c] h (fun r h' => h' = h ∧ r = getV E p c) := by
  refine call_ Try.func32 rfl rfl (by kernel_rfl) ?_
  conv => whnf
  obtain ⟨ms, a1, a2⟩ := s.map
  refine ⟨_, Cell.mk s.box rfl, ?_⟩
  conv => whnf
  refine ⟨_, _, a1, ?_⟩
  have em : (mget (encM eV ms) p).getD (T.at_ 59).zero = match sget E p with
      | some x => eV x
      | none => .ptr none := by
    rw [mget_i a2]
    cases sget E p <;> rfl
  rw [em]
  unfold getV
  cases hs : sget E p with
  | none =>
    conv => whnf
    exact ⟨rfl, rfl⟩
  | some x =>
    obtain ⟨v, e⟩ := s.ent (p, x) ((sget_mem s.asc.nodup).1 hs)
    conv => whnf
    refine ⟨_, Cell.mk e rfl, ?_⟩
    conv => whnf
    refine br_mk (fun ha => ?_) (fun ha => ?_)
    · conv => whnf
      have ha : x.2 = c := by simpa using ha
      exact ⟨rfl, by show _ = (if x.2 = c then eV x else V.ptr none); rw [if_pos ha]; rfl⟩
    · conv => whnf
      have ha : ¬ x.2 = c := by simpa using ha
      exact ⟨rfl, by show _ = (if x.2 = c then eV x else V.ptr none); rw [if_neg ha]⟩
theorem len00 (h : H) : ACalls Try.prog 34 [.ptr none] h (fun r h' => h' = h ∧ r = i64 0) := by
  refine call_ Try.func34 rfl rfl (by kernel_rfl) ?_
  conv => whnf
  exact ⟨rfl, rfl⟩
theorem len34 {h : H} {t mi gi : Nat} {most : Int} {E : En} {G : List (Int × Int)} (s : TbSt h t mi gi most E G) : ACalls Try.prog 34 [.ptr (some (t, 0))] h (fun r h' => h' = h ∧ r = i64 E.length) := by
  refine call_ Try.func34 rfl rfl (by kernel_rfl) ?_
  conv => whnf
  obtain ⟨ms, a1, a2⟩ := s.map
  have hlen : (mpE .i64 (encM eV ms)).length = E.length := by
    rw [mpE, List.length_map, encM_length, a2.length s.asc]
  refine ⟨_, Cell.mk s.box rfl, ?_⟩
  conv => whnf
  refine ⟨_, _, a1, ?_⟩
  rw [hlen]
  conv => whnf
  exact ⟨rfl, rfl⟩
def enC (x : Int × (Nat × Int)) : List V := [eV x.2]
theorem enC_len (x : Int × (Nat × Int)) : (enC x).length = 1 := rfl
/-- entries: a row that nobody writes -/
structure Ens (h : H) (q : Option (Nat × Nat)) (L : En) : Prop where
  sl : RoSl h q L.length 1 (L.flatMap enC)
  ent : ∀ x ∈ L, EnSt h x.2.1 x.1 x.2.2
theorem Ens.get {Z : Nat → Prop} {h h' : H} {q : Option (Nat × Nat)} {L : En} (s : Ens h q L) (m : Ab.Mod Z h h') : Ens h' q L := ⟨s.sl.get m, fun x hx => (s.ent x hx).get m⟩
theorem Ens.cell {h : H} {q : Option (Nat × Nat)} {L : En} (s : Ens h q L) {j : Nat} (hj : j < L.length) : ∃ i c, q = some (i, c) ∧ Cell h i (c + j * 1) (eV L[j].2) := by
  obtain ⟨i, c, f1, f2, f3⟩ := sls_get enC_len s.sl.is rfl hj
  exact ⟨i, c, f1, f3 0 _ rfl⟩
def AllQ (h : H) (E : En) (r : V) (h' : H) : Prop := ∃ q, r = .sl q E.length ∧ Ens h' q E ∧ Ab.Mod none_ h h'
set_option maxHeartbeats 1000000 in
theorem all37 {h : H} {t mi gi : Nat} {most : Int} {E : En} {G : List (Int × Int)} (s : TbSt h t mi gi most E G) : ACalls Try.prog 37 [.ptr (some (t, 0))] h (AllQ h E) := by
  have hsm := s.small
  refine ACalls.ro (Q := fun r h' => ∃ q, r = .sl q E.length ∧ NewSl h h' q E.length 1 (E.flatMap enC) ∧ Ab.Mod none_ h h') ?_ (by
    rintro r h' ⟨q, rfl, nq, m⟩
    obtain ⟨i, a1, a2, a3⟩ := nq.freeze m
    exact ⟨i, q, rfl, ⟨a2, fun x hx => (s.ent x hx).get a3⟩, a3⟩)
  refine call_ Try.func37 rfl rfl (by kernel_rfl) ?_
  conv => whnf
  obtain ⟨ms, a1, a2⟩ := s.map
  refine ⟨_, Cell.mk s.box rfl, ?_⟩
  conv => whnf
  refine (keys69 h mi).mono ?_
  rintro _ h1 ⟨rfl, rfl⟩
  conv => whnf
  have m1 := Mod.push none_ h (.row true 1 [.mp (some mi)])
  have hkk : (encM eV ms).map (·.1) = keys ms := encM_keys eV ms
  have hnd : ((encM eV ms).map (·.1)).Nodup := by rw [hkk]; exact a2.1
  have hlm : ms.length = E.length := a2.length s.asc
  refine (sorted66 (.inr rfl) (H.obj_push_new h _) (m1.get a1 (.inl (fun k => k))) hnd (fun x hx => ?_) (by rw [encM_length]; omega)).mono ?_
  · have hm : x.1 ∈ (encM eV ms).map (·.1) := List.mem_map.2 ⟨x, hx, rfl⟩
    rw [hkk, ← sget_some, a2.2, sget_some] at hm
    have hr := s.rng _ hm
    exact i64_in (by omega) (by omega)
  rintro _ h2 ⟨q, rfl, nq, m2⟩
  rw [hkk, encM_length, hlm] at nq
  have hks : ((keys ms).mergeSort leZ) = keys E := a2.keys s.asc
  rw [hks] at nq
  rw [encM_length, hlm]
  have mA := mod_none m1 m2
  have s2 := s.old mA
  have b1 := mA.get a1 (.inl (fun k => k))
  have rq : SlIs h2 q E.length true 1 (ints .i64 (keys E)) := nq.1
  conv => whnf
  refine ⟨fun env hh => ∃ (j : Nat) (z : Int) (po : Option (Nat × Nat)), j ≤ E.length ∧ z = j ∧ NewSl h2 hh po j 1 ((E.take j).flatMap enC) ∧ Ab.Mod none_ h2 hh ∧ env = [(14, i64 z), (2, .sl po j), (13, i64 E.length), (12, .sl q E.length), (0, .ptr (some (t, 0)))],
    fun env _ => match get env 14 with
      | .int _ z => ((E.length : Int) - z).toNat
      | _ => 0, ⟨_, Forget.cons rfl (Forget.cons rfl (Forget.cons rfl (Forget.cons rfl (Forget.cons rfl (Forget.nil _))))), 0, _, none, Nat.zero_le _, rfl, NewSl.nil _ _ _, mod_refl _ _, rfl⟩, ?_⟩
  rintro _ hh ⟨j, z, po, hj, rfl, no, mo, rfl⟩
  conv => whnf
  refine br_mk (fun hd => ?_) (fun hd => ?_)
  rotate_left
  · conv => whnf
    have hd : ¬ j < E.length := by simpa using hd
    obtain rfl : j = E.length := by omega
    rw [List.take_length] at no
    exact ⟨po, rfl, ⟨no.1, fun i o e => Nat.le_trans mA.next (no.2 i o e)⟩, mod_none mA mo⟩
  conv => whnf
  have hd : j < E.length := by simpa using hd
  obtain ⟨i1, c1, f1, f2⟩ := slo_get (SlIs.old rq mo (fun _ _ k => k)) hd
  have ek : (keys E).getD j 0 = E[j].1 := by simp [keys, List.getD_eq_getElem?_getD, hd]
  rw [ek] at f2
  refine ⟨i1, c1, j, f1, rfl, hd, ?_⟩
  conv => whnf
  refine ⟨_, f2, ?_⟩
  conv => whnf
  refine ⟨_, Cell.mk (s2.old mo).box rfl, ?_⟩
  conv => whnf
  refine ⟨_, _, mo.get b1 (.inl (fun k => k)), ?_⟩
  have em : (mget (encM eV ms) E[j].1).getD (T.at_ 59).zero = eV E[j].2 := by
    rw [mget_i a2, (sget_mem s.asc.nodup).2 (show (E[j].1, E[j].2) ∈ E from List.getElem_mem hd)]
    rfl
  rw [em]
  conv => whnf
  obtain ⟨y1, y2, y3⟩ := app1 no mo [eV E[j].2] rfl
  refine ⟨_, _, y1, y2, by rw [show (T.at_ 59).bytes = 8 from rfl]; omega, by omega, fun p' h' hs hm hf => ?_⟩
  obtain ⟨ng8, mo8, _⟩ := y3 p' h' hs hm hf
  have e6 : (E.take j).flatMap enC ++ [eV E[j].2] = (E.take (j + 1)).flatMap enC := by
    rw [List.take_succ_eq_append_getElem hd, List.flatMap_append]
    simp [enC]
  rw [e6] at ng8
  conv => whnf
  rw [succ_i64 hd (by omega)]
  refine ⟨_, Forget.cons rfl (Forget.cons rfl (Forget.cons rfl (Forget.cons rfl (Forget.cons rfl (Forget.nil _))))), ⟨j + 1, _, p', hd, rfl, ng8, mo8, rfl⟩, ?_⟩
  show ((E.length : Int) - ((j + 1 : Nat) : Int)).toNat < ((E.length : Int) - (j : Int)).toNat
  omega
def PeersQ (h : H) (L : En) (r : V) (h' : H) : Prop := ∃ q, r = .sl q L.length ∧ RoSl h' q L.length 1 (ints .i64 (keys L)) ∧ Ab.Mod none_ h h'
theorem peers36 {h : H} {p : Option (Nat × Nat)} {L : En} (s : Ens h p L) (hL : L.length ≤ 100000) : ACalls Try.prog 36 [.sl p L.length] h (PeersQ h L) := by
  refine ACalls.ro (Q := fun r h' => ∃ q, r = .sl q L.length ∧ NewSl h h' q L.length 1 (ints .i64 (keys L)) ∧ Ab.Mod none_ h h') ?_ (by
    rintro r h' ⟨q, rfl, nq, m⟩
    obtain ⟨i, a1, a2, a3⟩ := nq.freeze m
    exact ⟨i, q, rfl, a2, a3⟩)
  refine call_ Try.func36 rfl rfl (by kernel_rfl) ?_
  conv => whnf
  refine ⟨fun env hh => ∃ (j : Nat) (z : Int) (po : Option (Nat × Nat)), j ≤ L.length ∧ z = j ∧ NewSl h hh po j 1 (ints .i64 (keys (L.take j))) ∧ Ab.Mod none_ h hh ∧ env = [(4, i64 z), (3, .sl po j), (0, .sl p L.length)],
    fun env _ => match get env 4 with
      | .int _ z => ((L.length : Int) - z).toNat
      | _ => 0, ⟨_, Forget.cons rfl (Forget.cons rfl (Forget.cons rfl (Forget.nil _))), 0, _, none, Nat.zero_le _, rfl, NewSl.nil _ _ _, mod_refl _ _, rfl⟩, ?_⟩
  rintro _ hh ⟨j, z, po, hj, rfl, no, mo, rfl⟩
  conv => whnf
  refine br_mk (fun hd => ?_) (fun hd => ?_)
  rotate_left
  · conv => whnf
    have hd : ¬ j < L.length := by simpa using hd
    obtain rfl : j = L.length := by omega
    rw [List.take_length] at no
    exact ⟨po, rfl, no, mo⟩
  conv => whnf
  have hd : j < L.length := by simpa using hd
  obtain ⟨i1, c1, f1, f2⟩ := (s.get mo).cell hd
  obtain ⟨v, e⟩ := (s.get mo).ent _ (List.getElem_mem hd)
  refine ⟨i1, c1, j, f1, rfl, hd, ?_⟩
  conv => whnf
  refine ⟨_, f2, ?_⟩
  conv => whnf
  refine ⟨i1, c1, j, f1, rfl, hd, ?_⟩
  conv => whnf
  refine ⟨_, f2, ?_⟩
  conv => whnf
  refine ⟨_, Cell.mk e rfl, ?_⟩
  conv => whnf
  obtain ⟨y1, y2, y3⟩ := app1 no mo [i64 L[j].1] rfl
  refine ⟨_, _, y1, y2, by rw [show (T.at_ 3).bytes = 8 from rfl]; omega, by omega, fun p' h' hs hm hf => ?_⟩
  obtain ⟨ng8, mo8, _⟩ := y3 p' h' hs hm hf
  have e6 : ints .i64 (keys (L.take j)) ++ [i64 L[j].1] = ints .i64 (keys (L.take (j + 1))) := by
    rw [List.take_succ_eq_append_getElem hd, keys_append, ints_append]
    rfl
  rw [e6] at ng8
  conv => whnf
  rw [succ_i64 hd (by omega)]
  refine ⟨_, Forget.cons rfl (Forget.cons rfl (Forget.cons rfl (Forget.nil _))), ⟨j + 1, _, p', hd, rfl, ng8, mo8, rfl⟩, ?_⟩
  show ((L.length : Int) - ((j + 1 : Nat) : Int)).toNat < ((L.length : Int) - (j : Int)).toNat
  omega
theorem index97 {h : H} {p : Option (Nat × Nat)} {n : Nat} {xs : List Int} (s : SlIs h p n false 1 (ints .i64 xs)) (hn : n ≤ 1000000) (x : Int) : ACalls Try.prog 97 [.sl p n, i64 x] h (fun r h' => h' = h ∧ ∃ z, r = i64 z ∧ (decide (z ≥ 0) = decide (x ∈ xs))) := by
  have hm := slo_len s
  refine call_ Try.func97 rfl rfl (by kernel_rfl) ?_
  conv => whnf
  refine ⟨fun env hh => ∃ (j : Nat) (z : Int), j ≤ n ∧ z = j ∧ hh = h ∧ (∀ k, k < j → xs.getD k 0 ≠ x) ∧ env = [(8, i64 z), (7, i64 n), (0, .sl p n), (1, i64 x)],
    fun env _ => match get env 8 with
      | .int _ z => ((n : Int) - z).toNat
      | _ => 0, ⟨_, Forget.cons rfl (Forget.cons rfl (Forget.cons rfl (Forget.cons rfl (Forget.nil _)))), 0, _, Nat.zero_le _, rfl, rfl, fun k hk => absurd hk (Nat.not_lt_zero k), rfl⟩, ?_⟩
  rintro _ hh ⟨j, z, hj, rfl, eh, hall, rfl⟩
  subst eh
  conv => whnf
  refine br_mk (fun hd => ?_) (fun hd => ?_)
  rotate_left
  · conv => whnf
    have hd : ¬ j < n := by simpa using hd
    refine ⟨rfl, -1, rfl, ?_⟩
    rw [decide_eq_false (by decide), decide_eq_false]
    intro hx
    obtain ⟨k, hk, e⟩ := List.getElem_of_mem hx
    refine hall k (by omega) ?_
    rw [List.getD_eq_getElem?_getD, List.getElem?_eq_getElem hk]
    exact e
  conv => whnf
  have hd : j < n := by simpa using hd
  obtain ⟨i1, c1, f1, f2⟩ := slo_get s hd
  refine ⟨i1, c1, j, f1, rfl, hd, ?_⟩
  conv => whnf
  refine ⟨_, f2, ?_⟩
  conv => whnf
  refine br_mk (fun he => ?_) (fun he => ?_)
  · conv => whnf
    have he : x = xs.getD j 0 := by simpa using he
    refine ⟨rfl, j, rfl, ?_⟩
    rw [decide_eq_true (by omega), decide_eq_true]
    rw [he]
    exact getD_in (by omega)
  conv => whnf
  have he : ¬ x = xs.getD j 0 := by simpa using he
  rw [succ_i64 hd (by omega)]
  refine ⟨_, Forget.cons rfl (Forget.cons rfl (Forget.cons rfl (Forget.cons rfl (Forget.nil _)))), ⟨j + 1, _, hd, rfl, rfl, fun k hk => ?_, rfl⟩, ?_⟩
  · by_cases e : k = j
    · subst e
      exact fun q => he q.symm
    · exact hall k (by omega)
  · show ((n : Int) - ((j + 1 : Nat) : Int)).toNat < ((n : Int) - (j : Int)).toNat
    omega
theorem contains78 {h : H} {p : Option (Nat × Nat)} {n : Nat} {xs : List Int} (s : SlIs h p n false 1 (ints .i64 xs)) (hn : n ≤ 1000000) (x : Int) : ACalls Try.prog 78 [.sl p n, i64 x] h (fun r h' => h' = h ∧ r = .bool (decide (x ∈ xs))) := by
  refine call_ Try.func78 rfl rfl (by kernel_rfl) ?_
  conv => whnf
  refine (index97 s hn x).mono ?_
  rintro _ h1 ⟨eh, z, rfl, e⟩
  subst eh
  conv => whnf
  exact ⟨rfl, by rw [← e]⟩
def DropQ (h : H) (t mi gi : Nat) (most : Int) (E : En) (G : List (Int × Int)) (xs : List Int) (r : V) (h' : H) : Prop :=
  ∃ q, r = .sl q (E.filter fun x => decide (x.1 ∈ xs)).length ∧ Ens h' q (E.filter fun x => decide (x.1 ∈ xs)) ∧ TbSt h' t mi gi most (E.filter fun x => decide (x.1 ∉ xs)) G ∧ Ab.Mod (one mi) h h'
set_option maxHeartbeats 1000000 in
theorem drop30 {h : H} {t mi gi : Nat} {most : Int} {E : En} {G : List (Int × Int)} (s : TbSt h t mi gi most E G) {p : Option (Nat × Nat)} {n : Nat} {xs : List Int} (sx : RoSl h p n 1 (ints .i64 xs) ∨ ∃ hi : Nat → Prop, (∀ i, inSl p i → i ≠ mi) ∧ SlIs h p n true 1 (ints .i64 xs)) (hn : n ≤ 1000000) : ACalls Try.prog 30 [.ptr (some (t, 0)), .sl p n] h (DropQ h t mi gi most E G xs) := by
  have hsm := s.small
  have hlt := s.lt
  have keep : ∀ h', Ab.Mod (one mi) h h' → SlIs h' p n false 1 (ints .i64 xs) := fun h' m => by
    rcases sx with sx | ⟨_, hne, sx⟩
    · exact (sx.get m).is
    · exact (sx.get m (fun i o e => .inl (fun k => hne i ⟨o, e⟩ k))).weak
  refine ACalls.ro (Q := fun r h' => ∃ q, r = .sl q (E.filter fun x => decide (x.1 ∈ xs)).length ∧ NewSl h h' q (E.filter fun x => decide (x.1 ∈ xs)).length 1 ((E.filter fun x => decide (x.1 ∈ xs)).flatMap enC) ∧ TbSt h' t mi gi most (E.filter fun x => decide (x.1 ∉ xs)) G ∧ Ab.Mod (one mi) h h') ?_ (by
    rintro r h' ⟨q, rfl, nq, st, m⟩
    obtain ⟨i, a1, a2, a3⟩ := nq.freeze m
    have a4 : Ab.Mod none_ h' (h'.ro i) ∨ True := .inr trivial
    refine ⟨i, q, rfl, ⟨a2, fun x hx => (s.ent x (List.mem_filter.1 hx).1).get a3⟩, ?_, a3⟩
    obtain ⟨b1, ⟨ms, b2, b3⟩, ⟨bms, b4, b5⟩, b6, b7, b8, b9⟩ := st
    have rm : ∀ {j : Nat} {es : List (V × V)}, h'.obj j = some (.map true es) → (h'.ro i).obj j = some (.map true es) := fun {j es} e => by
      by_cases q : j = i
      · subst q
        rw [H.ro_obj, if_pos rfl, e]
        rfl
      · rw [H.ro_ne _ q, e]
    refine ⟨by rw [H.ro_ne _ (by omega)]; exact b1, ⟨ms, rm b2, b3⟩, ⟨bms, rm b4, b5⟩, fun x hx => (s.ent x (List.mem_filter.1 hx).1).get a3, b7, b8, b9⟩)
  refine call_ Try.func30 rfl rfl (by kernel_rfl) ?_
  conv => whnf
  refine (all37 s).mono ?_
  rintro _ h1 ⟨q, rfl, en, m1⟩
  have s1 := s.old m1
  conv => whnf
  refine ⟨fun env hh => ∃ (j : Nat) (z : Int) (po : Option (Nat × Nat)), j ≤ E.length ∧ z = j ∧ NewSl h1 hh po ((E.take j).filter fun x => decide (x.1 ∈ xs)).length 1 (((E.take j).filter fun x => decide (x.1 ∈ xs)).flatMap enC) ∧ TbSt hh t mi gi most (((E.take j).filter fun x => decide (x.1 ∉ xs)) ++ E.drop j) G ∧ Ab.Mod (one mi) h1 hh ∧ env = [(10, i64 z), (4, .sl po ((E.take j).filter fun x => decide (x.1 ∈ xs)).length), (9, i64 E.length), (8, .sl q E.length), (0, .ptr (some (t, 0))), (1, .sl p n)],
    fun env _ => match get env 10 with
      | .int _ z => ((E.length : Int) - z).toNat
      | _ => 0, ⟨_, Forget.cons rfl (Forget.cons rfl (Forget.cons rfl (Forget.cons rfl (Forget.cons rfl (Forget.cons rfl (Forget.nil _)))))), 0, _, none, Nat.zero_le _, rfl, NewSl.nil _ _ _, s1, mod_refl _ _, rfl⟩, ?_⟩
  clear s1
  rintro _ hh ⟨j, z, po, hj, rfl, no, st, mo1, rfl⟩
  have mo : Ab.Mod (one mi) h hh := m1.trans' mo1 (fun _ _ k => k.elim) (fun _ _ k => k)
  conv => whnf
  refine br_mk (fun hd => ?_) (fun hd => ?_)
  rotate_left
  · conv => whnf
    have hd : ¬ j < E.length := by simpa using hd
    obtain rfl : j = E.length := by omega
    rw [List.take_length] at no st ⊢
    rw [List.drop_length, List.append_nil] at st
    exact ⟨po, rfl, ⟨no.1, fun i o e => Nat.le_trans m1.next (no.2 i o e)⟩, st, mo⟩
  conv => whnf
  have hd : j < E.length := by simpa using hd
  have en2 := en.get mo1
  obtain ⟨i1, c1, f1, f2⟩ := en2.cell hd
  obtain ⟨v, e⟩ := en2.ent _ (List.getElem_mem hd)
  have hdr : E.drop j = E[j] :: E.drop (j + 1) := List.drop_eq_getElem_cons hd
  have htk : E.take (j + 1) = E.take j ++ [E[j]] := List.take_succ_eq_append_getElem hd
  have hfl : ∀ P : Int × (Nat × Int) → Bool, ((E.take j).filter P).length ≤ 16 := fun P => by
    have h1 := List.length_filter_le P (E.take j)
    have h2 : (E.take j).length ≤ 16 := by rw [List.length_take]; omega
    omega
  refine ⟨i1, c1, j, f1, rfl, hd, ?_⟩
  conv => whnf
  refine ⟨_, f2, ?_⟩
  conv => whnf
  refine ⟨_, Cell.mk e rfl, ?_⟩
  conv => whnf
  refine (contains78 (keep hh mo) hn E[j].1).mono ?_
  rintro _ h3 ⟨eh, rfl⟩
  subst eh
  rw [hdr] at st
  refine br_mk (fun ha => ?_) (fun ha => ?_)
  · conv => whnf
    have ha : E[j].1 ∈ xs := by simpa using ha
    obtain ⟨ms, a1, a2⟩ := st.map
    refine ⟨[0, 1, 2, 3, 4, 5, 6, 7, 8], [0, 1, 3, 7, 0, 16, 48, 112, 255], by kernel_rfl, ?_⟩
    conv => whnf
    refine ⟨_, Cell.mk st.box rfl, ?_⟩
    conv => whnf
    refine ⟨_, Cell.mk e rfl, ?_⟩
    conv => whnf
    refine .inl ⟨_, a1, ?_⟩
    conv => whnf
    have md : Ab.Mod (one mi) h3 (h3.set mi (.map true (mpE .i64 (mdel (encM eV ms) E[j].1)))) := Mod.set rfl a1 rfl
    have hmid := asc_mid st.asc
    have hdel : ∀ k, sget (((E.take j).filter fun x => decide (x.1 ∉ xs)) ++ E.drop (j + 1)) k = if k = E[j].1 then none else sget (((E.take j).filter fun x => decide (x.1 ∉ xs)) ++ E[j] :: E.drop (j + 1)) k := fun k => by
      have := delS_get st.asc E[j].1 k
      rw [← this]
      congr 1
      rw [delS, List.filter_append, List.filter_cons_of_neg (by simp)]
      congr 1
      · exact (List.filter_eq_self.2 (fun x hx => by
          have := hmid.1 x hx
          simp
          omega)).symm
      · exact (List.filter_eq_self.2 (fun x hx => by
          have := hmid.2 x hx
          simp
          omega)).symm
    have st2 : TbSt (h3.set mi (.map true (mpE .i64 (mdel (encM eV ms) E[j].1)))) t mi gi most (((E.take (j + 1)).filter fun x => decide (x.1 ∉ xs)) ++ E.drop (j + 1)) G := by
      have ef : (E.take (j + 1)).filter (fun x => decide (x.1 ∉ xs)) = (E.take j).filter fun x => decide (x.1 ∉ xs) := by
        rw [htk, List.filter_append, List.filter_cons_of_neg (by simpa using ha), List.filter_nil, List.append_nil]
      rw [ef]
      refine ⟨md.get st.box (.inl (fun k => st.sep.1 (Eq.symm k))), ⟨sdel ms E[j].1, ?_, a2.del E[j].1 hdel⟩, st.grt.get md (fun k => st.sep.2.2 (Eq.symm k)), fun x hx => (st.ent x (by
        rcases List.mem_append.1 hx with hx | hx
        · exact List.mem_append.2 (.inl hx)
        · exact List.mem_append.2 (.inr (List.mem_cons_of_mem _ hx)))).get md, asc_del st.asc, fun k hk => st.rng k (by
        rw [keys_append] at hk ⊢
        rcases List.mem_append.1 hk with hk | hk
        · exact List.mem_append.2 (.inl hk)
        · exact List.mem_append.2 (.inr (List.mem_cons_of_mem _ hk))), st.sep⟩
      rw [← mdel_enc]
      exact H.obj_set_same a1
    have no2 := NewSl.keep no md (fun i k => by have : i = mi := k; have := m1.next; omega)
    have mo2 := mo1.trans' md (S2 := one mi) (fun _ _ k => k) (fun _ _ k => k)
    obtain ⟨y1, y2, y3⟩ := app1 no2 mo2 [eV E[j].2] rfl
    have := hfl (fun x => decide (x.1 ∈ xs))
    refine ⟨_, _, y1, y2, by rw [show (T.at_ 59).bytes = 8 from rfl]; omega, by omega, fun p' h' hs hm hf => ?_⟩
    obtain ⟨ng8, mo8, my⟩ := y3 p' h' hs hm hf
    have e6 : ((E.take j).filter fun x => decide (x.1 ∈ xs)).flatMap enC ++ [eV E[j].2] = ((E.take (j + 1)).filter fun x => decide (x.1 ∈ xs)).flatMap enC := by
      rw [htk, List.filter_append, List.filter_cons_of_pos (by simpa using ha), List.filter_nil, List.flatMap_append]
      simp [enC]
    have e7 : ((E.take j).filter fun x => decide (x.1 ∈ xs)).length + 1 = ((E.take (j + 1)).filter fun x => decide (x.1 ∈ xs)).length := by
      rw [htk, List.filter_append, List.filter_cons_of_pos (by simpa using ha), List.filter_nil, List.length_append]
      rfl
    rw [e6, e7] at ng8
    have hno : ∀ i, inSl po i → h.next ≤ i := fun i ⟨o, e⟩ => Nat.le_trans m1.next (no.2 i o e)
    have st3 := st2.get my (fun k => by have := hno _ k; omega) (fun k => by have := hno _ k; omega) (fun k => by have := hno _ k; omega)
    conv => whnf
    rw [e7, succ_i64 hd (by omega)]
    refine ⟨_, Forget.cons rfl (Forget.cons rfl (Forget.cons rfl (Forget.cons rfl (Forget.cons rfl (Forget.cons rfl (Forget.nil _)))))), ⟨j + 1, _, p', hd, rfl, ng8, st3, mo8, rfl⟩, ?_⟩
    show ((E.length : Int) - ((j + 1 : Nat) : Int)).toNat < ((E.length : Int) - (j : Int)).toNat
    omega
  · conv => whnf
    have ha : ¬ E[j].1 ∈ xs := by simpa using ha
    have e6 : (E.take (j + 1)).filter (fun x => decide (x.1 ∈ xs)) = (E.take j).filter fun x => decide (x.1 ∈ xs) := by
      rw [htk, List.filter_append, List.filter_cons_of_neg (by simpa using ha), List.filter_nil, List.append_nil]
    have e7 : ((E.take (j + 1)).filter fun x => decide (x.1 ∉ xs)) ++ E.drop (j + 1) = ((E.take j).filter fun x => decide (x.1 ∉ xs)) ++ E[j] :: E.drop (j + 1) := by
      rw [htk, List.filter_append, List.filter_cons_of_pos (by simpa using ha), List.filter_nil, List.append_assoc]
      rfl
    rw [← e7] at st
    rw [← e6] at no
    rw [← e6, succ_i64 hd (by omega)]
    refine ⟨_, Forget.cons rfl (Forget.cons rfl (Forget.cons rfl (Forget.cons rfl (Forget.cons rfl (Forget.cons rfl (Forget.nil _)))))), ⟨j + 1, _, po, hd, rfl, no, st, mo1, rfl⟩, ?_⟩
    show ((E.length : Int) - ((j + 1 : Nat) : Int)).toNat < ((E.length : Int) - (j : Int)).toNat
    omega
end Go.Proofs.Ytoljllfbabahpaa
