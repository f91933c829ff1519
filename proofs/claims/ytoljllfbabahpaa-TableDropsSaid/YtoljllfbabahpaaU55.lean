/- Tables: who is dropped is gone. -/
import Derived.Test.YtoljllfbabahpaaU54
set_option linter.unusedVariables false
namespace Go.Proofs.Ytoljllfbabahpaa
open Go Go.Ab
theorem len_split {α : Type} (P Q : α → Bool) (l : List α) (h : ∀ x ∈ l, Q x = !P x) : l.length = (l.filter P).length + (l.filter Q).length := by
  induction l with
  | nil => rfl
  | cons a l ih =>
    have := ih (fun x hx => h x (List.mem_cons_of_mem _ hx))
    have ha := h a (List.mem_cons_self ..)
    cases hp : P a <;> rw [hp] at ha <;> simp [List.filter_cons, hp, ha] <;> omega
theorem insS_more {β : Type} {S : List (Int × β)} {p : Int} (v : β) (h : p ∉ keys S) : (insS S p v).length = S.length + 1 := by
  have := len_split (fun x : Int × β => decide (x.1 < p)) (fun x => decide (p < x.1)) S (fun x hx => by
    have : x.1 ≠ p := fun e => h (List.mem_map.2 ⟨x, hx, e⟩)
    rw [Bool.eq_iff_iff]
    simp
    omega)
  rw [insS, List.length_append, List.length_cons]
  omega
theorem full_in {E : En} (ha : AscS E) (hr : ∀ k ∈ keys E, 0 ≤ k ∧ k < 16) {p : Int} (hp : 0 ≤ p ∧ p < 16) (hl : (16 : Int) ≤ E.length) : ¬ (sget E p).isNone = true := fun q => by
  have hn := sget_isNone.1 q
  have h1 := insS_more (0, 0) hn
  have h2 := asc_short (l := keys (insS E p (0, 0))) (a := 0) (b := 16) (insS_asc ha p (0, 0)) (insS_keys hr hp _)
  rw [keys_length] at h2
  omega
/-- how many are below -/
def below (D : En) (p : Int) : Nat := (D.filter fun x => decide (x.1 < p)).length
theorem below_at {D : En} (ha : AscS D) {p : Int} {v : Nat × Int} (hm : (p, v) ∈ D) : ∃ hl : below D p < D.length, D[below D p] = (p, v) ∧ below D (p + 1) = below D p + 1 := by
  obtain ⟨A, B, rfl⟩ := List.append_of_mem hm
  obtain ⟨h1, h2⟩ := asc_mid ha
  have e1 : (A ++ (p, v) :: B).filter (fun x => decide (x.1 < p)) = A := by
    rw [List.filter_append, List.filter_cons_of_neg (by simp), List.filter_eq_self.2 (fun x hx => decide_eq_true (h1 x hx)), List.filter_eq_nil_iff.2 (fun x hx => by have := h2 x hx; simp at this ⊢; omega), List.append_nil]
  have e2 : (A ++ (p, v) :: B).filter (fun x => decide (x.1 < p + 1)) = A ++ [(p, v)] := by
    rw [List.filter_append, List.filter_cons_of_pos (by simp; omega), List.filter_eq_self.2 (fun x hx => by have := h1 x hx; simp at this ⊢; omega), List.filter_eq_nil_iff.2 (fun x hx => by have := h2 x hx; simp at this ⊢; omega)]
  have b1 : below (A ++ (p, v) :: B) p = A.length := by rw [below, e1]
  have b2 : below (A ++ (p, v) :: B) (p + 1) = A.length + 1 := by rw [below, e2, List.length_append]; rfl
  refine ⟨by rw [b1]; simp, ?_, by rw [b1, b2]⟩
  simp [b1]
theorem below_no {D : En} {p : Int} (h : p ∉ keys D) : below D (p + 1) = below D p := by
  unfold below
  congr 1
  refine List.filter_congr (fun x hx => ?_)
  have : x.1 ≠ p := fun e => h (List.mem_map.2 ⟨x, hx, e⟩)
  rw [Bool.eq_iff_iff]
  simp
  omega
theorem below_all {D : En} {p : Int} (h : ∀ k ∈ keys D, k < p) : below D p = D.length := by
  rw [below, List.filter_eq_self.2 (fun x hx => decide_eq_true (h _ (List.mem_map.2 ⟨x, hx, rfl⟩)))]
theorem below_zero {D : En} {p : Int} (h : ∀ k ∈ keys D, p ≤ k) : below D p = 0 := by
  rw [below, List.filter_eq_nil_iff.2 (fun x hx => ?_)]
  · rfl
  · have := h _ (List.mem_map.2 ⟨x, hx, rfl⟩)
    simp
    omega
theorem keys_filter_in {E : En} {P : Int → Bool} {k : Int} : k ∈ keys (E.filter fun x => P x.1) ↔ k ∈ keys E ∧ P k = true := by
  unfold keys
  rw [List.mem_map, List.mem_map]
  constructor
  · rintro ⟨x, hx, rfl⟩
    obtain ⟨h1, h2⟩ := List.mem_filter.1 hx
    exact ⟨⟨x, h1, rfl⟩, h2⟩
  · rintro ⟨⟨x, hx, rfl⟩, h⟩
    exact ⟨x, List.mem_filter.2 ⟨hx, h⟩, rfl⟩
theorem asc_filter {E : En} (h : AscS E) (P : Int × (Nat × Int) → Bool) : AscS (E.filter P) := List.Pairwise.sublist (List.Sublist.map _ List.filter_sublist) h
/-- what is asked for behind the drop -/
theorem getV_filter {E : En} (ha : AscS E) {ys : List Int} {p : Int} : getV (E.filter fun x => decide (x.1 ∉ ys)) p ((sget (encM Prod.snd E) p).getD 0) = match sget E p with
    | some x => if p ∈ ys then .ptr none else eV x
    | none => .ptr none := by
  have h1 : sget (E.filter fun x => decide (x.1 ∉ ys)) p = if p ∈ ys then none else sget E p := by
    refine opt_ext fun v => ?_
    rw [sget_mem (asc_filter ha _).nodup, List.mem_filter]
    by_cases hp : p ∈ ys
    · simp [hp]
    · simp [hp, sget_mem ha.nodup]
  rw [getV, h1, encM_get]
  by_cases hp : p ∈ ys
  · simp only [if_pos hp]
    cases sget E p <;> rfl
  · simp only [if_neg hp]
    cases sget E p with
    | none => rfl
    | some x =>
      show (if x.2 = x.2 then eV x else V.ptr none) = eV x
      rw [if_pos rfl]
def dropAt (z : Int) : Int := z % 20 - 2
set_option maxHeartbeats 2000000 in
theorem drops7 {h : H} {pa pd : Option (Nat × Nat)} {la ld : Nat} {ps : List (Int × Int)} {xs : List Int} (ra : RoSl h pa la 2 (pairs .i64 ps)) (rd : RoSl h pd ld 1 (ints .i64 xs)) : ACalls Try.prog 7 [.sl pa la, .sl pd ld] h (fun r _ => r = .bool true) := by
  refine call_ Try.func7 rfl rfl (by kernel_rfl) ?_
  conv => whnf
  refine br_mk (fun ha => ?_) (fun ha => ?_)
  · skip
    conv => whnf
    refine (awake21 h).mono ?_
    rintro _ h1 ⟨rfl, _⟩
    conv => whnf
  have ha : ¬ la > 40 := by
    have : ¬ (la : Int) > 40 := by simpa using ha
    omega
  conv => whnf
  refine br_mk (fun hb => ?_) (fun hb => ?_)
  · skip
    conv => whnf
    refine (awake21 h).mono ?_
    rintro _ h1 ⟨rfl, _⟩
    conv => whnf
  have hb : ¬ ld > 30 := by
    have : ¬ (ld : Int) > 30 := by simpa using hb
    omega
  conv => whnf
  refine (tbNew h 16).mono ?_
  rintro r1 h1 (⟨q, _⟩ | ⟨_, t, mi, gi, rfl, s1, n1, n2, n3, m1⟩)
  · exact absurd q (by decide)
  conv => whnf
  refine ⟨_, rfl, ?_⟩
  conv => whnf
  refine ⟨_, rfl, ?_⟩
  conv => whnf
  have mp := Mod.push none_ h1 (.map true [])
  have lt := s1.lt
  have hlx := slo_len rd.is
  refine ⟨fun env hk => ∃ (j : Nat) (z : Int) (E : En) (G : List (Int × Int)), j ≤ la ∧ z = j ∧ TbSt hk t mi gi 16 E G ∧ (∀ k, (sget G k).getD 0 ≤ j) ∧ BSt hk h1.next (encM Prod.snd E) ∧ RoSl hk pa la 2 (pairs .i64 ps) ∧ RoSl hk pd ld 1 (ints .i64 xs) ∧ env = [(8, i64 z), (7, .mp (some h1.next)), (5, .ptr (some (t, 0))), (0, .sl pa la), (1, .sl pd ld)],
    fun env _ => match get env 8 with
      | .int _ z => ((la : Int) - z).toNat
      | _ => 0, ⟨_, Forget.cons rfl (Forget.cons rfl (Forget.cons rfl (Forget.cons rfl (Forget.cons rfl (Forget.nil _))))), 0, _, [], [], Nat.zero_le _, rfl, s1.old mp, fun k => Int.le_refl _, ⟨[], H.obj_push_new h1 _, List.nodup_nil, fun _ => rfl⟩, ra.get (mod_none m1 mp), rd.get (mod_none m1 mp), rfl⟩, ?_⟩
  obtain ⟨g, eg⟩ : ∃ g, g = h1.next := ⟨_, rfl⟩
  rw [← eg] at lt ⊢
  clear mp ra rd
  rintro _ hh ⟨j, z, E, G, hj, rfl, st, gb, bs, ra, rd, rfl⟩
  conv => whnf
  refine br_mk (fun hd => ?_) (fun hd => ?_)
  · skip
    have hd : j < la := by simpa using hd
    have hsm := st.small
    obtain ⟨i1, c1, x1, x2, x3⟩ := pairs_cel ra hd
    conv => whnf
    refine ⟨i1, c1, j, x1, rfl, hd, ?_⟩
    conv => whnf
    refine ⟨0, rfl, by decide, ?_⟩
    conv => whnf
    refine ⟨_, x2, ?_⟩
    conv => whnf
    refine (round19 (m := 16) (by decide) (by decide) _ _).mono ?_
    rintro _ h2 ⟨eh, rfl⟩
    subst eh
    obtain ⟨p, hp, hp0, hp1⟩ : ∃ p : Int, ((ps.getD j (0, 0)).1 % 16) = p ∧ 0 ≤ p ∧ p < 16 := ⟨_, rfl, Int.emod_nonneg _ (by decide), Int.emod_lt_of_pos _ (by decide)⟩
    have hcw : IntKind.i64.wrap (1 + (j : Int)) = 1 + (j : Int) := wrap_i64 (by omega) (by omega)
    rw [hp]
    conv => whnf
    rw [hcw]
    have v : mayV 16 E G p (1 + j) = 0 := by
      rw [mayV_in ⟨hp0, hp1⟩ (by omega), if_neg (by have := gb p; omega), if_neg]
      exact fun q => full_in st.asc st.rng ⟨hp0, hp1⟩ q.1 q.2
    refine (entry27 _ p (1 + j)).mono ?_
    rintro _ h8 ⟨ie, rfl, ye, ke, m8⟩
    have s8 := st.old m8
    conv => whnf
    refine (add26 s8 ye).mono ?_
    rintro _ h9 ⟨rfl, m9, q9⟩
    rw [v] at q9 ⊢
    rcases q9 with ⟨q9, _⟩ | ⟨_, G9, g9, s9⟩
    · exact absurd rfl q9
    conv => whnf
    obtain ⟨bms, b1, b2⟩ := (bs.get m8 (fun k => k)).get m9 (fun k => by rcases k with (k : g = mi) | (k : g = gi) <;> omega)
    refine ⟨_, b1, ?_⟩
    conv => whnf
    have em := mput_enc i64V p (1 + (j : Int)) bms
    obtain ⟨b3, mb⟩ := BSt.turn (BG' := encM Prod.snd (insS E p (ie, 1 + (j : Int)))) ⟨bms, b1, b2⟩ (b2.put p (1 + (j : Int)) (fun k => by
      rw [← encM_ins]
      exact insS_get ((encM_asc _).2 st.asc) p _ k))
    rw [← em] at b3 mb
    have s11 := s9.get mb (fun k => Nat.ne_of_lt lt.1 k) (fun k => Nat.ne_of_lt lt.2.1 k) (fun k => Nat.ne_of_lt lt.2.2 k)
    have ra11 := ((ra.get m8).get m9).get mb
    have rd11 := ((rd.get m8).get m9).get mb
    have gb11 : ∀ k, (sget G9 k).getD 0 ≤ ((j + 1 : Nat) : Int) := fun k => by
      rw [g9]
      have := gb k
      split
      · show 1 + (j : Int) ≤ _
        omega
      · omega
    rw [succ_i64 hd (by omega)]
    refine ⟨_, Forget.cons rfl (Forget.cons rfl (Forget.cons rfl (Forget.cons rfl (Forget.cons rfl (Forget.nil _))))), ⟨j + 1, _, _, _, hd, rfl, s11, gb11, b3, ra11, rd11, rfl⟩, ?_⟩
    show ((la : Int) - ((j + 1 : Nat) : Int)).toNat < ((la : Int) - (j : Int)).toNat
    omega
  have hd : ¬ j < la := by simpa using hd
  clear hd hj ra gb
  conv => whnf
  refine ⟨fun env hk => ∃ (k : Nat) (zk : Int) (po : Option (Nat × Nat)), k ≤ ld ∧ zk = k ∧ NewSl hh hk po k 1 (ints .i64 ((xs.take k).map dropAt)) ∧ Ab.Mod none_ hh hk ∧ env = [(12, i64 zk), (11, .sl po k), (7, .mp (some g)), (5, .ptr (some (t, 0))), (1, .sl pd ld)],
    fun env _ => match get env 12 with
      | .int _ z => ((ld : Int) - z).toNat
      | _ => 0, ⟨_, Forget.cons rfl (Forget.cons rfl (Forget.cons rfl (Forget.cons rfl (Forget.cons rfl (Forget.nil _))))), 0, _, none, Nat.zero_le _, rfl, NewSl.nil _ _ _, mod_refl _ _, rfl⟩, ?_⟩
  rintro _ hk ⟨k, zk, po, hkl, rfl, no, mo, rfl⟩
  conv => whnf
  refine br_mk (fun hd => ?_) (fun hd => ?_)
  · skip
    have hd : k < ld := by simpa using hd
    obtain ⟨i1, c1, f1, f2⟩ := slo_get (rd.get mo).is hd
    conv => whnf
    refine ⟨i1, c1, k, f1, rfl, hd, ?_⟩
    conv => whnf
    refine ⟨_, f2, ?_⟩
    conv => whnf
    refine (round19 (m := 20) (by decide) (by decide) _ _).mono ?_
    rintro _ h2 ⟨eh, rfl⟩
    subst eh
    conv => whnf
    have hw : IntKind.i64.wrap (xs.getD k 0 % 20 - 2) = dropAt (xs.getD k 0) := wrap_i64 (by omega) (by omega)
    rw [hw]
    obtain ⟨y1, y2, y3⟩ := app1 no mo [i64 (dropAt (xs.getD k 0))] rfl
    refine ⟨_, _, y1, y2, by rw [show (T.at_ 3).bytes = 8 from rfl]; omega, by omega, fun p' h' hs hm hf => ?_⟩
    obtain ⟨ng8, mo8, _⟩ := y3 p' h' hs hm hf
    have e6 : ints .i64 ((xs.take k).map dropAt) ++ [i64 (dropAt (xs.getD k 0))] = ints .i64 ((xs.take (k + 1)).map dropAt) := by
      have hx : k < xs.length := by omega
      rw [List.take_succ_eq_append_getElem hx, List.map_append, ints_append, List.getD_eq_getElem?_getD, List.getElem?_eq_getElem hx]
      rfl
    rw [e6] at ng8
    conv => whnf
    rw [succ_i64 hd (by omega)]
    refine ⟨_, Forget.cons rfl (Forget.cons rfl (Forget.cons rfl (Forget.cons rfl (Forget.cons rfl (Forget.nil _))))), ⟨k + 1, _, p', hd, rfl, ng8, mo8, rfl⟩, ?_⟩
    show ((ld : Int) - ((k + 1 : Nat) : Int)).toNat < ((ld : Int) - (k : Int)).toNat
    omega
  have hd : ¬ k < ld := by simpa using hd
  obtain rfl : k = ld := by omega
  rw [List.take_of_length_le (by omega)] at no
  obtain ⟨ys, ey⟩ : ∃ ys, ys = xs.map dropAt := ⟨_, rfl⟩
  rw [← ey] at no
  have hly : ys.length = k := by rw [ey, List.length_map]; omega
  clear hd hkl rd hlx
  conv => whnf
  have hne : ∀ i, inSl po i → i ≠ mi := fun i ⟨o, e⟩ q => by
    have := no.2 i o e
    have := st.lt
    omega
  refine (drop30 (st.old mo) (.inr ⟨fun _ => True, hne, no.1⟩) (by omega)).mono ?_
  rintro _ h3 ⟨q, rfl, en, s3, m3⟩
  have ry := (no.1.get m3 (fun i o e => .inl (fun k => hne i ⟨o, e⟩ k))).weak
  have bs3 := (bs.get mo (fun k => k)).get m3 (fun k => (Nat.ne_of_lt lt.2.1) (Eq.symm k))
  have ha := st.asc
  have hr := st.rng
  have hsm := st.small
  have ent3 : ∀ x ∈ E, EnSt h3 x.2.1 x.1 x.2.2 := fun x hx => ((st.ent x hx).get mo).get m3
  clear no mo m3 bs st hne
  generalize hD : (E.filter fun x => decide (x.1 ∈ ys)) = D at en ⊢
  have hDa : AscS D := by rw [← hD]; exact asc_filter ha _
  have hDk : ∀ k, k ∈ keys D ↔ k ∈ keys E ∧ k ∈ ys := fun k => by
    rw [← hD, keys_filter_in (P := fun x => decide (x ∈ ys))]
    simp
  have hDl : E.length = D.length + (E.filter fun x => decide (x.1 ∉ ys)).length := by
    rw [← hD]
    exact len_split _ _ E (fun x _ => by simp)
  conv => whnf
  refine ⟨fun env hk => ∃ (p : Nat) (zp zn : Int), p ≤ 16 ∧ zp = p ∧ zn = (below D p : Nat) ∧ hk = h3 ∧ env = [(15, i64 zp), (14, i64 zn), (13, .sl q D.length), (11, .sl po k), (7, .mp (some g)), (5, .ptr (some (t, 0)))],
    fun env _ => match get env 15 with
      | .int _ z => ((16 : Int) - z).toNat
      | _ => 0, ⟨_, Forget.cons rfl (Forget.cons rfl (Forget.cons rfl (Forget.cons rfl (Forget.cons rfl (Forget.cons rfl (Forget.nil _)))))), 0, _, _, Nat.zero_le _, rfl, by have := below_zero (D := D) (p := ((0 : Nat) : Int)) (fun k hk => (hr k ((hDk k).1 hk).1).1); omega, rfl, rfl⟩, ?_⟩
  rintro _ hk ⟨p, zp, zn, hp, rfl, rfl, ek, rfl⟩
  subst ek
  conv => whnf
  refine br_mk (fun hd => ?_) (fun hd => ?_)
  rotate_left
  · skip
    have hd : ¬ (p : Int) < 16 := by simpa using hd
    have hbl : (below D p : Int) = (D.length : Int) := by rw [below_all (fun k hk => by have := (hr k ((hDk k).1 hk).1).2; omega)]
    conv => whnf
    rw [hbl, beq_self_eq_true]
    conv => whnf
    refine (len34 s3).mono ?_
    rintro _ h4 ⟨eh, rfl⟩
    subst eh
    conv => whnf
    obtain ⟨bms, b1, b2⟩ := bs3
    refine ⟨_, _, b1, ?_⟩
    have el : (mpE .i64 (encM i64V bms)).length = E.length := by
      rw [mpE, List.length_map, encM_length, b2.length ((encM_asc _).2 ha), encM_length]
    rw [el]
    conv => whnf
    have ew : IntKind.i64.wrap ((E.length : Int) - (D.length : Int)) = ((E.filter fun x => decide (x.1 ∉ ys)).length : Int) := by
      rw [wrap_i64 (by omega) (by omega)]
      omega
    rw [ew, beq_self_eq_true]
    conv => whnf
    refine (awake21 _).mono ?_
    rintro _ h1 ⟨rfl, _⟩
    conv => whnf
  have h16 : p < 16 := by
    have : (p : Int) < 16 := by simpa using hd
    omega
  conv => whnf
  obtain ⟨bms, b1, b2⟩ := bs3
  have em1 : (mget (encM i64V bms) p).getD (T.at_ 3).zero = i64 ((sget (encM Prod.snd E) p).getD 0) := by
    rw [mget_enc, b2.2]
    cases sget (encM Prod.snd E) (p : Int) <;> rfl
  have em2 : (mget (encM i64V bms) p).isSome = (sget E p).isSome := by
    rw [mget_enc, b2.2, encM_get]
    cases sget E (p : Int) <;> rfl
  refine ⟨_, _, b1, ?_⟩
  rw [em1, em2]
  conv => whnf
  refine ⟨_, rfl, ?_⟩
  conv => whnf
  refine ⟨_, rfl, ?_⟩
  conv => whnf
  obtain ⟨had, eha⟩ : ∃ b, b = (sget E (p : Int)).isSome := ⟨_, rfl⟩
  rw [← eha]
  obtain ⟨cc, ecc⟩ : ∃ b, b = (sget (encM Prod.snd E) (p : Int)).getD 0 := ⟨_, rfl⟩
  have gv := getV_filter ha (ys := ys) (p := p)
  rw [← ecc] at gv ⊢
  refine ⟨fun env hm => ∃ (i : Nat) (zi : Int) (b : Bool), i ≤ k ∧ zi = i ∧ hm = hk ∧ b = decide ((p : Int) ∈ ys.take i) ∧ env = [(19, i64 zi), (18, .bool b), (17, .bool had), (16, i64 cc), (15, i64 (p : Int)), (14, i64 (below D p : Nat)), (13, .sl q D.length), (11, .sl po k), (7, .mp (some g)), (5, .ptr (some (t, 0)))],
    fun env _ => match get env 19 with
      | .int _ z => ((k : Int) - z).toNat
      | _ => 0, ⟨_, Forget.cons rfl (Forget.cons rfl (Forget.cons rfl (Forget.cons rfl (Forget.cons rfl (Forget.cons rfl (Forget.cons rfl (Forget.cons rfl (Forget.cons rfl (Forget.cons rfl (Forget.nil _)))))))))), 0, _, false, Nat.zero_le _, rfl, rfl, by rw [List.take_zero, decide_eq_false (List.not_mem_nil)], rfl⟩, ?_⟩
  rintro _ hm ⟨i, zi, b, hil, rfl, ek, eb, rfl⟩
  subst ek
  conv => whnf
  refine br_mk (fun hi => ?_) (fun hi => ?_)
  · skip
    have hi : i < k := by simpa using hi
    have hi2 : i < ys.length := by omega
    obtain ⟨i2, c2, f1, f2⟩ := slo_get ry hi
    have ek : ys.getD i 0 = ys[i] := by rw [List.getD_eq_getElem?_getD, List.getElem?_eq_getElem hi2]; rfl
    have es := among_step ys (p : Int) hi2
    conv => whnf
    cases b with
    | true =>
      conv => whnf
      rw [succ_i64 hi (by omega)]
      refine ⟨_, Forget.cons rfl (Forget.cons rfl (Forget.cons rfl (Forget.cons rfl (Forget.cons rfl (Forget.cons rfl (Forget.cons rfl (Forget.cons rfl (Forget.cons rfl (Forget.cons rfl (Forget.nil _)))))))))), ⟨i + 1, _, true, hi, rfl, rfl, by rw [es, ← eb]; rfl, rfl⟩, ?_⟩
      show ((k : Int) - ((i + 1 : Nat) : Int)).toNat < ((k : Int) - (i : Int)).toNat
      omega
    | false =>
      conv => whnf
      refine ⟨i2, c2, i, f1, rfl, hi, ?_⟩
      conv => whnf
      refine ⟨_, f2, ?_⟩
      rw [ek]
      conv => whnf
      rw [succ_i64 hi (by omega)]
      refine ⟨_, Forget.cons rfl (Forget.cons rfl (Forget.cons rfl (Forget.cons rfl (Forget.cons rfl (Forget.cons rfl (Forget.cons rfl (Forget.cons rfl (Forget.cons rfl (Forget.cons rfl (Forget.nil _)))))))))), ⟨i + 1, _, _, hi, rfl, rfl, by rw [es, ← eb]; rfl, rfl⟩, ?_⟩
      show ((k : Int) - ((i + 1 : Nat) : Int)).toNat < ((k : Int) - (i : Int)).toNat
      omega
  have hi : ¬ i < k := by simpa using hi
  obtain rfl : i = k := by omega
  rw [List.take_of_length_le (by omega)] at eb
  conv => whnf
  cases hs : sget E (p : Int) with
  | none =>
    rw [hs] at eha gv
    have eha : had = false := eha
    rw [eha]
    have hb := below_no (D := D) (p := p) (fun q => sget_none.1 hs ((hDk p).1 q).1)
    conv => whnf
    refine (get32 s3 p cc).mono ?_
    rintro _ h6 ⟨eh, rfl⟩
    subst eh
    rw [gv]
    conv => whnf
    have hpp : ((p : Int) + 1) = ((p + 1 : Nat) : Int) := by omega
    rw [succ_i64 (j := p) (n := 16) h16 (by decide)]
    refine ⟨_, Forget.cons rfl (Forget.cons rfl (Forget.cons rfl (Forget.cons rfl (Forget.cons rfl (Forget.cons rfl (Forget.nil _)))))), ⟨p + 1, _, _, h16, rfl, by rw [← hpp, hb], rfl, rfl⟩, ?_⟩
    show ((16 : Int) - ((p + 1 : Nat) : Int)).toNat < ((16 : Int) - (p : Int)).toNat
    omega
  | some x =>
    rw [hs] at eha gv
    have eha : had = true := eha
    rw [eha]
    have hmE : ((p : Int), x) ∈ E := (sget_mem ha.nodup).1 hs
    have gv : getV (E.filter fun x => decide (x.1 ∉ ys)) p cc = if (p : Int) ∈ ys then .ptr none else eV x := gv
    have hcc : cc = x.2 := by rw [ecc, encM_get, hs]; rfl
    conv => whnf
    cases b with
    | true =>
      have hy : (p : Int) ∈ ys := of_decide_eq_true eb.symm
      rw [if_pos hy] at gv
      have hmD : ((p : Int), x) ∈ D := by
        rw [← hD]
        exact List.mem_filter.2 ⟨hmE, decide_eq_true hy⟩
      obtain ⟨hl, hget, hb⟩ := below_at hDa hmD
      obtain ⟨j1, d1, f1, f2⟩ := en.cell hl
      rw [hget] at f2
      obtain ⟨ve, e5⟩ := ent3 _ hmE
      conv => whnf
      rw [show decide (((below D p : Nat) : Int) ≥ (D.length : Int)) = false from decide_eq_false (by omega)]
      conv => whnf
      refine ⟨j1, d1, below D p, f1, rfl, hl, ?_⟩
      conv => whnf
      refine ⟨_, f2, ?_⟩
      conv => whnf
      refine ⟨j1, d1, below D p, f1, rfl, hl, ?_⟩
      conv => whnf
      refine ⟨_, f2, ?_⟩
      conv => whnf
      refine ⟨_, Cell.mk e5 rfl, ?_⟩
      conv => whnf
      rw [show ((p : Int) != (p : Int)) = false by simp]
      conv => whnf
      refine ⟨j1, d1, below D p, f1, rfl, hl, ?_⟩
      conv => whnf
      refine ⟨_, f2, ?_⟩
      conv => whnf
      refine ⟨_, Cell.mk e5 rfl, ?_⟩
      conv => whnf
      rw [show (x.2 != cc) = false by rw [hcc]; simp]
      conv => whnf
      have hbs : (below D p : Int) < 16 := by
        have := s3.small
        omega
      rw [succ_i64 (j := below D p) (n := 100) (by omega) (by decide), ← hb]
      refine (get32 s3 p cc).mono ?_
      rintro _ h6 ⟨eh, rfl⟩
      subst eh
      rw [gv]
      conv => whnf
      have hpp : ((p : Int) + 1) = ((p + 1 : Nat) : Int) := by omega
      rw [succ_i64 (j := p) (n := 16) h16 (by decide)]
      refine ⟨_, Forget.cons rfl (Forget.cons rfl (Forget.cons rfl (Forget.cons rfl (Forget.cons rfl (Forget.cons rfl (Forget.nil _)))))), ⟨p + 1, _, _, h16, rfl, by rw [← hpp, hb], rfl, rfl⟩, ?_⟩
      show ((16 : Int) - ((p + 1 : Nat) : Int)).toNat < ((16 : Int) - (p : Int)).toNat
      omega
    | false =>
      have hy : (p : Int) ∉ ys := of_decide_eq_false eb.symm
      rw [if_neg hy] at gv
      have hb := below_no (D := D) (p := p) (fun q => hy ((hDk p).1 q).2)
      conv => whnf
      refine (get32 s3 p cc).mono ?_
      rintro _ h6 ⟨eh, rfl⟩
      subst eh
      rw [gv]
      conv => whnf
      have hpp : ((p : Int) + 1) = ((p + 1 : Nat) : Int) := by omega
      rw [succ_i64 (j := p) (n := 16) h16 (by decide)]
      refine ⟨_, Forget.cons rfl (Forget.cons rfl (Forget.cons rfl (Forget.cons rfl (Forget.cons rfl (Forget.cons rfl (Forget.nil _)))))), ⟨p + 1, _, _, h16, rfl, by rw [← hpp, hb], rfl, rfl⟩, ?_⟩
      show ((16 : Int) - ((p + 1 : Nat) : Int)).toNat < ((16 : Int) - (p : Int)).toNat
      omega
end Go.Proofs.Ytoljllfbabahpaa
