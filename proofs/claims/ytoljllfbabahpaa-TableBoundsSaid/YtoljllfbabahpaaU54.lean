/- Tables: who may come comes. -/
import Derived.Test.YtoljllfbabahpaaU53
set_option linter.unusedVariables false
namespace Go.Proofs.Ytoljllfbabahpaa
open Go Go.Ab
theorem pairs_cel {h : H} {p : Option (Nat × Nat)} {m : Nat} {ps : List (Int × Int)} (o : RoSl h p m 2 (pairs .i64 ps)) {j : Nat} (hj : j < m) : ∃ i c, p = some (i, c) ∧ Cell h i (c + j * 2 + 0 * 1) (i64 (ps.getD j (0, 0)).1) ∧ Cell h i (c + j * 2 + 1 * 1) (i64 (ps.getD j (0, 0)).2) := by
  have hl := o.1
  rw [pairs_length] at hl
  obtain ⟨q1, q2⟩ := pairs_get0 .i64 ps j (by omega)
  obtain ⟨i, c, e⟩ := o.some (by omega)
  subst e
  refine ⟨i, c, rfl, ?_, ?_⟩
  · have := o.cell q1
    rw [show c + j * 2 + 0 * 1 = c + j * 2 by omega]
    exact this
  · have := o.cell q2
    rw [show c + j * 2 + 1 * 1 = c + (j * 2 + 1) by omega]
    exact this
theorem mayV_in {most : Int} {E : En} {G : List (Int × Int)} {p c : Int} (h1 : 0 ≤ p ∧ p < 16) (h2 : 1 ≤ c ∧ c ≤ 2147483648) : mayV most E G p c = if c ≤ (sget G p).getD 0 then 6 else if most ≤ E.length ∧ (sget E p).isNone = true then 5 else 0 := by
  rw [mayV, if_neg]
  rw [inR_iff.2 ⟨by omega, by omega⟩, inR_iff.2 ⟨h2.1, h2.2⟩]
  simp
theorem sget_isNone {β : Type} {S : List (Int × β)} {k : Int} : (sget S k).isNone = true ↔ k ∉ keys S := by
  rw [← sget_none]
  cases sget S k <;> simp
theorem ints_set_ {k : IntKind} (xs : List Int) (j : Nat) (v : Int) : (ints k xs).set j (.int k v) = ints k (xs.set j v) := by simp [ints, List.map_set]
/-- the greatest that came, in a row of sixteen -/
structure Gr (h : H) (g : Nat) (G : List (Int × Int)) (gr : List Int) : Prop where
  row : h.obj g = some (.row true 16 (ints .i64 gr))
  len : gr.length = 16
  get : ∀ k : Nat, k < 16 → gr.getD k 0 = (sget G k).getD 0
theorem Gr.mod {Z : Nat → Prop} {h h' : H} {g : Nat} {G : List (Int × Int)} {gr : List Int} (s : Gr h g G gr) (m : Ab.Mod Z h h') (h1 : ¬ Z g) : Gr h' g G gr := ⟨m.get s.row (.inl h1), s.len, s.get⟩
theorem Gr.cell {h : H} {g : Nat} {G : List (Int × Int)} {gr : List Int} (s : Gr h g G gr) {k : Nat} (hk : k < 16) : Cell h g (0 + k * 1) (i64 ((sget G k).getD 0)) := by
  rw [Nat.zero_add, Nat.mul_one, ← s.get k hk]
  exact Cell.mk s.row (ints_get (by rw [s.len]; exact hk))
theorem Gr.put {h : H} {g : Nat} {G G' : List (Int × Int)} {gr : List Int} (s : Gr h g G gr) {k : Nat} (hk : k < 16) {c : Int} (hG : ∀ x, sget G' x = if x = (k : Int) then some c else sget G x) : Gr (h.set g (.row true 16 (splice (ints .i64 gr) (0 + k * 1) [i64 c]))) g G' (gr.set k c) ∧ Ab.Mod (one g) h (h.set g (.row true 16 (splice (ints .i64 gr) (0 + k * 1) [i64 c]))) := by
  refine ⟨⟨?_, by rw [List.length_set, s.len], fun x hx => ?_⟩, Mod.set rfl s.row rfl⟩
  · rw [H.obj_set_same s.row, splice_one, Nat.zero_add, Nat.mul_one, ← ints_set_]
  · rw [getD_set_ _ _ _ _ (by rw [s.len]; exact hk), hG, s.get x hx]
    by_cases e : k = x
    · rw [if_pos e, if_pos (by omega)]
      rfl
    · rw [if_neg e, if_neg (by omega)]
/-- who is among them -/
theorem among_step {α : Type} [DecidableEq α] (xs : List α) (x : α) {k : Nat} (h : k < xs.length) : decide (x ∈ xs.take (k + 1)) = (decide (x ∈ xs.take k) || decide (xs[k] = x)) := by
  rw [List.take_succ_eq_append_getElem h]
  rw [Bool.eq_iff_iff, decide_eq_true_iff, List.mem_append, List.mem_singleton, Bool.or_eq_true, decide_eq_true_iff, decide_eq_true_iff, eq_comm (a := x)]
set_option maxHeartbeats 2000000 in
theorem may6 {h : H} {pa : Option (Nat × Nat)} {la : Nat} {ps : List (Int × Int)} (ra : RoSl h pa la 2 (pairs .i64 ps)) (most : Int) : ACalls Try.prog 6 [i64 most, .sl pa la] h (fun r _ => r = .bool true) := by
  refine call_ Try.func6 rfl rfl (by kernel_rfl) ?_
  conv => whnf
  refine br_mk (fun ha => ?_) (fun ha => ?_)
  · skip
    conv => whnf
    refine (awake21 h).mono ?_
    rintro _ h1 ⟨rfl, _⟩
    conv => whnf
  have ha : ¬ most < 1 := by simpa using ha
  conv => whnf
  refine br_mk (fun hb => ?_) (fun hb => ?_)
  · skip
    conv => whnf
    refine (awake21 h).mono ?_
    rintro _ h1 ⟨rfl, _⟩
    conv => whnf
  have hb : ¬ most > 16 := by simpa using hb
  conv => whnf
  refine br_mk (fun hc => ?_) (fun hc => ?_)
  · skip
    conv => whnf
    refine (awake21 h).mono ?_
    rintro _ h1 ⟨rfl, _⟩
    conv => whnf
  have hc : ¬ la > 60 := by
    have : ¬ (la : Int) > 60 := by simpa using hc
    omega
  conv => whnf
  refine (tbNew h most).mono ?_
  rintro r1 h1 (⟨q, _⟩ | ⟨_, t, mi, gi, rfl, s1, n1, n2, n3, m1⟩)
  · exact absurd (show inR most 1 16 = true from inR_iff.2 ⟨by omega, by omega⟩) (by rw [q]; decide)
  conv => whnf
  refine ⟨_, rfl, ?_⟩
  conv => whnf
  refine ⟨_, rfl, ?_⟩
  conv => whnf
  have mp := Mod.push none_ h1 (.row true 16 (ints .i64 (List.replicate 16 0)))
  have lt := s1.lt
  refine ⟨fun env hk => ∃ (j : Nat) (z : Int) (E : En) (G : List (Int × Int)) (gr : List Int), j ≤ la ∧ z = j ∧ TbSt hk t mi gi most E G ∧ Gr hk h1.next G gr ∧ RoSl hk pa la 2 (pairs .i64 ps) ∧ env = [(8, i64 z), (7, .ptr (some (h1.next, 0))), (5, .ptr (some (t, 0))), (0, i64 most), (1, .sl pa la)],
    fun env _ => match get env 8 with
      | .int _ z => ((la : Int) - z).toNat
      | _ => 0, ⟨_, Forget.cons rfl (Forget.cons rfl (Forget.cons rfl (Forget.cons rfl (Forget.cons rfl (Forget.nil _))))), 0, _, [], [], List.replicate 16 0, Nat.zero_le _, rfl, s1.old mp, ⟨H.obj_push_new h1 _, rfl, fun k hk => ?_⟩, ra.get (mod_none m1 mp), rfl⟩, ?_⟩
  · rw [List.getD_eq_getElem?_getD, List.getElem?_replicate, if_pos hk]
    rfl
  obtain ⟨g, eg⟩ : ∃ g, g = h1.next := ⟨_, rfl⟩
  rw [← eg] at lt ⊢
  clear mp ra
  rintro _ hh ⟨j, z, E, G, gr, hj, rfl, st, gs, ra, rfl⟩
  conv => whnf
  refine br_mk (fun hd => ?_) (fun hd => ?_)
  rotate_left
  · conv => whnf
    refine (awake21 hh).mono ?_
    rintro _ h1 ⟨rfl, _⟩
    conv => whnf
  conv => whnf
  have hd : j < la := by simpa using hd
  have hsm := st.small
  obtain ⟨i1, c1, x1, x2, x3⟩ := pairs_cel ra hd
  refine ⟨[0,1,2,3,4,6,7,8,9,10,5,11,12,13,14],[0,0,3,7,15,31,0,0,192,448,960,2047,4095,4095,16383], by kernel_rfl, ?_⟩
  conv => whnf
  refine ⟨i1, c1, j, x1, rfl, hd, ?_⟩
  conv => whnf
  refine ⟨0, rfl, by decide, ?_⟩
  conv => whnf
  refine ⟨_, x2, ?_⟩
  conv => whnf
  refine ⟨i1, c1, j, x1, rfl, hd, ?_⟩
  conv => whnf
  refine ⟨1, rfl, by decide, ?_⟩
  conv => whnf
  refine ⟨_, x3, ?_⟩
  conv => whnf
  refine (round19 (m := 16) (by decide) (by decide) _ _).mono ?_
  rintro _ h2 ⟨eh, rfl⟩
  subst eh
  conv => whnf
  refine ⟨⟨_, x3, rfl⟩, ?_⟩
  refine (round19 (m := 30) (by decide) (by decide) _ _).mono ?_
  rintro _ h3 ⟨eh, rfl⟩
  subst eh
  obtain ⟨p, hp⟩ : ∃ p : Nat, ((ps.getD j (0, 0)).1 % 16) = p := ⟨_, (Int.toNat_of_nonneg (Int.emod_nonneg _ (by decide))).symm⟩
  have hp1 : p < 16 := by
    have := Int.emod_lt_of_pos (ps.getD j (0, 0)).1 (b := 16) (by decide)
    omega
  have hcw : IntKind.i64.wrap (1 + (ps.getD j (0, 0)).2 % 30) = 1 + (ps.getD j (0, 0)).2 % 30 := wrap_i64 (by omega) (by omega)
  obtain ⟨c, hcc⟩ : ∃ c, c = 1 + (ps.getD j (0, 0)).2 % 30 := ⟨_, rfl⟩
  have hc1 : 1 ≤ c ∧ c ≤ 30 := by omega
  rw [hp]
  conv => whnf
  rw [hcw, ← hcc]
  have vv := mayV_in (most := most) (E := E) (G := G) (p := p) (c := c) (by omega) (by omega)
  refine (all37 st).mono ?_
  rintro _ h4 ⟨q, rfl, en, m4⟩
  conv => whnf
  refine (peers36 en (by omega)).mono ?_
  rintro _ h5 ⟨q2, rfl, rq, m5⟩
  have s5 := (st.old m4).old m5
  have gs5 := (gs.mod m4 (fun k => k)).mod m5 (fun k => k)
  have ra5 := (ra.get m4).get m5
  conv => whnf
  refine (len34 s5).mono ?_
  rintro _ h6 ⟨eh, rfl⟩
  subst eh
  conv => whnf
  refine (may25 s5 p c).mono ?_
  rintro _ h7 ⟨eh, rfl⟩
  subst eh
  conv => whnf
  refine ⟨fun env hk => ∃ (k : Nat) (zk : Int) (b : Bool), k ≤ E.length ∧ zk = k ∧ hk = h7 ∧ b = decide ((p : Int) ∈ (keys E).take k) ∧ env = [(15, i64 zk), (14, .bool b), (13, i64 (mayV most E G p c)), (11, .sl q2 E.length), (12, i64 E.length), (9, i64 p), (10, i64 c), (8, i64 j), (7, .ptr (some (g, 0))), (5, .ptr (some (t, 0))), (0, i64 most), (1, .sl pa la)],
    fun env _ => match get env 15 with
      | .int _ z => ((E.length : Int) - z).toNat
      | _ => 0, ⟨_, Forget.cons rfl (Forget.cons rfl (Forget.cons rfl (Forget.cons rfl (Forget.cons rfl (Forget.cons rfl (Forget.cons rfl (Forget.cons rfl (Forget.cons rfl (Forget.cons rfl (Forget.cons rfl (Forget.cons rfl (Forget.nil _)))))))))))), 0, _, false, Nat.zero_le _, rfl, rfl, by rw [List.take_zero, decide_eq_false (List.not_mem_nil)], rfl⟩, ?_⟩
  rintro _ hk ⟨k, zk, b, hkl, rfl, ek, eb, rfl⟩
  subst ek
  conv => whnf
  refine br_mk (fun hk => ?_) (fun hk => ?_)
  · skip
    have hk : k < E.length := by simpa using hk
    have hk2 : k < (keys E).length := by rw [keys_length]; exact hk
    obtain ⟨i2, c2, f1, f2⟩ := slo_get rq.is hk
    have ek : (keys E).getD k 0 = (keys E)[k] := by rw [List.getD_eq_getElem?_getD, List.getElem?_eq_getElem hk2]; rfl
    have es := among_step (keys E) (p : Int) hk2
    conv => whnf
    cases b with
    | true =>
      conv => whnf
      rw [succ_i64 hk (by omega)]
      refine ⟨_, Forget.cons rfl (Forget.cons rfl (Forget.cons rfl (Forget.cons rfl (Forget.cons rfl (Forget.cons rfl (Forget.cons rfl (Forget.cons rfl (Forget.cons rfl (Forget.cons rfl (Forget.cons rfl (Forget.cons rfl (Forget.nil _)))))))))))), ⟨k + 1, _, true, hk, rfl, rfl, by rw [es, ← eb]; rfl, rfl⟩, ?_⟩
      show ((E.length : Int) - ((k + 1 : Nat) : Int)).toNat < ((E.length : Int) - (k : Int)).toNat
      omega
    | false =>
      conv => whnf
      refine ⟨i2, c2, k, f1, rfl, hk, ?_⟩
      conv => whnf
      refine ⟨_, f2, ?_⟩
      rw [ek]
      conv => whnf
      rw [succ_i64 hk (by omega)]
      refine ⟨_, Forget.cons rfl (Forget.cons rfl (Forget.cons rfl (Forget.cons rfl (Forget.cons rfl (Forget.cons rfl (Forget.cons rfl (Forget.cons rfl (Forget.cons rfl (Forget.cons rfl (Forget.cons rfl (Forget.cons rfl (Forget.nil _)))))))))))), ⟨k + 1, _, _, hk, rfl, rfl, by rw [es, ← eb]; rfl, rfl⟩, ?_⟩
      show ((E.length : Int) - ((k + 1 : Nat) : Int)).toNat < ((E.length : Int) - (k : Int)).toNat
      omega
  have hk : ¬ k < E.length := by simpa using hk
  obtain rfl : k = E.length := by omega
  rw [List.take_of_length_le (by rw [keys_length]; exact Nat.le_refl _)] at eb
  conv => whnf
  refine ⟨p, rfl, hp1, ?_⟩
  conv => whnf
  refine ⟨_, gs5.cell hp1, ?_⟩
  conv => whnf
  refine br_mk (fun he => ?_) (fun he => ?_)
  · skip
    have v : mayV most E G p c = 6 := by rw [vv, if_pos (by simpa using he)]
    conv => whnf
    rw [v]
    conv => whnf
    refine (entry27 _ p c).mono ?_
    rintro _ h8 ⟨ie, rfl, ye, ke, m8⟩
    have s8 := s5.old m8
    conv => whnf
    refine (add26 s8 ye).mono ?_
    rintro _ h9 ⟨rfl, m9, q9⟩
    rw [v] at q9 ⊢
    rcases q9 with ⟨_, eh⟩ | ⟨q9, _⟩
    rotate_left
    · cases q9
    subst eh
    conv => whnf
    refine (all37 s8).mono ?_
    rintro _ h10 ⟨q3, rfl, en3, m10⟩
    conv => whnf
    refine (peers36 en3 (by omega)).mono ?_
    rintro _ h11 ⟨q4, rfl, rq4, m11⟩
    conv => whnf
    have s11 := (s8.old m10).old m11
    have gs11 := ((gs5.mod m8 (fun k => k)).mod m10 (fun k => k)).mod m11 (fun k => k)
    have ra11 := ((ra5.get m8).get m10).get m11
    have rq11 := ((rq.get m8).get m10).get m11
    refine (ints33 rq4.is rq11.is (by omega)).mono ?_
    rintro _ h12 ⟨eh, rfl⟩
    subst eh
    rw [decide_eq_true rfl]
    conv => whnf
    rw [succ_i64 hd (by omega)]
    refine ⟨_, Forget.cons rfl (Forget.cons rfl (Forget.cons rfl (Forget.cons rfl (Forget.cons rfl (Forget.nil _))))), ⟨j + 1, _, _, _, _, hd, rfl, s11, gs11, ra11, rfl⟩, ?_⟩
    show ((la : Int) - ((j + 1 : Nat) : Int)).toNat < ((la : Int) - (j : Int)).toNat
    omega
  have he : ¬ c ≤ (sget G p).getD 0 := by simpa using he
  rw [if_neg he] at vv
  conv => whnf
  cases b with
  | true =>
    have v : mayV most E G p c = 0 := by
      rw [vv, if_neg]
      rw [sget_isNone]
      exact fun q => q.2 (of_decide_eq_true eb.symm)
    conv => whnf
    rw [v]
    conv => whnf
    refine (entry27 _ p c).mono ?_
    rintro _ h8 ⟨ie, rfl, ye, ke, m8⟩
    have s8 := s5.old m8
    conv => whnf
    refine (add26 s8 ye).mono ?_
    rintro _ h9 ⟨rfl, m9, q9⟩
    rw [v] at q9 ⊢
    rcases q9 with ⟨q9, _⟩ | ⟨_, G9, g9, s9⟩
    · exact absurd rfl q9
    conv => whnf
    refine ⟨p, rfl, hp1, ?_⟩
    conv => whnf
    have gs9 := (gs5.mod m8 (fun k => k)).mod m9 (fun k => by rcases k with (k : g = mi) | (k : g = gi) <;> omega)
    have ra9 := (ra5.get m8).get m9
    refine ⟨_, _, gs9.row, by rw [ints_length, gs9.len]; show 0 + p * 1 + 1 ≤ 16; omega, ?_⟩
    obtain ⟨gs11, mg⟩ := gs9.put hp1 (c := c) g9
    have s11 := s9.get mg (fun k => Nat.ne_of_lt lt.1 k) (fun k => Nat.ne_of_lt lt.2.1 k) (fun k => Nat.ne_of_lt lt.2.2 k)
    have ra11 := ra9.get mg
    have w1 : mayV most (insS E p (ie, c)) G9 p (c + 1) = 0 := by
      rw [mayV_in (by omega) (by omega), if_neg, if_neg]
      · rw [insS_get st.asc, if_pos rfl]
        exact fun q => by cases q.2
      · rw [g9, if_pos rfl]
        show ¬ c + 1 ≤ c
        omega
    have w2 : mayV most (insS E p (ie, c)) G9 p c = 6 := by
      rw [mayV_in (by omega) (by omega), if_pos]
      rw [g9, if_pos rfl]
      exact Int.le_refl _
    conv => whnf
    have hc2 : IntKind.i64.wrap (c + 1) = c + 1 := wrap_i64 (by omega) (by omega)
    rw [hc2]
    refine (may25 s11 p (c + 1)).mono ?_
    rintro _ h12 ⟨eh, rfl⟩
    rw [eh, w1]
    clear eh h12
    conv => whnf
    refine (may25 s11 p c).mono ?_
    rintro _ h12 ⟨eh, rfl⟩
    rw [eh, w2]
    clear eh h12
    conv => whnf
    rw [succ_i64 hd (by omega)]
    refine ⟨_, Forget.cons rfl (Forget.cons rfl (Forget.cons rfl (Forget.cons rfl (Forget.cons rfl (Forget.nil _))))), ⟨j + 1, _, _, _, _, hd, rfl, s11, gs11, ra11, rfl⟩, ?_⟩
    show ((la : Int) - ((j + 1 : Nat) : Int)).toNat < ((la : Int) - (j : Int)).toNat
    omega
  | false =>
    have hn : (sget E p).isNone = true := sget_isNone.2 (of_decide_eq_false eb.symm)
    conv => whnf
    refine br_mk (fun hf => ?_) (fun hf => ?_)
    · skip
      have v : mayV most E G p c = 5 := by rw [vv, if_pos ⟨by simpa using hf, hn⟩]
      conv => whnf
      rw [v]
      conv => whnf
      refine (entry27 _ p c).mono ?_
      rintro _ h8 ⟨ie, rfl, ye, ke, m8⟩
      have s8 := s5.old m8
      conv => whnf
      refine (add26 s8 ye).mono ?_
      rintro _ h9 ⟨rfl, m9, q9⟩
      rw [v] at q9 ⊢
      rcases q9 with ⟨_, eh⟩ | ⟨q9, _⟩
      rotate_left
      · cases q9
      subst eh
      conv => whnf
      refine (all37 s8).mono ?_
      rintro _ h10 ⟨q3, rfl, en3, m10⟩
      conv => whnf
      refine (peers36 en3 (by omega)).mono ?_
      rintro _ h11 ⟨q4, rfl, rq4, m11⟩
      conv => whnf
      have s11 := (s8.old m10).old m11
      have gs11 := ((gs5.mod m8 (fun k => k)).mod m10 (fun k => k)).mod m11 (fun k => k)
      have ra11 := ((ra5.get m8).get m10).get m11
      have rq11 := ((rq.get m8).get m10).get m11
      refine (ints33 rq4.is rq11.is (by omega)).mono ?_
      rintro _ h12 ⟨eh, rfl⟩
      subst eh
      rw [decide_eq_true rfl]
      conv => whnf
      rw [succ_i64 hd (by omega)]
      refine ⟨_, Forget.cons rfl (Forget.cons rfl (Forget.cons rfl (Forget.cons rfl (Forget.cons rfl (Forget.nil _))))), ⟨j + 1, _, _, _, _, hd, rfl, s11, gs11, ra11, rfl⟩, ?_⟩
      show ((la : Int) - ((j + 1 : Nat) : Int)).toNat < ((la : Int) - (j : Int)).toNat
      omega
    · skip
      have hf : ¬ (E.length : Int) ≥ most := by simpa using hf
      have v : mayV most E G p c = 0 := by rw [vv, if_neg (fun q => hf q.1)]
      conv => whnf
      rw [v]
      conv => whnf
      refine (entry27 _ p c).mono ?_
      rintro _ h8 ⟨ie, rfl, ye, ke, m8⟩
      have s8 := s5.old m8
      conv => whnf
      refine (add26 s8 ye).mono ?_
      rintro _ h9 ⟨rfl, m9, q9⟩
      rw [v] at q9 ⊢
      rcases q9 with ⟨q9, _⟩ | ⟨_, G9, g9, s9⟩
      · exact absurd rfl q9
      conv => whnf
      refine ⟨p, rfl, hp1, ?_⟩
      conv => whnf
      have gs9 := (gs5.mod m8 (fun k => k)).mod m9 (fun k => by rcases k with (k : g = mi) | (k : g = gi) <;> omega)
      have ra9 := (ra5.get m8).get m9
      refine ⟨_, _, gs9.row, by rw [ints_length, gs9.len]; show 0 + p * 1 + 1 ≤ 16; omega, ?_⟩
      obtain ⟨gs11, mg⟩ := gs9.put hp1 (c := c) g9
      have s11 := s9.get mg (fun k => Nat.ne_of_lt lt.1 k) (fun k => Nat.ne_of_lt lt.2.1 k) (fun k => Nat.ne_of_lt lt.2.2 k)
      have ra11 := ra9.get mg
      have w1 : mayV most (insS E p (ie, c)) G9 p (c + 1) = 0 := by
        rw [mayV_in (by omega) (by omega), if_neg, if_neg]
        · rw [insS_get st.asc, if_pos rfl]
          exact fun q => by cases q.2
        · rw [g9, if_pos rfl]
          show ¬ c + 1 ≤ c
          omega
      have w2 : mayV most (insS E p (ie, c)) G9 p c = 6 := by
        rw [mayV_in (by omega) (by omega), if_pos]
        rw [g9, if_pos rfl]
        exact Int.le_refl _
      conv => whnf
      have hc2 : IntKind.i64.wrap (c + 1) = c + 1 := wrap_i64 (by omega) (by omega)
      rw [hc2]
      refine (may25 s11 p (c + 1)).mono ?_
      rintro _ h12 ⟨eh, rfl⟩
      rw [eh, w1]
      clear eh h12
      conv => whnf
      refine (may25 s11 p c).mono ?_
      rintro _ h12 ⟨eh, rfl⟩
      rw [eh, w2]
      clear eh h12
      conv => whnf
      rw [succ_i64 hd (by omega)]
      refine ⟨_, Forget.cons rfl (Forget.cons rfl (Forget.cons rfl (Forget.cons rfl (Forget.cons rfl (Forget.nil _))))), ⟨j + 1, _, _, _, _, hd, rfl, s11, gs11, ra11, rfl⟩, ?_⟩
      show ((la : Int) - ((j + 1 : Nat) : Int)).toNat < ((la : Int) - (j : Int)).toNat
      omega
end Go.Proofs.Ytoljllfbabahpaa
