/- V5: several texts in one. -/
import Derived.Test.YtoljllfbabahpaaU52
import Derived.Test.YtoljllfbabahpaaV1
set_option linter.unusedVariables false
/-! Tables: what the document fixes. -/
namespace Go.Proofs.Ytoljllfbabahpaa
open Go Go.Ab
theorem mayV_same {most : Int} {E : En} {G G' : List (Int × Int)} {p c : Int} (e : sget G' p = sget G p) : mayV most E G' p c = mayV most E G p c := by rw [mayV, mayV, e]
set_option maxHeartbeats 1000000 in
theorem awake21 (h : H) : ACalls Try.prog 21 [] h (fun r h' => r = .bool true ∧ Ab.Mod none_ h h') := by
  refine call_ Try.func21 rfl rfl (by kernel_rfl) ?_
  conv => whnf
  refine (tbNew h 1).mono ?_
  rintro r1 h1 (⟨q, _⟩ | ⟨_, t, mi, gi, rfl, s1, n1, n2, n3, m1⟩)
  · exact absurd q (by decide)
  conv => whnf
  refine ⟨_, rfl, ?_⟩
  conv => whnf
  refine ⟨_, rfl, ?_⟩
  conv => whnf
  refine (tbNew h1 0).mono ?_
  rintro r2 h2 (⟨_, eh, rfl⟩ | ⟨q, _⟩)
  rotate_left
  · exact absurd q (by decide)
  subst eh
  conv => whnf
  refine ⟨_, rfl, ?_⟩
  conv => whnf
  refine ⟨_, rfl, ?_⟩
  conv => whnf
  refine (entry27 h2 3 5).mono ?_
  rintro _ h3 ⟨i1, rfl, y1, k1, m3⟩
  have s3 := s1.old m3
  conv => whnf
  refine (add26 s3 y1).mono ?_
  rintro _ h4 ⟨rfl, m4, q⟩
  have v1 : mayV 1 [] [] 3 5 = 0 := rfl
  rw [v1] at q ⊢
  rcases q with ⟨q, _⟩ | ⟨_, G4, g4, s4⟩
  · exact absurd rfl q
  conv => whnf
  refine (entry27 h4 4 1).mono ?_
  rintro _ h5 ⟨i2, rfl, y2, k2, m5⟩
  have s5 := s4.old m5
  conv => whnf
  refine (add26 s5 y2).mono ?_
  rintro _ h6 ⟨rfl, m6, q⟩
  have v2 : mayV 1 (insS [] 3 (i1, 5)) G4 4 1 = 5 := (mayV_same (G := [(3, 5)]) (by rw [g4]; rfl)).trans rfl
  rw [v2] at q ⊢
  rcases q with ⟨_, eh⟩ | ⟨q, _⟩
  rotate_left
  · cases q
  subst eh
  conv => whnf
  refine (entry27 h6 3 5).mono ?_
  rintro _ h7 ⟨i3, rfl, y3, k3, m7⟩
  have s7 := s5.old m7
  conv => whnf
  refine (add26 s7 y3).mono ?_
  rintro _ h8 ⟨rfl, m8, q⟩
  have v3 : mayV 1 (insS [] 3 (i1, 5)) G4 3 5 = 6 := (mayV_same (G := [(3, 5)]) (by rw [g4]; rfl)).trans rfl
  rw [v3] at q ⊢
  rcases q with ⟨_, eh⟩ | ⟨q, _⟩
  rotate_left
  · cases q
  subst eh
  conv => whnf
  refine (entry27 h8 3 6).mono ?_
  rintro _ h9 ⟨i4, rfl, y4, k4, m9⟩
  have s9 := s7.old m9
  conv => whnf
  refine (add26 s9 y4).mono ?_
  rintro _ h10 ⟨rfl, m10, q⟩
  have v4 : mayV 1 (insS [] 3 (i1, 5)) G4 3 6 = 0 := (mayV_same (G := [(3, 5)]) (by rw [g4]; rfl)).trans rfl
  rw [v4] at q ⊢
  rcases q with ⟨q, _⟩ | ⟨_, G10, g10, s10⟩
  · exact absurd rfl q
  conv => whnf
  have s10 : TbSt h10 t mi gi 1 [(3, (i4, 6))] G10 := s10
  refine (get32 s10 3 6).mono ?_
  rintro _ h11 ⟨eh, rfl⟩
  subst eh
  conv => whnf
  have mp := Mod.push none_ h11 (.row true 1 [i64 3, i64 4])
  have s12 := s10.old mp
  refine (drop30 (p := some (h11.next, 0)) (n := 2) (xs := [3, 4]) s12 (.inr ⟨fun _ => True, ?_, ?_⟩) (by decide)).mono ?_
  · rintro i ⟨o, e⟩ k
    obtain ⟨rfl, _⟩ := Prod.mk.injEq .. |>.mp (Option.some.inj e)
    have := s10.lt
    omega
  · exact ⟨rfl, .inr ⟨h11.next, 0, _, _, rfl, H.obj_push_new h11 _, fun _ => rfl, by decide, rfl⟩⟩
  rintro _ h13 ⟨q, rfl, en, s13, m13⟩
  have s13 : TbSt h13 t mi gi 1 [] G10 := s13
  conv => whnf
  obtain ⟨ve, e4⟩ := ((y4.get m10).get mp).get m13
  refine ⟨_, Cell.mk e4 rfl, ?_⟩
  conv => whnf
  refine (get32 s13 3 5).mono ?_
  rintro _ h14 ⟨eh, rfl⟩
  subst eh
  conv => whnf
  refine (len34 s13).mono ?_
  rintro _ h15 ⟨eh, rfl⟩
  subst eh
  conv => whnf
  refine (may25 s13 3 6).mono ?_
  rintro _ h16 ⟨eh, rfl⟩
  subst eh
  have v5 : mayV 1 [] G10 3 6 = 6 := (mayV_same (G := [(3, 6)]) (by rw [g10]; rfl)).trans rfl
  rw [v5]
  conv => whnf
  refine (may25 s13 3 7).mono ?_
  rintro _ h17 ⟨eh, rfl⟩
  subst eh
  have v6 : mayV 1 [] G10 3 7 = 0 := (mayV_same (G := [(3, 6)]) (by rw [g10]; rfl)).trans rfl
  rw [v6]
  conv => whnf
  refine (add0 _ t).mono ?_
  rintro _ h18 ⟨eh, rfl⟩
  subst eh
  conv => whnf
  refine (len00 _).mono ?_
  rintro _ h19 ⟨eh, rfl⟩
  subst eh
  conv => whnf
  refine (entry27 _ 1 1).mono ?_
  rintro _ h20 ⟨i5, rfl, y5, k5, m20⟩
  conv => whnf
  refine (add00 _ _).mono ?_
  rintro _ h21 ⟨eh, rfl⟩
  subst eh
  conv => whnf
  refine (get00 _ 1 1).mono ?_
  rintro _ h22 ⟨eh, rfl⟩
  subst eh
  conv => whnf
  have hop : ∀ {a b : H}, Ab.Mod none_ h a → Ab.Mod (two mi gi) a b → Ab.Mod none_ h b := fun m k => m.trans' k (fun _ _ e => e) (fun i hi e => by
    rcases e with (e : i = mi) | (e : i = gi) <;> omega)
  have b4 := hop (mod_none m1 m3) m4
  have b10 := hop (mod_none (mod_none (mod_none b4 m5) m7) m9) m10
  exact ⟨rfl, mod_none (hop (mod_none b10 mp) (m13.mono (fun i _ e => .inl e))) m20⟩
end Go.Proofs.Ytoljllfbabahpaa
/-! Tables: who may come comes. -/
namespace Go.Proofs.Ytoljllfbabahpaa
open Go Go.Ab
theorem pairs_cel {h : H} {p : Option (Nat × Nat)} {m : Nat} {ps : List (Int × Int)} (o : RoSl h p m 2 (pairs .i64 ps)) {j : Nat} (hj : j < m) : ∃ i c, p = some (i, c) ∧ Cell h i (c + j * 2 + 0 * 1) (i64 (ps.getD j (0, 0)).1) ∧ Cell h i (c + j * 2 + 1 * 1) (i64 (ps.getD j (0, 0)).2) := by
  have hl := o.1
  rw [pairs_length] at hl
  obtain ⟨q1, q2⟩ := pairs_get0 .i64 ps j (by omega)
  obtain ⟨i, c, e⟩ := o.some (by omega)
  subst e
  refine ⟨i, c, rfl, ?_, ?_⟩
  · have := o.cell q1
    rw [show c + j * 2 + 0 * 1 = c + j * 2 by omega]
    exact this
  · have := o.cell q2
    rw [show c + j * 2 + 1 * 1 = c + (j * 2 + 1) by omega]
    exact this
theorem mayV_in {most : Int} {E : En} {G : List (Int × Int)} {p c : Int} (h1 : 0 ≤ p ∧ p < 16) (h2 : 1 ≤ c ∧ c ≤ 2147483648) : mayV most E G p c = if c ≤ (sget G p).getD 0 then 6 else if most ≤ E.length ∧ (sget E p).isNone = true then 5 else 0 := by
  rw [mayV, if_neg]
  rw [inR_iff.2 ⟨by omega, by omega⟩, inR_iff.2 ⟨h2.1, h2.2⟩]
  simp
theorem sget_isNone {β : Type} {S : List (Int × β)} {k : Int} : (sget S k).isNone = true ↔ k ∉ keys S := by
  rw [← sget_none]
  cases sget S k <;> simp
theorem ints_set_ {k : IntKind} (xs : List Int) (j : Nat) (v : Int) : (ints k xs).set j (.int k v) = ints k (xs.set j v) := by simp [ints, List.map_set]
/-- the greatest that came, in a row of sixteen -/
structure Gr (h : H) (g : Nat) (G : List (Int × Int)) (gr : List Int) : Prop where
  row : h.obj g = some (.row true 16 (ints .i64 gr))
  len : gr.length = 16
  get : ∀ k : Nat, k < 16 → gr.getD k 0 = (sget G k).getD 0
theorem Gr.mod {Z : Nat → Prop} {h h' : H} {g : Nat} {G : List (Int × Int)} {gr : List Int} (s : Gr h g G gr) (m : Ab.Mod Z h h') (h1 : ¬ Z g) : Gr h' g G gr := ⟨m.get s.row (.inl h1), s.len, s.get⟩
theorem Gr.cell {h : H} {g : Nat} {G : List (Int × Int)} {gr : List Int} (s : Gr h g G gr) {k : Nat} (hk : k < 16) : Cell h g (0 + k * 1) (i64 ((sget G k).getD 0)) := by
  rw [Nat.zero_add, Nat.mul_one, ← s.get k hk]
  exact Cell.mk s.row (ints_get (by rw [s.len]; exact hk))
theorem Gr.put {h : H} {g : Nat} {G G' : List (Int × Int)} {gr : List Int} (s : Gr h g G gr) {k : Nat} (hk : k < 16) {c : Int} (hG : ∀ x, sget G' x = if x = (k : Int) then some c else sget G x) : Gr (h.set g (.row true 16 (splice (ints .i64 gr) (0 + k * 1) [i64 c]))) g G' (gr.set k c) ∧ Ab.Mod (one g) h (h.set g (.row true 16 (splice (ints .i64 gr) (0 + k * 1) [i64 c]))) := by
  refine ⟨⟨?_, by rw [List.length_set, s.len], fun x hx => ?_⟩, Mod.set rfl s.row rfl⟩
  · rw [H.obj_set_same s.row, splice_one, Nat.zero_add, Nat.mul_one, ← ints_set_]
  · rw [getD_set_ _ _ _ _ (by rw [s.len]; exact hk), hG, s.get x hx]
    by_cases e : k = x
    · rw [if_pos e, if_pos (by omega)]
      rfl
    · rw [if_neg e, if_neg (by omega)]
/-- who is among them -/
theorem among_step {α : Type} [DecidableEq α] (xs : List α) (x : α) {k : Nat} (h : k < xs.length) : decide (x ∈ xs.take (k + 1)) = (decide (x ∈ xs.take k) || decide (xs[k] = x)) := by
  rw [List.take_succ_eq_append_getElem h]
  rw [Bool.eq_iff_iff, decide_eq_true_iff, List.mem_append, List.mem_singleton, Bool.or_eq_true, decide_eq_true_iff, decide_eq_true_iff, eq_comm (a := x)]
set_option maxHeartbeats 2000000 in
theorem may6 {h : H} {pa : Option (Nat × Nat)} {la : Nat} {ps : List (Int × Int)} (ra : RoSl h pa la 2 (pairs .i64 ps)) (most : Int) : ACalls Try.prog 6 [i64 most, .sl pa la] h (fun r _ => r = .bool true) := by
  refine call_ Try.func6 rfl rfl (by kernel_rfl) ?_
  conv => whnf
  refine br_mk (fun ha => ?_) (fun ha => ?_)
  · skip
    conv => whnf
    refine (awake21 h).mono ?_
    rintro _ h1 ⟨rfl, _⟩
    conv => whnf
  have ha : ¬ most < 1 := by simpa using ha
  conv => whnf
  refine br_mk (fun hb => ?_) (fun hb => ?_)
  · skip
    conv => whnf
    refine (awake21 h).mono ?_
    rintro _ h1 ⟨rfl, _⟩
    conv => whnf
  have hb : ¬ most > 16 := by simpa using hb
  conv => whnf
  refine br_mk (fun hc => ?_) (fun hc => ?_)
  · skip
    conv => whnf
    refine (awake21 h).mono ?_
    rintro _ h1 ⟨rfl, _⟩
    conv => whnf
  have hc : ¬ la > 60 := by
    have : ¬ (la : Int) > 60 := by simpa using hc
    omega
  conv => whnf
  refine (tbNew h most).mono ?_
  rintro r1 h1 (⟨q, _⟩ | ⟨_, t, mi, gi, rfl, s1, n1, n2, n3, m1⟩)
  · exact absurd (show inR most 1 16 = true from inR_iff.2 ⟨by omega, by omega⟩) (by rw [q]; decide)
  conv => whnf
  refine ⟨_, rfl, ?_⟩
  conv => whnf
  refine ⟨_, rfl, ?_⟩
  conv => whnf
  have mp := Mod.push none_ h1 (.row true 16 (ints .i64 (List.replicate 16 0)))
  have lt := s1.lt
  refine ⟨fun env hk => ∃ (j : Nat) (z : Int) (E : En) (G : List (Int × Int)) (gr : List Int), j ≤ la ∧ z = j ∧ TbSt hk t mi gi most E G ∧ Gr hk h1.next G gr ∧ RoSl hk pa la 2 (pairs .i64 ps) ∧ env = [(8, i64 z), (7, .ptr (some (h1.next, 0))), (5, .ptr (some (t, 0))), (0, i64 most), (1, .sl pa la)],
    fun env _ => match get env 8 with
      | .int _ z => ((la : Int) - z).toNat
      | _ => 0, ⟨_, Forget.cons rfl (Forget.cons rfl (Forget.cons rfl (Forget.cons rfl (Forget.cons rfl (Forget.nil _))))), 0, _, [], [], List.replicate 16 0, Nat.zero_le _, rfl, s1.old mp, ⟨H.obj_push_new h1 _, rfl, fun k hk => ?_⟩, ra.get (mod_none m1 mp), rfl⟩, ?_⟩
  · rw [List.getD_eq_getElem?_getD, List.getElem?_replicate, if_pos hk]
    rfl
  obtain ⟨g, eg⟩ : ∃ g, g = h1.next := ⟨_, rfl⟩
  rw [← eg] at lt ⊢
  clear mp ra
  rintro _ hh ⟨j, z, E, G, gr, hj, rfl, st, gs, ra, rfl⟩
  conv => whnf
  refine br_mk (fun hd => ?_) (fun hd => ?_)
  rotate_left
  · conv => whnf
    refine (awake21 hh).mono ?_
    rintro _ h1 ⟨rfl, _⟩
    conv => whnf
  conv => whnf
  have hd : j < la := by simpa using hd
  have hsm := st.small
  obtain ⟨i1, c1, x1, x2, x3⟩ := pairs_cel ra hd
  refine ⟨[0,1,2,3,4,6,7,8,9,10,5,11,12,13,14],[0,0,3,7,15,31,0,0,192,448,960,2047,4095,4095,16383], by kernel_rfl, ?_⟩
  conv => whnf
  refine ⟨i1, c1, j, x1, rfl, hd, ?_⟩
  conv => whnf
  refine ⟨0, rfl, by decide, ?_⟩
  conv => whnf
  refine ⟨_, x2, ?_⟩
  conv => whnf
  refine ⟨i1, c1, j, x1, rfl, hd, ?_⟩
  conv => whnf
  refine ⟨1, rfl, by decide, ?_⟩
  conv => whnf
  refine ⟨_, x3, ?_⟩
  conv => whnf
  refine (round19 (m := 16) (by decide) (by decide) _ _).mono ?_
  rintro _ h2 ⟨eh, rfl⟩
  subst eh
  conv => whnf
  refine ⟨⟨_, x3, rfl⟩, ?_⟩
  refine (round19 (m := 30) (by decide) (by decide) _ _).mono ?_
  rintro _ h3 ⟨eh, rfl⟩
  subst eh
  obtain ⟨p, hp⟩ : ∃ p : Nat, ((ps.getD j (0, 0)).1 % 16) = p := ⟨_, (Int.toNat_of_nonneg (Int.emod_nonneg _ (by decide))).symm⟩
  have hp1 : p < 16 := by
    have := Int.emod_lt_of_pos (ps.getD j (0, 0)).1 (b := 16) (by decide)
    omega
  have hcw : IntKind.i64.wrap (1 + (ps.getD j (0, 0)).2 % 30) = 1 + (ps.getD j (0, 0)).2 % 30 := wrap_i64 (by omega) (by omega)
  obtain ⟨c, hcc⟩ : ∃ c, c = 1 + (ps.getD j (0, 0)).2 % 30 := ⟨_, rfl⟩
  have hc1 : 1 ≤ c ∧ c ≤ 30 := by omega
  rw [hp]
  conv => whnf
  rw [hcw, ← hcc]
  have vv := mayV_in (most := most) (E := E) (G := G) (p := p) (c := c) (by omega) (by omega)
  refine (all37 st).mono ?_
  rintro _ h4 ⟨q, rfl, en, m4⟩
  conv => whnf
  refine (peers36 en (by omega)).mono ?_
  rintro _ h5 ⟨q2, rfl, rq, m5⟩
  have s5 := (st.old m4).old m5
  have gs5 := (gs.mod m4 (fun k => k)).mod m5 (fun k => k)
  have ra5 := (ra.get m4).get m5
  conv => whnf
  refine (len34 s5).mono ?_
  rintro _ h6 ⟨eh, rfl⟩
  subst eh
  conv => whnf
  refine (may25 s5 p c).mono ?_
  rintro _ h7 ⟨eh, rfl⟩
  subst eh
  conv => whnf
  refine ⟨fun env hk => ∃ (k : Nat) (zk : Int) (b : Bool), k ≤ E.length ∧ zk = k ∧ hk = h7 ∧ b = decide ((p : Int) ∈ (keys E).take k) ∧ env = [(15, i64 zk), (14, .bool b), (13, i64 (mayV most E G p c)), (11, .sl q2 E.length), (12, i64 E.length), (9, i64 p), (10, i64 c), (8, i64 j), (7, .ptr (some (g, 0))), (5, .ptr (some (t, 0))), (0, i64 most), (1, .sl pa la)],
    fun env _ => match get env 15 with
      | .int _ z => ((E.length : Int) - z).toNat
      | _ => 0, ⟨_, Forget.cons rfl (Forget.cons rfl (Forget.cons rfl (Forget.cons rfl (Forget.cons rfl (Forget.cons rfl (Forget.cons rfl (Forget.cons rfl (Forget.cons rfl (Forget.cons rfl (Forget.cons rfl (Forget.cons rfl (Forget.nil _)))))))))))), 0, _, false, Nat.zero_le _, rfl, rfl, by rw [List.take_zero, decide_eq_false (List.not_mem_nil)], rfl⟩, ?_⟩
  rintro _ hk ⟨k, zk, b, hkl, rfl, ek, eb, rfl⟩
  subst ek
  conv => whnf
  refine br_mk (fun hk => ?_) (fun hk => ?_)
  · skip
    have hk : k < E.length := by simpa using hk
    have hk2 : k < (keys E).length := by rw [keys_length]; exact hk
    obtain ⟨i2, c2, f1, f2⟩ := slo_get rq.is hk
    have ek : (keys E).getD k 0 = (keys E)[k] := by rw [List.getD_eq_getElem?_getD, List.getElem?_eq_getElem hk2]; rfl
    have es := among_step (keys E) (p : Int) hk2
    conv => whnf
    cases b with
    | true =>
      conv => whnf
      rw [succ_i64 hk (by omega)]
      refine ⟨_, Forget.cons rfl (Forget.cons rfl (Forget.cons rfl (Forget.cons rfl (Forget.cons rfl (Forget.cons rfl (Forget.cons rfl (Forget.cons rfl (Forget.cons rfl (Forget.cons rfl (Forget.cons rfl (Forget.cons rfl (Forget.nil _)))))))))))), ⟨k + 1, _, true, hk, rfl, rfl, by rw [es, ← eb]; rfl, rfl⟩, ?_⟩
      show ((E.length : Int) - ((k + 1 : Nat) : Int)).toNat < ((E.length : Int) - (k : Int)).toNat
      omega
    | false =>
      conv => whnf
      refine ⟨i2, c2, k, f1, rfl, hk, ?_⟩
      conv => whnf
      refine ⟨_, f2, ?_⟩
      rw [ek]
      conv => whnf
      rw [succ_i64 hk (by omega)]
      refine ⟨_, Forget.cons rfl (Forget.cons rfl (Forget.cons rfl (Forget.cons rfl (Forget.cons rfl (Forget.cons rfl (Forget.cons rfl (Forget.cons rfl (Forget.cons rfl (Forget.cons rfl (Forget.cons rfl (Forget.cons rfl (Forget.nil _)))))))))))), ⟨k + 1, _, _, hk, rfl, rfl, by rw [es, ← eb]; rfl, rfl⟩, ?_⟩
      show ((E.length : Int) - ((k + 1 : Nat) : Int)).toNat < ((E.length : Int) - (k : Int)).toNat
      omega
  have hk : ¬ k < E.length := by simpa using hk
  obtain rfl : k = E.length := by omega
  rw [List.take_of_length_le (by rw [keys_length]; exact Nat.le_refl _)] at eb
  conv => whnf
  refine ⟨p, rfl, hp1, ?_⟩
  conv => whnf
  refine ⟨_, gs5.cell hp1, ?_⟩
  conv => whnf
  refine br_mk (fun he => ?_) (fun he => ?_)
  · skip
    have v : mayV most E G p c = 6 := by rw [vv, if_pos (by simpa using he)]
    conv => whnf
    rw [v]
    conv => whnf
    refine (entry27 _ p c).mono ?_
    rintro _ h8 ⟨ie, rfl, ye, ke, m8⟩
    have s8 := s5.old m8
    conv => whnf
    refine (add26 s8 ye).mono ?_
    rintro _ h9 ⟨rfl, m9, q9⟩
    rw [v] at q9 ⊢
    rcases q9 with ⟨_, eh⟩ | ⟨q9, _⟩
    rotate_left
    · cases q9
    subst eh
    conv => whnf
    refine (all37 s8).mono ?_
    rintro _ h10 ⟨q3, rfl, en3, m10⟩
    conv => whnf
    refine (peers36 en3 (by omega)).mono ?_
    rintro _ h11 ⟨q4, rfl, rq4, m11⟩
    conv => whnf
    have s11 := (s8.old m10).old m11
    have gs11 := ((gs5.mod m8 (fun k => k)).mod m10 (fun k => k)).mod m11 (fun k => k)
    have ra11 := ((ra5.get m8).get m10).get m11
    have rq11 := ((rq.get m8).get m10).get m11
    refine (ints33 rq4.is rq11.is (by omega)).mono ?_
    rintro _ h12 ⟨eh, rfl⟩
    subst eh
    rw [decide_eq_true rfl]
    conv => whnf
    rw [succ_i64 hd (by omega)]
    refine ⟨_, Forget.cons rfl (Forget.cons rfl (Forget.cons rfl (Forget.cons rfl (Forget.cons rfl (Forget.nil _))))), ⟨j + 1, _, _, _, _, hd, rfl, s11, gs11, ra11, rfl⟩, ?_⟩
    show ((la : Int) - ((j + 1 : Nat) : Int)).toNat < ((la : Int) - (j : Int)).toNat
    omega
  have he : ¬ c ≤ (sget G p).getD 0 := by simpa using he
  rw [if_neg he] at vv
  conv => whnf
  cases b with
  | true =>
    have v : mayV most E G p c = 0 := by
      rw [vv, if_neg]
      rw [sget_isNone]
      exact fun q => q.2 (of_decide_eq_true eb.symm)
    conv => whnf
    rw [v]
    conv => whnf
    refine (entry27 _ p c).mono ?_
    rintro _ h8 ⟨ie, rfl, ye, ke, m8⟩
    have s8 := s5.old m8
    conv => whnf
    refine (add26 s8 ye).mono ?_
    rintro _ h9 ⟨rfl, m9, q9⟩
    rw [v] at q9 ⊢
    rcases q9 with ⟨q9, _⟩ | ⟨_, G9, g9, s9⟩
    · exact absurd rfl q9
    conv => whnf
    refine ⟨p, rfl, hp1, ?_⟩
    conv => whnf
    have gs9 := (gs5.mod m8 (fun k => k)).mod m9 (fun k => by rcases k with (k : g = mi) | (k : g = gi) <;> omega)
    have ra9 := (ra5.get m8).get m9
    refine ⟨_, _, gs9.row, by rw [ints_length, gs9.len]; show 0 + p * 1 + 1 ≤ 16; omega, ?_⟩
    obtain ⟨gs11, mg⟩ := gs9.put hp1 (c := c) g9
    have s11 := s9.get mg (fun k => Nat.ne_of_lt lt.1 k) (fun k => Nat.ne_of_lt lt.2.1 k) (fun k => Nat.ne_of_lt lt.2.2 k)
    have ra11 := ra9.get mg
    have w1 : mayV most (insS E p (ie, c)) G9 p (c + 1) = 0 := by
      rw [mayV_in (by omega) (by omega), if_neg, if_neg]
      · rw [insS_get st.asc, if_pos rfl]
        exact fun q => by cases q.2
      · rw [g9, if_pos rfl]
        show ¬ c + 1 ≤ c
        omega
    have w2 : mayV most (insS E p (ie, c)) G9 p c = 6 := by
      rw [mayV_in (by omega) (by omega), if_pos]
      rw [g9, if_pos rfl]
      exact Int.le_refl _
    conv => whnf
    have hc2 : IntKind.i64.wrap (c + 1) = c + 1 := wrap_i64 (by omega) (by omega)
    rw [hc2]
    refine (may25 s11 p (c + 1)).mono ?_
    rintro _ h12 ⟨eh, rfl⟩
    rw [eh, w1]
    clear eh h12
    conv => whnf
    refine (may25 s11 p c).mono ?_
    rintro _ h12 ⟨eh, rfl⟩
    rw [eh, w2]
    clear eh h12
    conv => whnf
    rw [succ_i64 hd (by omega)]
    refine ⟨_, Forget.cons rfl (Forget.cons rfl (Forget.cons rfl (Forget.cons rfl (Forget.cons rfl (Forget.nil _))))), ⟨j + 1, _, _, _, _, hd, rfl, s11, gs11, ra11, rfl⟩, ?_⟩
    show ((la : Int) - ((j + 1 : Nat) : Int)).toNat < ((la : Int) - (j : Int)).toNat
    omega
  | false =>
    have hn : (sget E p).isNone = true := sget_isNone.2 (of_decide_eq_false eb.symm)
    conv => whnf
    refine br_mk (fun hf => ?_) (fun hf => ?_)
    · skip
      have v : mayV most E G p c = 5 := by rw [vv, if_pos ⟨by simpa using hf, hn⟩]
      conv => whnf
      rw [v]
      conv => whnf
      refine (entry27 _ p c).mono ?_
      rintro _ h8 ⟨ie, rfl, ye, ke, m8⟩
      have s8 := s5.old m8
      conv => whnf
      refine (add26 s8 ye).mono ?_
      rintro _ h9 ⟨rfl, m9, q9⟩
      rw [v] at q9 ⊢
      rcases q9 with ⟨_, eh⟩ | ⟨q9, _⟩
      rotate_left
      · cases q9
      subst eh
      conv => whnf
      refine (all37 s8).mono ?_
      rintro _ h10 ⟨q3, rfl, en3, m10⟩
      conv => whnf
      refine (peers36 en3 (by omega)).mono ?_
      rintro _ h11 ⟨q4, rfl, rq4, m11⟩
      conv => whnf
      have s11 := (s8.old m10).old m11
      have gs11 := ((gs5.mod m8 (fun k => k)).mod m10 (fun k => k)).mod m11 (fun k => k)
      have ra11 := ((ra5.get m8).get m10).get m11
      have rq11 := ((rq.get m8).get m10).get m11
      refine (ints33 rq4.is rq11.is (by omega)).mono ?_
      rintro _ h12 ⟨eh, rfl⟩
      subst eh
      rw [decide_eq_true rfl]
      conv => whnf
      rw [succ_i64 hd (by omega)]
      refine ⟨_, Forget.cons rfl (Forget.cons rfl (Forget.cons rfl (Forget.cons rfl (Forget.cons rfl (Forget.nil _))))), ⟨j + 1, _, _, _, _, hd, rfl, s11, gs11, ra11, rfl⟩, ?_⟩
      show ((la : Int) - ((j + 1 : Nat) : Int)).toNat < ((la : Int) - (j : Int)).toNat
      omega
    · skip
      have hf : ¬ (E.length : Int) ≥ most := by simpa using hf
      have v : mayV most E G p c = 0 := by rw [vv, if_neg (fun q => hf q.1)]
      conv => whnf
      rw [v]
      conv => whnf
      refine (entry27 _ p c).mono ?_
      rintro _ h8 ⟨ie, rfl, ye, ke, m8⟩
      have s8 := s5.old m8
      conv => whnf
      refine (add26 s8 ye).mono ?_
      rintro _ h9 ⟨rfl, m9, q9⟩
      rw [v] at q9 ⊢
      rcases q9 with ⟨q9, _⟩ | ⟨_, G9, g9, s9⟩
      · exact absurd rfl q9
      conv => whnf
      refine ⟨p, rfl, hp1, ?_⟩
      conv => whnf
      have gs9 := (gs5.mod m8 (fun k => k)).mod m9 (fun k => by rcases k with (k : g = mi) | (k : g = gi) <;> omega)
      have ra9 := (ra5.get m8).get m9
      refine ⟨_, _, gs9.row, by rw [ints_length, gs9.len]; show 0 + p * 1 + 1 ≤ 16; omega, ?_⟩
      obtain ⟨gs11, mg⟩ := gs9.put hp1 (c := c) g9
      have s11 := s9.get mg (fun k => Nat.ne_of_lt lt.1 k) (fun k => Nat.ne_of_lt lt.2.1 k) (fun k => Nat.ne_of_lt lt.2.2 k)
      have ra11 := ra9.get mg
      have w1 : mayV most (insS E p (ie, c)) G9 p (c + 1) = 0 := by
        rw [mayV_in (by omega) (by omega), if_neg, if_neg]
        · rw [insS_get st.asc, if_pos rfl]
          exact fun q => by cases q.2
        · rw [g9, if_pos rfl]
          show ¬ c + 1 ≤ c
          omega
      have w2 : mayV most (insS E p (ie, c)) G9 p c = 6 := by
        rw [mayV_in (by omega) (by omega), if_pos]
        rw [g9, if_pos rfl]
        exact Int.le_refl _
      conv => whnf
      have hc2 : IntKind.i64.wrap (c + 1) = c + 1 := wrap_i64 (by omega) (by omega)
      rw [hc2]
      refine (may25 s11 p (c + 1)).mono ?_
      rintro _ h12 ⟨eh, rfl⟩
      rw [eh, w1]
      clear eh h12
      conv => whnf
      refine (may25 s11 p c).mono ?_
      rintro _ h12 ⟨eh, rfl⟩
      rw [eh, w2]
      clear eh h12
      conv => whnf
      rw [succ_i64 hd (by omega)]
      refine ⟨_, Forget.cons rfl (Forget.cons rfl (Forget.cons rfl (Forget.cons rfl (Forget.cons rfl (Forget.nil _))))), ⟨j + 1, _, _, _, _, hd, rfl, s11, gs11, ra11, rfl⟩, ?_⟩
      show ((la : Int) - ((j + 1 : Nat) : Int)).toNat < ((la : Int) - (j : Int)).toNat
      omega
end Go.Proofs.Ytoljllfbabahpaa
/-! Tables: who is dropped is gone. -/
namespace Go.Proofs.Ytoljllfbabahpaa
open Go Go.Ab
theorem len_split {α : Type} (P Q : α → Bool) (l : List α) (h : ∀ x ∈ l, Q x = !P x) : l.length = (l.filter P).length + (l.filter Q).length := by
  induction l with
  | nil => rfl
  | cons a l ih =>
    have := ih (fun x hx => h x (List.mem_cons_of_mem _ hx))
    have ha := h a (List.mem_cons_self ..)
    cases hp : P a <;> rw [hp] at ha <;> simp [List.filter_cons, hp, ha] <;> omega
theorem insS_more {β : Type} {S : List (Int × β)} {p : Int} (v : β) (h : p ∉ keys S) : (insS S p v).length = S.length + 1 := by
  have := len_split (fun x : Int × β => decide (x.1 < p)) (fun x => decide (p < x.1)) S (fun x hx => by
    have : x.1 ≠ p := fun e => h (List.mem_map.2 ⟨x, hx, e⟩)
    rw [Bool.eq_iff_iff]
    simp
    omega)
  rw [insS, List.length_append, List.length_cons]
  omega
theorem full_in {E : En} (ha : AscS E) (hr : ∀ k ∈ keys E, 0 ≤ k ∧ k < 16) {p : Int} (hp : 0 ≤ p ∧ p < 16) (hl : (16 : Int) ≤ E.length) : ¬ (sget E p).isNone = true := fun q => by
  have hn := sget_isNone.1 q
  have h1 := insS_more (0, 0) hn
  have h2 := asc_short (l := keys (insS E p (0, 0))) (a := 0) (b := 16) (insS_asc ha p (0, 0)) (insS_keys hr hp _)
  rw [keys_length] at h2
  omega
/-- how many are below -/
def below (D : En) (p : Int) : Nat := (D.filter fun x => decide (x.1 < p)).length
theorem below_at {D : En} (ha : AscS D) {p : Int} {v : Nat × Int} (hm : (p, v) ∈ D) : ∃ hl : below D p < D.length, D[below D p] = (p, v) ∧ below D (p + 1) = below D p + 1 := by
  obtain ⟨A, B, rfl⟩ := List.append_of_mem hm
  obtain ⟨h1, h2⟩ := asc_mid ha
  have e1 : (A ++ (p, v) :: B).filter (fun x => decide (x.1 < p)) = A := by
    rw [List.filter_append, List.filter_cons_of_neg (by simp), List.filter_eq_self.2 (fun x hx => decide_eq_true (h1 x hx)), List.filter_eq_nil_iff.2 (fun x hx => by have := h2 x hx; simp at this ⊢; omega), List.append_nil]
  have e2 : (A ++ (p, v) :: B).filter (fun x => decide (x.1 < p + 1)) = A ++ [(p, v)] := by
    rw [List.filter_append, List.filter_cons_of_pos (by simp; omega), List.filter_eq_self.2 (fun x hx => by have := h1 x hx; simp at this ⊢; omega), List.filter_eq_nil_iff.2 (fun x hx => by have := h2 x hx; simp at this ⊢; omega)]
  have b1 : below (A ++ (p, v) :: B) p = A.length := by rw [below, e1]
  have b2 : below (A ++ (p, v) :: B) (p + 1) = A.length + 1 := by rw [below, e2, List.length_append]; rfl
  refine ⟨by rw [b1]; simp, ?_, by rw [b1, b2]⟩
  simp [b1]
theorem below_no {D : En} {p : Int} (h : p ∉ keys D) : below D (p + 1) = below D p := by
  unfold below
  congr 1
  refine List.filter_congr (fun x hx => ?_)
  have : x.1 ≠ p := fun e => h (List.mem_map.2 ⟨x, hx, e⟩)
  rw [Bool.eq_iff_iff]
  simp
  omega
theorem below_all {D : En} {p : Int} (h : ∀ k ∈ keys D, k < p) : below D p = D.length := by
  rw [below, List.filter_eq_self.2 (fun x hx => decide_eq_true (h _ (List.mem_map.2 ⟨x, hx, rfl⟩)))]
theorem below_zero {D : En} {p : Int} (h : ∀ k ∈ keys D, p ≤ k) : below D p = 0 := by
  rw [below, List.filter_eq_nil_iff.2 (fun x hx => ?_)]
  · rfl
  · have := h _ (List.mem_map.2 ⟨x, hx, rfl⟩)
    simp
    omega
theorem keys_filter_in {E : En} {P : Int → Bool} {k : Int} : k ∈ keys (E.filter fun x => P x.1) ↔ k ∈ keys E ∧ P k = true := by
  unfold keys
  rw [List.mem_map, List.mem_map]
  constructor
  · rintro ⟨x, hx, rfl⟩
    obtain ⟨h1, h2⟩ := List.mem_filter.1 hx
    exact ⟨⟨x, h1, rfl⟩, h2⟩
  · rintro ⟨⟨x, hx, rfl⟩, h⟩
    exact ⟨x, List.mem_filter.2 ⟨hx, h⟩, rfl⟩
theorem asc_filter {E : En} (h : AscS E) (P : Int × (Nat × Int) → Bool) : AscS (E.filter P) := List.Pairwise.sublist (List.Sublist.map _ List.filter_sublist) h
/-- what is asked for behind the drop -/
theorem getV_filter {E : En} (ha : AscS E) {ys : List Int} {p : Int} : getV (E.filter fun x => decide (x.1 ∉ ys)) p ((sget (encM Prod.snd E) p).getD 0) = match sget E p with
    | some x => if p ∈ ys then .ptr none else eV x
    | none => .ptr none := by
  have h1 : sget (E.filter fun x => decide (x.1 ∉ ys)) p = if p ∈ ys then none else sget E p := by
    refine opt_ext fun v => ?_
    rw [sget_mem (asc_filter ha _).nodup, List.mem_filter]
    by_cases hp : p ∈ ys
    · simp [hp]
    · simp [hp, sget_mem ha.nodup]
  rw [getV, h1, encM_get]
  by_cases hp : p ∈ ys
  · simp only [if_pos hp]
    cases sget E p <;> rfl
  · simp only [if_neg hp]
    cases sget E p with
    | none => rfl
    | some x =>
      show (if x.2 = x.2 then eV x else V.ptr none) = eV x
      rw [if_pos rfl]
def dropAt (z : Int) : Int := z % 20 - 2
set_option maxHeartbeats 2000000 in
theorem drops7 {h : H} {pa pd : Option (Nat × Nat)} {la ld : Nat} {ps : List (Int × Int)} {xs : List Int} (ra : RoSl h pa la 2 (pairs .i64 ps)) (rd : RoSl h pd ld 1 (ints .i64 xs)) : ACalls Try.prog 7 [.sl pa la, .sl pd ld] h (fun r _ => r = .bool true) := by
  refine call_ Try.func7 rfl rfl (by kernel_rfl) ?_
  conv => whnf
  refine br_mk (fun ha => ?_) (fun ha => ?_)
  · skip
    conv => whnf
    refine (awake21 h).mono ?_
    rintro _ h1 ⟨rfl, _⟩
    conv => whnf
  have ha : ¬ la > 40 := by
    have : ¬ (la : Int) > 40 := by simpa using ha
    omega
  conv => whnf
  refine br_mk (fun hb => ?_) (fun hb => ?_)
  · skip
    conv => whnf
    refine (awake21 h).mono ?_
    rintro _ h1 ⟨rfl, _⟩
    conv => whnf
  have hb : ¬ ld > 30 := by
    have : ¬ (ld : Int) > 30 := by simpa using hb
    omega
  conv => whnf
  refine (tbNew h 16).mono ?_
  rintro r1 h1 (⟨q, _⟩ | ⟨_, t, mi, gi, rfl, s1, n1, n2, n3, m1⟩)
  · exact absurd q (by decide)
  conv => whnf
  refine ⟨_, rfl, ?_⟩
  conv => whnf
  refine ⟨_, rfl, ?_⟩
  conv => whnf
  have mp := Mod.push none_ h1 (.map true [])
  have lt := s1.lt
  have hlx := slo_len rd.is
  refine ⟨fun env hk => ∃ (j : Nat) (z : Int) (E : En) (G : List (Int × Int)), j ≤ la ∧ z = j ∧ TbSt hk t mi gi 16 E G ∧ (∀ k, (sget G k).getD 0 ≤ j) ∧ BSt hk h1.next (encM Prod.snd E) ∧ RoSl hk pa la 2 (pairs .i64 ps) ∧ RoSl hk pd ld 1 (ints .i64 xs) ∧ env = [(8, i64 z), (7, .mp (some h1.next)), (5, .ptr (some (t, 0))), (0, .sl pa la), (1, .sl pd ld)],
    fun env _ => match get env 8 with
      | .int _ z => ((la : Int) - z).toNat
      | _ => 0, ⟨_, Forget.cons rfl (Forget.cons rfl (Forget.cons rfl (Forget.cons rfl (Forget.cons rfl (Forget.nil _))))), 0, _, [], [], Nat.zero_le _, rfl, s1.old mp, fun k => Int.le_refl _, ⟨[], H.obj_push_new h1 _, List.nodup_nil, fun _ => rfl⟩, ra.get (mod_none m1 mp), rd.get (mod_none m1 mp), rfl⟩, ?_⟩
  obtain ⟨g, eg⟩ : ∃ g, g = h1.next := ⟨_, rfl⟩
  rw [← eg] at lt ⊢
  clear mp ra rd
  rintro _ hh ⟨j, z, E, G, hj, rfl, st, gb, bs, ra, rd, rfl⟩
  conv => whnf
  refine br_mk (fun hd => ?_) (fun hd => ?_)
  · skip
    have hd : j < la := by simpa using hd
    have hsm := st.small
    obtain ⟨i1, c1, x1, x2, x3⟩ := pairs_cel ra hd
    conv => whnf
    refine ⟨i1, c1, j, x1, rfl, hd, ?_⟩
    conv => whnf
    refine ⟨0, rfl, by decide, ?_⟩
    conv => whnf
    refine ⟨_, x2, ?_⟩
    conv => whnf
    refine (round19 (m := 16) (by decide) (by decide) _ _).mono ?_
    rintro _ h2 ⟨eh, rfl⟩
    subst eh
    obtain ⟨p, hp, hp0, hp1⟩ : ∃ p : Int, ((ps.getD j (0, 0)).1 % 16) = p ∧ 0 ≤ p ∧ p < 16 := ⟨_, rfl, Int.emod_nonneg _ (by decide), Int.emod_lt_of_pos _ (by decide)⟩
    have hcw : IntKind.i64.wrap (1 + (j : Int)) = 1 + (j : Int) := wrap_i64 (by omega) (by omega)
    rw [hp]
    conv => whnf
    rw [hcw]
    have v : mayV 16 E G p (1 + j) = 0 := by
      rw [mayV_in ⟨hp0, hp1⟩ (by omega), if_neg (by have := gb p; omega), if_neg]
      exact fun q => full_in st.asc st.rng ⟨hp0, hp1⟩ q.1 q.2
    refine (entry27 _ p (1 + j)).mono ?_
    rintro _ h8 ⟨ie, rfl, ye, ke, m8⟩
    have s8 := st.old m8
    conv => whnf
    refine (add26 s8 ye).mono ?_
    rintro _ h9 ⟨rfl, m9, q9⟩
    rw [v] at q9 ⊢
    rcases q9 with ⟨q9, _⟩ | ⟨_, G9, g9, s9⟩
    · exact absurd rfl q9
    conv => whnf
    obtain ⟨bms, b1, b2⟩ := (bs.get m8 (fun k => k)).get m9 (fun k => by rcases k with (k : g = mi) | (k : g = gi) <;> omega)
    refine ⟨_, b1, ?_⟩
    conv => whnf
    have em := mput_enc i64V p (1 + (j : Int)) bms
    obtain ⟨b3, mb⟩ := BSt.turn (BG' := encM Prod.snd (insS E p (ie, 1 + (j : Int)))) ⟨bms, b1, b2⟩ (b2.put p (1 + (j : Int)) (fun k => by
      rw [← encM_ins]
      exact insS_get ((encM_asc _).2 st.asc) p _ k))
    rw [← em] at b3 mb
    have s11 := s9.get mb (fun k => Nat.ne_of_lt lt.1 k) (fun k => Nat.ne_of_lt lt.2.1 k) (fun k => Nat.ne_of_lt lt.2.2 k)
    have ra11 := ((ra.get m8).get m9).get mb
    have rd11 := ((rd.get m8).get m9).get mb
    have gb11 : ∀ k, (sget G9 k).getD 0 ≤ ((j + 1 : Nat) : Int) := fun k => by
      rw [g9]
      have := gb k
      split
      · show 1 + (j : Int) ≤ _
        omega
      · omega
    rw [succ_i64 hd (by omega)]
    refine ⟨_, Forget.cons rfl (Forget.cons rfl (Forget.cons rfl (Forget.cons rfl (Forget.cons rfl (Forget.nil _))))), ⟨j + 1, _, _, _, hd, rfl, s11, gb11, b3, ra11, rd11, rfl⟩, ?_⟩
    show ((la : Int) - ((j + 1 : Nat) : Int)).toNat < ((la : Int) - (j : Int)).toNat
    omega
  have hd : ¬ j < la := by simpa using hd
  clear hd hj ra gb
  conv => whnf
  refine ⟨fun env hk => ∃ (k : Nat) (zk : Int) (po : Option (Nat × Nat)), k ≤ ld ∧ zk = k ∧ NewSl hh hk po k 1 (ints .i64 ((xs.take k).map dropAt)) ∧ Ab.Mod none_ hh hk ∧ env = [(12, i64 zk), (11, .sl po k), (7, .mp (some g)), (5, .ptr (some (t, 0))), (1, .sl pd ld)],
    fun env _ => match get env 12 with
      | .int _ z => ((ld : Int) - z).toNat
      | _ => 0, ⟨_, Forget.cons rfl (Forget.cons rfl (Forget.cons rfl (Forget.cons rfl (Forget.cons rfl (Forget.nil _))))), 0, _, none, Nat.zero_le _, rfl, NewSl.nil _ _ _, mod_refl _ _, rfl⟩, ?_⟩
  rintro _ hk ⟨k, zk, po, hkl, rfl, no, mo, rfl⟩
  conv => whnf
  refine br_mk (fun hd => ?_) (fun hd => ?_)
  · skip
    have hd : k < ld := by simpa using hd
    obtain ⟨i1, c1, f1, f2⟩ := slo_get (rd.get mo).is hd
    conv => whnf
    refine ⟨i1, c1, k, f1, rfl, hd, ?_⟩
    conv => whnf
    refine ⟨_, f2, ?_⟩
    conv => whnf
    refine (round19 (m := 20) (by decide) (by decide) _ _).mono ?_
    rintro _ h2 ⟨eh, rfl⟩
    subst eh
    conv => whnf
    have hw : IntKind.i64.wrap (xs.getD k 0 % 20 - 2) = dropAt (xs.getD k 0) := wrap_i64 (by omega) (by omega)
    rw [hw]
    obtain ⟨y1, y2, y3⟩ := app1 no mo [i64 (dropAt (xs.getD k 0))] rfl
    refine ⟨_, _, y1, y2, by rw [show (T.at_ 3).bytes = 8 from rfl]; omega, by omega, fun p' h' hs hm hf => ?_⟩
    obtain ⟨ng8, mo8, _⟩ := y3 p' h' hs hm hf
    have e6 : ints .i64 ((xs.take k).map dropAt) ++ [i64 (dropAt (xs.getD k 0))] = ints .i64 ((xs.take (k + 1)).map dropAt) := by
      have hx : k < xs.length := by omega
      rw [List.take_succ_eq_append_getElem hx, List.map_append, ints_append, List.getD_eq_getElem?_getD, List.getElem?_eq_getElem hx]
      rfl
    rw [e6] at ng8
    conv => whnf
    rw [succ_i64 hd (by omega)]
    refine ⟨_, Forget.cons rfl (Forget.cons rfl (Forget.cons rfl (Forget.cons rfl (Forget.cons rfl (Forget.nil _))))), ⟨k + 1, _, p', hd, rfl, ng8, mo8, rfl⟩, ?_⟩
    show ((ld : Int) - ((k + 1 : Nat) : Int)).toNat < ((ld : Int) - (k : Int)).toNat
    omega
  have hd : ¬ k < ld := by simpa using hd
  obtain rfl : k = ld := by omega
  rw [List.take_of_length_le (by omega)] at no
  obtain ⟨ys, ey⟩ : ∃ ys, ys = xs.map dropAt := ⟨_, rfl⟩
  rw [← ey] at no
  have hly : ys.length = k := by rw [ey, List.length_map]; omega
  clear hd hkl rd hlx
  conv => whnf
  have hne : ∀ i, inSl po i → i ≠ mi := fun i ⟨o, e⟩ q => by
    have := no.2 i o e
    have := st.lt
    omega
  refine (drop30 (st.old mo) (.inr ⟨fun _ => True, hne, no.1⟩) (by omega)).mono ?_
  rintro _ h3 ⟨q, rfl, en, s3, m3⟩
  have ry := (no.1.get m3 (fun i o e => .inl (fun k => hne i ⟨o, e⟩ k))).weak
  have bs3 := (bs.get mo (fun k => k)).get m3 (fun k => (Nat.ne_of_lt lt.2.1) (Eq.symm k))
  have ha := st.asc
  have hr := st.rng
  have hsm := st.small
  have ent3 : ∀ x ∈ E, EnSt h3 x.2.1 x.1 x.2.2 := fun x hx => ((st.ent x hx).get mo).get m3
  clear no mo m3 bs st hne
  generalize hD : (E.filter fun x => decide (x.1 ∈ ys)) = D at en ⊢
  have hDa : AscS D := by rw [← hD]; exact asc_filter ha _
  have hDk : ∀ k, k ∈ keys D ↔ k ∈ keys E ∧ k ∈ ys := fun k => by
    rw [← hD, keys_filter_in (P := fun x => decide (x ∈ ys))]
    simp
  have hDl : E.length = D.length + (E.filter fun x => decide (x.1 ∉ ys)).length := by
    rw [← hD]
    exact len_split _ _ E (fun x _ => by simp)
  conv => whnf
  refine ⟨fun env hk => ∃ (p : Nat) (zp zn : Int), p ≤ 16 ∧ zp = p ∧ zn = (below D p : Nat) ∧ hk = h3 ∧ env = [(15, i64 zp), (14, i64 zn), (13, .sl q D.length), (11, .sl po k), (7, .mp (some g)), (5, .ptr (some (t, 0)))],
    fun env _ => match get env 15 with
      | .int _ z => ((16 : Int) - z).toNat
      | _ => 0, ⟨_, Forget.cons rfl (Forget.cons rfl (Forget.cons rfl (Forget.cons rfl (Forget.cons rfl (Forget.cons rfl (Forget.nil _)))))), 0, _, _, Nat.zero_le _, rfl, by have := below_zero (D := D) (p := ((0 : Nat) : Int)) (fun k hk => (hr k ((hDk k).1 hk).1).1); omega, rfl, rfl⟩, ?_⟩
  rintro _ hk ⟨p, zp, zn, hp, rfl, rfl, ek, rfl⟩
  subst ek
  conv => whnf
  refine br_mk (fun hd => ?_) (fun hd => ?_)
  rotate_left
  · skip
    have hd : ¬ (p : Int) < 16 := by simpa using hd
    have hbl : (below D p : Int) = (D.length : Int) := by rw [below_all (fun k hk => by have := (hr k ((hDk k).1 hk).1).2; omega)]
    conv => whnf
    rw [hbl, beq_self_eq_true]
    conv => whnf
    refine (len34 s3).mono ?_
    rintro _ h4 ⟨eh, rfl⟩
    subst eh
    conv => whnf
    obtain ⟨bms, b1, b2⟩ := bs3
    refine ⟨_, _, b1, ?_⟩
    have el : (mpE .i64 (encM i64V bms)).length = E.length := by
      rw [mpE, List.length_map, encM_length, b2.length ((encM_asc _).2 ha), encM_length]
    rw [el]
    conv => whnf
    have ew : IntKind.i64.wrap ((E.length : Int) - (D.length : Int)) = ((E.filter fun x => decide (x.1 ∉ ys)).length : Int) := by
      rw [wrap_i64 (by omega) (by omega)]
      omega
    rw [ew, beq_self_eq_true]
    conv => whnf
    refine (awake21 _).mono ?_
    rintro _ h1 ⟨rfl, _⟩
    conv => whnf
  have h16 : p < 16 := by
    have : (p : Int) < 16 := by simpa using hd
    omega
  conv => whnf
  obtain ⟨bms, b1, b2⟩ := bs3
  have em1 : (mget (encM i64V bms) p).getD (T.at_ 3).zero = i64 ((sget (encM Prod.snd E) p).getD 0) := by
    rw [mget_enc, b2.2]
    cases sget (encM Prod.snd E) (p : Int) <;> rfl
  have em2 : (mget (encM i64V bms) p).isSome = (sget E p).isSome := by
    rw [mget_enc, b2.2, encM_get]
    cases sget E (p : Int) <;> rfl
  refine ⟨_, _, b1, ?_⟩
  rw [em1, em2]
  conv => whnf
  refine ⟨_, rfl, ?_⟩
  conv => whnf
  refine ⟨_, rfl, ?_⟩
  conv => whnf
  obtain ⟨had, eha⟩ : ∃ b, b = (sget E (p : Int)).isSome := ⟨_, rfl⟩
  rw [← eha]
  obtain ⟨cc, ecc⟩ : ∃ b, b = (sget (encM Prod.snd E) (p : Int)).getD 0 := ⟨_, rfl⟩
  have gv := getV_filter ha (ys := ys) (p := p)
  rw [← ecc] at gv ⊢
  refine ⟨fun env hm => ∃ (i : Nat) (zi : Int) (b : Bool), i ≤ k ∧ zi = i ∧ hm = hk ∧ b = decide ((p : Int) ∈ ys.take i) ∧ env = [(19, i64 zi), (18, .bool b), (17, .bool had), (16, i64 cc), (15, i64 (p : Int)), (14, i64 (below D p : Nat)), (13, .sl q D.length), (11, .sl po k), (7, .mp (some g)), (5, .ptr (some (t, 0)))],
    fun env _ => match get env 19 with
      | .int _ z => ((k : Int) - z).toNat
      | _ => 0, ⟨_, Forget.cons rfl (Forget.cons rfl (Forget.cons rfl (Forget.cons rfl (Forget.cons rfl (Forget.cons rfl (Forget.cons rfl (Forget.cons rfl (Forget.cons rfl (Forget.cons rfl (Forget.nil _)))))))))), 0, _, false, Nat.zero_le _, rfl, rfl, by rw [List.take_zero, decide_eq_false (List.not_mem_nil)], rfl⟩, ?_⟩
  rintro _ hm ⟨i, zi, b, hil, rfl, ek, eb, rfl⟩
  subst ek
  conv => whnf
  refine br_mk (fun hi => ?_) (fun hi => ?_)
  · skip
    have hi : i < k := by simpa using hi
    have hi2 : i < ys.length := by omega
    obtain ⟨i2, c2, f1, f2⟩ := slo_get ry hi
    have ek : ys.getD i 0 = ys[i] := by rw [List.getD_eq_getElem?_getD, List.getElem?_eq_getElem hi2]; rfl
    have es := among_step ys (p : Int) hi2
    conv => whnf
    cases b with
    | true =>
      conv => whnf
      rw [succ_i64 hi (by omega)]
      refine ⟨_, Forget.cons rfl (Forget.cons rfl (Forget.cons rfl (Forget.cons rfl (Forget.cons rfl (Forget.cons rfl (Forget.cons rfl (Forget.cons rfl (Forget.cons rfl (Forget.cons rfl (Forget.nil _)))))))))), ⟨i + 1, _, true, hi, rfl, rfl, by rw [es, ← eb]; rfl, rfl⟩, ?_⟩
      show ((k : Int) - ((i + 1 : Nat) : Int)).toNat < ((k : Int) - (i : Int)).toNat
      omega
    | false =>
      conv => whnf
      refine ⟨i2, c2, i, f1, rfl, hi, ?_⟩
      conv => whnf
      refine ⟨_, f2, ?_⟩
      rw [ek]
      conv => whnf
      rw [succ_i64 hi (by omega)]
      refine ⟨_, Forget.cons rfl (Forget.cons rfl (Forget.cons rfl (Forget.cons rfl (Forget.cons rfl (Forget.cons rfl (Forget.cons rfl (Forget.cons rfl (Forget.cons rfl (Forget.cons rfl (Forget.nil _)))))))))), ⟨i + 1, _, _, hi, rfl, rfl, by rw [es, ← eb]; rfl, rfl⟩, ?_⟩
      show ((k : Int) - ((i + 1 : Nat) : Int)).toNat < ((k : Int) - (i : Int)).toNat
      omega
  have hi : ¬ i < k := by simpa using hi
  obtain rfl : i = k := by omega
  rw [List.take_of_length_le (by omega)] at eb
  conv => whnf
  cases hs : sget E (p : Int) with
  | none =>
    rw [hs] at eha gv
    have eha : had = false := eha
    rw [eha]
    have hb := below_no (D := D) (p := p) (fun q => sget_none.1 hs ((hDk p).1 q).1)
    conv => whnf
    refine (get32 s3 p cc).mono ?_
    rintro _ h6 ⟨eh, rfl⟩
    subst eh
    rw [gv]
    conv => whnf
    have hpp : ((p : Int) + 1) = ((p + 1 : Nat) : Int) := by omega
    rw [succ_i64 (j := p) (n := 16) h16 (by decide)]
    refine ⟨_, Forget.cons rfl (Forget.cons rfl (Forget.cons rfl (Forget.cons rfl (Forget.cons rfl (Forget.cons rfl (Forget.nil _)))))), ⟨p + 1, _, _, h16, rfl, by rw [← hpp, hb], rfl, rfl⟩, ?_⟩
    show ((16 : Int) - ((p + 1 : Nat) : Int)).toNat < ((16 : Int) - (p : Int)).toNat
    omega
  | some x =>
    rw [hs] at eha gv
    have eha : had = true := eha
    rw [eha]
    have hmE : ((p : Int), x) ∈ E := (sget_mem ha.nodup).1 hs
    have gv : getV (E.filter fun x => decide (x.1 ∉ ys)) p cc = if (p : Int) ∈ ys then .ptr none else eV x := gv
    have hcc : cc = x.2 := by rw [ecc, encM_get, hs]; rfl
    conv => whnf
    cases b with
    | true =>
      have hy : (p : Int) ∈ ys := of_decide_eq_true eb.symm
      rw [if_pos hy] at gv
      have hmD : ((p : Int), x) ∈ D := by
        rw [← hD]
        exact List.mem_filter.2 ⟨hmE, decide_eq_true hy⟩
      obtain ⟨hl, hget, hb⟩ := below_at hDa hmD
      obtain ⟨j1, d1, f1, f2⟩ := en.cell hl
      rw [hget] at f2
      obtain ⟨ve, e5⟩ := ent3 _ hmE
      conv => whnf
      rw [show decide (((below D p : Nat) : Int) ≥ (D.length : Int)) = false from decide_eq_false (by omega)]
      conv => whnf
      refine ⟨j1, d1, below D p, f1, rfl, hl, ?_⟩
      conv => whnf
      refine ⟨_, f2, ?_⟩
      conv => whnf
      refine ⟨j1, d1, below D p, f1, rfl, hl, ?_⟩
      conv => whnf
      refine ⟨_, f2, ?_⟩
      conv => whnf
      refine ⟨_, Cell.mk e5 rfl, ?_⟩
      conv => whnf
      rw [show ((p : Int) != (p : Int)) = false by simp]
      conv => whnf
      refine ⟨j1, d1, below D p, f1, rfl, hl, ?_⟩
      conv => whnf
      refine ⟨_, f2, ?_⟩
      conv => whnf
      refine ⟨_, Cell.mk e5 rfl, ?_⟩
      conv => whnf
      rw [show (x.2 != cc) = false by rw [hcc]; simp]
      conv => whnf
      have hbs : (below D p : Int) < 16 := by
        have := s3.small
        omega
      rw [succ_i64 (j := below D p) (n := 100) (by omega) (by decide), ← hb]
      refine (get32 s3 p cc).mono ?_
      rintro _ h6 ⟨eh, rfl⟩
      subst eh
      rw [gv]
      conv => whnf
      have hpp : ((p : Int) + 1) = ((p + 1 : Nat) : Int) := by omega
      rw [succ_i64 (j := p) (n := 16) h16 (by decide)]
      refine ⟨_, Forget.cons rfl (Forget.cons rfl (Forget.cons rfl (Forget.cons rfl (Forget.cons rfl (Forget.cons rfl (Forget.nil _)))))), ⟨p + 1, _, _, h16, rfl, by rw [← hpp, hb], rfl, rfl⟩, ?_⟩
      show ((16 : Int) - ((p + 1 : Nat) : Int)).toNat < ((16 : Int) - (p : Int)).toNat
      omega
    | false =>
      have hy : (p : Int) ∉ ys := of_decide_eq_false eb.symm
      rw [if_neg hy] at gv
      have hb := below_no (D := D) (p := p) (fun q => hy ((hDk p).1 q).2)
      conv => whnf
      refine (get32 s3 p cc).mono ?_
      rintro _ h6 ⟨eh, rfl⟩
      subst eh
      rw [gv]
      conv => whnf
      have hpp : ((p : Int) + 1) = ((p + 1 : Nat) : Int) := by omega
      rw [succ_i64 (j := p) (n := 16) h16 (by decide)]
      refine ⟨_, Forget.cons rfl (Forget.cons rfl (Forget.cons rfl (Forget.cons rfl (Forget.cons rfl (Forget.cons rfl (Forget.nil _)))))), ⟨p + 1, _, _, h16, rfl, by rw [← hpp, hb], rfl, rfl⟩, ?_⟩
      show ((16 : Int) - ((p + 1 : Nat) : Int)).toNat < ((16 : Int) - (p : Int)).toNat
      omega
end Go.Proofs.Ytoljllfbabahpaa
/-! The document's server: who is there. -/
namespace Go.Proofs.Ytoljllfbabahpaa
open Go Go.Ab
/-- the document's entry: nobody writes it, nor its channel -/
def REnt (h : H) (i : Nat) (p c : Int) : Prop := ∃ (ci : Nat) (r1 r2 : List V), h.obj i = some (.row false 5 (i64 p :: .ptr (some (ci, 0)) :: r1)) ∧ h.obj ci = some (.row false 4 (i64 c :: r2))
theorem REnt.get {Z : Nat → Prop} {h h' : H} {i : Nat} {p c : Int} (s : REnt h i p c) (m : Ab.Mod Z h h') : REnt h' i p c := by
  obtain ⟨ci, r1, r2, a, b⟩ := s
  exact ⟨ci, r1, r2, m.ro_get a, m.ro_get b⟩
abbrev srvRow (a b d : V) (c : Cfg) (now : Int) (x : V) (pL : Option (Nat × Nat)) (n : Nat) (gr : List Int) : List V :=
  a :: b :: d :: i64 c.sess :: i64 c.win :: i64 c.retry :: i64 c.base :: i64 c.cap :: i64 c.idle :: i64 now :: x :: .sl pL n :: ints .i64 gr
structure RsSt (h : H) (m : Nat) (c : Cfg) (E : En) (G : List (Int × Int)) : Prop where
  box : ∃ a b d now x pL gr, h.obj m = some (.row true 28 (srvRow a b d c now x pL E.length gr)) ∧ RoSl h pL E.length 1 (E.flatMap enC) ∧ gr.length = 16 ∧ ∀ k : Nat, k < 16 → gr.getD k 0 = (sget G k).getD 0
  ent : ∀ x ∈ E, REnt h x.2.1 x.1 x.2.2
  asc : AscS E
  rng : ∀ k ∈ keys E, 0 ≤ k ∧ k < 16
section
variable {h h' : H} {m : Nat} {c : Cfg} {E : En} {G : List (Int × Int)}
theorem RsSt.get {Z : Nat → Prop} (s : RsSt h m c E G) (k : Ab.Mod Z h h') (hm : ¬ Z m) : RsSt h' m c E G := by
  obtain ⟨⟨a, b, d, now, x, pL, gr, h1, h2, h3, h4⟩, e, a1, a2⟩ := s
  exact ⟨⟨a, b, d, now, x, pL, gr, k.get h1 (.inl hm), h2.get k, h3, h4⟩, fun x hx => (e x hx).get k, a1, a2⟩
theorem RsSt.lt (s : RsSt h m c E G) : m < h.next := by
  obtain ⟨⟨a, b, d, now, x, pL, gr, h1, h2, h3, h4⟩, _⟩ := s
  exact h.lt _ _ h1
theorem RsSt.small (s : RsSt h m c E G) : E.length ≤ 16 := by
  have := asc_short (l := keys E) (a := 0) (b := 16) s.asc s.rng
  rw [keys_length] at this
  omega
end
theorem great_cell {c0 c1 c2 c3 c4 c5 c6 c7 c8 c9 c10 c11 : V} {gr : List Int} {k : Nat} (hk : k < gr.length) : (c0 :: c1 :: c2 :: c3 :: c4 :: c5 :: c6 :: c7 :: c8 :: c9 :: c10 :: c11 :: ints .i64 gr)[0 + 12 + k * 1]? = some (i64 (gr.getD k 0)) := by
  rw [show 0 + 12 + k * 1 = k + 12 by omega]
  exact ints_get hk
theorem great_put {c0 c1 c2 c3 c4 c5 c6 c7 c8 c9 c10 c11 : V} {gr : List Int} (k : Nat) (v : Int) : splice (c0 :: c1 :: c2 :: c3 :: c4 :: c5 :: c6 :: c7 :: c8 :: c9 :: c10 :: c11 :: ints .i64 gr) (0 + 12 + k * 1) [i64 v] = c0 :: c1 :: c2 :: c3 :: c4 :: c5 :: c6 :: c7 :: c8 :: c9 :: c10 :: c11 :: ints .i64 (gr.set k v) := by
  rw [show 0 + 12 + k * 1 = k + 12 by omega, splice_one, ← ints_set_]
  rfl
theorem none_at {E : En} {p : Int} (h : ∀ k (hk : k < E.length), E[k].1 ≠ p) : sget E p = none := by
  refine sget_none.2 (fun q => ?_)
  obtain ⟨x, hx, e⟩ := List.mem_map.1 q
  obtain ⟨k, hk, e2⟩ := List.getElem_of_mem hx
  exact h k hk (by rw [e2]; exact e)
theorem some_at {E : En} (ha : AscS E) {k : Nat} (hk : k < E.length) : sget E E[k].1 = some E[k].2 := (sget_mem ha.nodup).2 (List.getElem_mem hk)
theorem sls_cell {h : H} {q : Option (Nat × Nat)} {L : En} (s : RoSl h q L.length 1 (L.flatMap enC)) {j : Nat} (hj : j < L.length) : ∃ i c, q = some (i, c) ∧ Cell h i (c + j * 1) (eV L[j].2) := by
  obtain ⟨i, c, f1, f2, f3⟩ := sls_get enC_len s.is rfl hj
  exact ⟨i, c, f1, f3 0 _ rfl⟩
theorem rsMay {h : H} {m : Nat} {c : Cfg} {E : En} {G : List (Int × Int)} (s : RsSt h m c E G) (p cn : Int) : ACalls Try.prog 24 [.ptr (some (m, 0)), i64 p, i64 cn] h (fun r h' => h' = h ∧ r = i64 (mayV c.sess E G p cn)) := by
  have hsm := s.small
  refine call_ Try.func24 rfl rfl (by kernel_rfl) ?_
  conv => whnf
  refine (within68 _ p 0 15).mono ?_
  rintro _ h2 ⟨eh, rfl⟩
  subst eh
  cases e1 : inR p 0 15 with
  | false =>
    conv => whnf
    exact ⟨rfl, by rw [mayV, if_pos (.inl e1)]⟩
  | true =>
  conv => whnf
  refine (rMay _ cn).mono ?_
  rintro _ h3 ⟨eh, rfl⟩
  subst eh
  cases e2 : inR cn 1 2147483648 with
  | false =>
    conv => whnf
    exact ⟨rfl, by rw [mayV, if_pos (.inr e2)]⟩
  | true =>
  have e0 : ¬ (inR p 0 15 = false ∨ inR cn 1 2147483648 = false) := by
    rw [e1, e2]
    simp
  have hp := inR_iff.1 e1
  obtain ⟨pn, rfl⟩ : ∃ n : Nat, p = n := ⟨p.toNat, by omega⟩
  obtain ⟨a, b, d, now, x, pL, gr, hb, hr, g1, g2⟩ := s.box
  conv => whnf
  refine ⟨pn, rfl, by omega, ?_⟩
  conv => whnf
  refine ⟨_, Cell.mk hb (great_cell (by omega)), ?_⟩
  rw [g2 pn (by omega)]
  conv => whnf
  refine br_mk (fun he => ?_) (fun he => ?_)
  · conv => whnf
    have he : cn ≤ (sget G pn).getD 0 := by simpa using he
    exact ⟨rfl, by rw [mayV, if_neg e0, if_pos he]⟩
  have he : ¬ cn ≤ (sget G pn).getD 0 := by simpa using he
  conv => whnf
  refine ⟨fun env hh => ∃ (j : Nat) (z : Int), j ≤ E.length ∧ z = j ∧ hh = h3 ∧ (∀ k (hk : k < E.length), k < j → E[k].1 ≠ (pn : Int)) ∧ env = [(7, i64 z), (0, .ptr (some (m, 0))), (1, i64 (pn : Int)), (2, i64 cn)],
    fun env _ => match get env 7 with
      | .int _ z => ((E.length : Int) - z).toNat
      | _ => 0, ⟨_, Forget.cons rfl (Forget.cons rfl (Forget.cons rfl (Forget.cons rfl (Forget.nil _)))), 0, _, Nat.zero_le _, rfl, rfl, fun k _ hk => absurd hk (Nat.not_lt_zero k), rfl⟩, ?_⟩
  rintro _ hh ⟨j, z, hj, rfl, eh, hall, rfl⟩
  subst eh
  conv => whnf
  refine ⟨_, Cell.mk hb rfl, ?_⟩
  conv => whnf
  refine br_mk (fun hd => ?_) (fun hd => ?_)
  · skip
    have hd : j < E.length := by simpa using hd
    obtain ⟨i1, c1, f1, f2⟩ := sls_cell hr hd
    obtain ⟨ci, r1, r2, k1, k2⟩ := s.ent _ (List.getElem_mem hd)
    conv => whnf
    refine ⟨_, Cell.mk hb rfl, ?_⟩
    conv => whnf
    refine ⟨i1, c1, j, f1, rfl, hd, ?_⟩
    conv => whnf
    refine ⟨_, f2, ?_⟩
    conv => whnf
    refine ⟨_, Cell.mk k1 rfl, ?_⟩
    conv => whnf
    refine br_mk (fun hx => ?_) (fun hx => ?_)
    · conv => whnf
      have hx : E[j].1 = (pn : Int) := by simpa using hx
      refine ⟨rfl, ?_⟩
      rw [mayV, if_neg e0, if_neg he, if_neg]
      rintro ⟨_, q⟩
      rw [← hx, some_at s.asc hd] at q
      cases q
    · have hx : ¬ E[j].1 = (pn : Int) := by simpa using hx
      conv => whnf
      rw [succ_i64 hd (by omega)]
      refine ⟨_, Forget.cons rfl (Forget.cons rfl (Forget.cons rfl (Forget.cons rfl (Forget.nil _)))), ⟨j + 1, _, hd, rfl, rfl, fun k hk hkj => ?_, rfl⟩, ?_⟩
      · by_cases e : k = j
        · subst e; exact hx
        · exact hall k hk (by omega)
      · show ((E.length : Int) - ((j + 1 : Nat) : Int)).toNat < ((E.length : Int) - (j : Int)).toNat
        omega
  have hd : ¬ j < E.length := by simpa using hd
  have hn : sget E pn = none := none_at (fun k hk => hall k hk (by omega))
  conv => whnf
  refine ⟨[0, 1, 2, 3, 4, 5, 6, 7, 8, 9, 10], [0, 1, 3, 7, 15, 0, 32, 96, 224, 480, 1023], by kernel_rfl, ?_⟩
  conv => whnf
  refine ⟨_, Cell.mk hb rfl, ?_⟩
  conv => whnf
  refine ⟨_, Cell.mk hb rfl, ?_⟩
  conv => whnf
  refine br_mk (fun hf => ?_) (fun hf => ?_)
  · conv => whnf
    have hf : (E.length : Int) ≥ c.sess := by simpa using hf
    exact ⟨rfl, by rw [mayV, if_neg e0, if_neg he, if_pos ⟨hf, by rw [hn]; rfl⟩]⟩
  · conv => whnf
    have hf : ¬ (E.length : Int) ≥ c.sess := by simpa using hf
    exact ⟨rfl, by rw [mayV, if_neg e0, if_neg he, if_neg (fun q => hf q.1)]⟩
theorem rsIs {h : H} {m : Nat} {c : Cfg} {E : En} {G : List (Int × Int)} (s : RsSt h m c E G) (p : Int) : ACalls Try.prog 29 [.ptr (some (m, 0)), i64 p] h (fun r h' => h' = h ∧ r = .bool (sget E p).isSome) := by
  have hsm := s.small
  obtain ⟨a, b, d, now, x, pL, gr, hb, hr, g1, g2⟩ := s.box
  refine call_ Try.func29 rfl rfl (by kernel_rfl) ?_
  conv => whnf
  refine ⟨fun env hh => ∃ (j : Nat) (z : Int), j ≤ E.length ∧ z = j ∧ hh = h ∧ (∀ k (hk : k < E.length), k < j → E[k].1 ≠ p) ∧ env = [(5, i64 z), (0, .ptr (some (m, 0))), (1, i64 p)],
    fun env _ => match get env 5 with
      | .int _ z => ((E.length : Int) - z).toNat
      | _ => 0, ⟨_, Forget.cons rfl (Forget.cons rfl (Forget.cons rfl (Forget.nil _))), 0, _, Nat.zero_le _, rfl, rfl, fun k _ hk => absurd hk (Nat.not_lt_zero k), rfl⟩, ?_⟩
  rintro _ hh ⟨j, z, hj, rfl, eh, hall, rfl⟩
  subst eh
  conv => whnf
  refine ⟨_, Cell.mk hb rfl, ?_⟩
  conv => whnf
  refine br_mk (fun hd => ?_) (fun hd => ?_)
  · skip
    have hd : j < E.length := by simpa using hd
    obtain ⟨i1, c1, f1, f2⟩ := sls_cell hr hd
    obtain ⟨ci, r1, r2, k1, k2⟩ := s.ent _ (List.getElem_mem hd)
    conv => whnf
    refine ⟨_, Cell.mk hb rfl, ?_⟩
    conv => whnf
    refine ⟨i1, c1, j, f1, rfl, hd, ?_⟩
    conv => whnf
    refine ⟨_, f2, ?_⟩
    conv => whnf
    refine ⟨_, Cell.mk k1 rfl, ?_⟩
    conv => whnf
    refine br_mk (fun hx => ?_) (fun hx => ?_)
    · conv => whnf
      have hx : E[j].1 = p := by simpa using hx
      exact ⟨rfl, by rw [← hx, some_at s.asc hd]; rfl⟩
    · have hx : ¬ E[j].1 = p := by simpa using hx
      conv => whnf
      rw [succ_i64 hd (by omega)]
      refine ⟨_, Forget.cons rfl (Forget.cons rfl (Forget.cons rfl (Forget.nil _))), ⟨j + 1, _, hd, rfl, rfl, fun k hk hkj => ?_, rfl⟩, ?_⟩
      · by_cases e : k = j
        · subst e; exact hx
        · exact hall k hk (by omega)
      · show ((E.length : Int) - ((j + 1 : Nat) : Int)).toNat < ((E.length : Int) - (j : Int)).toNat
        omega
  have hd : ¬ j < E.length := by simpa using hd
  have hn : sget E p = none := none_at (fun k hk => hall k hk (by omega))
  conv => whnf
  exact ⟨rfl, by rw [hn]; rfl⟩
theorem rsGet {h : H} {m : Nat} {c : Cfg} {E : En} {G : List (Int × Int)} (s : RsSt h m c E G) (p cn : Int) : ACalls Try.prog 33 [.ptr (some (m, 0)), i64 p, i64 cn] h (fun r h' => h' = h ∧ r = getV E p cn) := by
  have hsm := s.small
  obtain ⟨a, b, d, now, x, pL, gr, hb, hr, g1, g2⟩ := s.box
  refine call_ Try.func33 rfl rfl (by kernel_rfl) ?_
  conv => whnf
  refine ⟨fun env hh => ∃ (j : Nat) (z : Int), j ≤ E.length ∧ z = j ∧ hh = h ∧ (∀ k (hk : k < E.length), k < j → ¬ (E[k].1 = p ∧ E[k].2.2 = cn)) ∧ env = [(7, i64 z), (0, .ptr (some (m, 0))), (1, i64 p), (2, i64 cn)],
    fun env _ => match get env 7 with
      | .int _ z => ((E.length : Int) - z).toNat
      | _ => 0, ⟨_, Forget.cons rfl (Forget.cons rfl (Forget.cons rfl (Forget.cons rfl (Forget.nil _)))), 0, _, Nat.zero_le _, rfl, rfl, fun k _ hk => absurd hk (Nat.not_lt_zero k), rfl⟩, ?_⟩
  rintro _ hh ⟨j, z, hj, rfl, eh, hall, rfl⟩
  subst eh
  conv => whnf
  refine ⟨_, Cell.mk hb rfl, ?_⟩
  conv => whnf
  refine br_mk (fun hd => ?_) (fun hd => ?_)
  · skip
    have hd : j < E.length := by simpa using hd
    obtain ⟨i1, c1, f1, f2⟩ := sls_cell hr hd
    obtain ⟨ci, r1, r2, k1, k2⟩ := s.ent _ (List.getElem_mem hd)
    conv => whnf
    refine ⟨_, Cell.mk hb rfl, ?_⟩
    conv => whnf
    refine ⟨i1, c1, j, f1, rfl, hd, ?_⟩
    conv => whnf
    refine ⟨_, f2, ?_⟩
    conv => whnf
    refine ⟨_, Cell.mk k1 rfl, ?_⟩
    conv => whnf
    have next : ¬ (E[j].1 = p ∧ E[j].2.2 = cn) → ∀ k (hk : k < E.length), k < j + 1 → ¬ (E[k].1 = p ∧ E[k].2.2 = cn) := fun hx k hk hkj => by
      by_cases e : k = j
      · subst e; exact hx
      · exact hall k hk (by omega)
    refine br_mk (fun hx => ?_) (fun hx => ?_)
    · have hx : E[j].1 = p := by simpa using hx
      conv => whnf
      refine ⟨_, Cell.mk hb rfl, ?_⟩
      conv => whnf
      refine ⟨i1, c1, j, f1, rfl, hd, ?_⟩
      conv => whnf
      refine ⟨_, f2, ?_⟩
      conv => whnf
      refine ⟨_, Cell.mk k1 rfl, ?_⟩
      conv => whnf
      refine ⟨_, Cell.mk k2 rfl, ?_⟩
      conv => whnf
      refine br_mk (fun hy => ?_) (fun hy => ?_)
      · have hy : E[j].2.2 = cn := by simpa using hy
        conv => whnf
        refine ⟨_, Cell.mk hb rfl, ?_⟩
        conv => whnf
        refine ⟨i1, c1, j, f1, rfl, hd, ?_⟩
        conv => whnf
        refine ⟨_, f2, ?_⟩
        conv => whnf
        refine ⟨rfl, ?_⟩
        rw [getV, ← hx, some_at s.asc hd]
        show _ = (if E[j].2.2 = cn then eV E[j].2 else V.ptr none)
        rw [if_pos hy]
        rfl
      · have hy : ¬ E[j].2.2 = cn := by simpa using hy
        conv => whnf
        rw [succ_i64 hd (by omega)]
        refine ⟨_, Forget.cons rfl (Forget.cons rfl (Forget.cons rfl (Forget.cons rfl (Forget.nil _)))), ⟨j + 1, _, hd, rfl, rfl, next (fun q => hy q.2), rfl⟩, ?_⟩
        show ((E.length : Int) - ((j + 1 : Nat) : Int)).toNat < ((E.length : Int) - (j : Int)).toNat
        omega
    · have hx : ¬ E[j].1 = p := by simpa using hx
      conv => whnf
      rw [succ_i64 hd (by omega)]
      refine ⟨_, Forget.cons rfl (Forget.cons rfl (Forget.cons rfl (Forget.cons rfl (Forget.nil _)))), ⟨j + 1, _, hd, rfl, rfl, next (fun q => hx q.1), rfl⟩, ?_⟩
      show ((E.length : Int) - ((j + 1 : Nat) : Int)).toNat < ((E.length : Int) - (j : Int)).toNat
      omega
  have hd : ¬ j < E.length := by simpa using hd
  conv => whnf
  refine ⟨rfl, ?_⟩
  rw [getV]
  cases hs : sget E p with
  | none => rfl
  | some v =>
    obtain ⟨k, hk, e⟩ := List.getElem_of_mem ((sget_mem s.asc.nodup).1 hs)
    have := hall k hk (by omega)
    rw [e] at this
    show _ = (if v.2 = cn then eV v else V.ptr none)
    rw [if_neg (fun q => this ⟨rfl, q⟩)]
end Go.Proofs.Ytoljllfbabahpaa
/-! The document's server: who goes, who comes. -/
namespace Go.Proofs.Ytoljllfbabahpaa
open Go Go.Ab
theorem delS_sn {β : Type} (S : List (Int × β)) (x : Int × β) (id : Int) : delS (S ++ [x]) id = delS S id ++ (if x.1 != id then [x] else []) := filter_snoc _ _ _
theorem delS_ln {β : Type} (S : List (Int × β)) (id : Int) : (delS S id).length ≤ S.length := List.length_filter_le _ _
theorem new1 {S : Nat → Prop} {h0 hh : H} {sz : Nat} (c : List V) (hc : c.length = sz) (mo : Ab.Mod S h0 hh) : NewSl h0 (hh.push (.row true sz c)) (some (hh.next, 0)) 1 sz c ∧ Ab.Mod S h0 (hh.push (.row true sz c)) :=
  ⟨⟨SlIs.row (n := 1) (H.obj_push_new _ _) (by rw [hc, Nat.one_mul]), fun i o e => by
    injection e with e
    injection e with e _
    rw [← e]
    exact mo.next⟩, mo.trans' (Mod.push none_ hh _) (fun _ _ k => k) (fun _ _ k => k.elim)⟩
theorem new1d {S : Nat → Prop} {h0 hh : H} {sz : Nat} (c : List V) (hc : c.length = sz) {b : Option (Nat × Nat)} {k szb : Nat} {ys : List V} (nb : NewSl h0 hh b k szb ys) (mo : Ab.Mod S h0 hh) :
    NewSl h0 (hh.push (.row true sz c)) (some (hh.next, 0)) 1 sz c ∧ NewSl h0 (hh.push (.row true sz c)) b k szb ys ∧ (∀ i, inSl (some (hh.next, 0)) i → inSl b i → False) ∧ Ab.Mod S h0 (hh.push (.row true sz c)) := by
  obtain ⟨x, y⟩ := new1 c hc mo
  refine ⟨x, NewSl.kept nb (Mod.push none_ hh _), fun i a b => ?_, y⟩
  obtain ⟨o, a⟩ := a
  have := SlIs.own_lt nb.1 b
  injection a with a
  injection a with a _
  omega
/-- a server whose row of entries is new: it is frozen -/
theorem rs_ro {h h' : H} {m : Nat} {c : Cfg} {E : En} {G : List (Int × Int)} (hm : m < h.next) {a b d : V} {now : Int} {x : V} {po : Option (Nat × Nat)} {gr : List Int} (hb : h'.obj m = some (.row true 28 (srvRow a b d c now x po E.length gr))) (hg : gr.length = 16 ∧ ∀ k : Nat, k < 16 → gr.getD k 0 = (sget G k).getD 0) (n : NewSl h h' po E.length 1 (E.flatMap enC)) (mo : Ab.Mod (one m) h h') (he : ∀ x ∈ E, REnt h x.2.1 x.1 x.2.2) (ha : AscS E) (hr : ∀ k ∈ keys E, 0 ≤ k ∧ k < 16) :
    ∃ i, RsSt (h'.ro i) m c E G ∧ Ab.Mod (one m) h (h'.ro i) := by
  obtain ⟨i, h1, h2, h3⟩ := n.freeze mo
  exact ⟨i, ⟨⟨a, b, d, now, x, po, gr, by rw [H.ro_ne _ (by omega), hb], h2, hg.1, hg.2⟩, fun x hx => (he x hx).get h3, ha, hr⟩, h3⟩
def LiveQ (h : H) (E : En) (r : V) (h' : H) : Prop := ∃ q, r = .sl q E.length ∧ RoSl h' q E.length 1 (ints .i64 (keys E)) ∧ Ab.Mod none_ h h'
theorem rsLive {h : H} {m : Nat} {c : Cfg} {E : En} {G : List (Int × Int)} (s : RsSt h m c E G) : ACalls Try.prog 38 [.ptr (some (m, 0))] h (LiveQ h E) := by
  have hsm := s.small
  obtain ⟨a, b, d, now, x, pL, gr, hb, hr, g1, g2⟩ := s.box
  refine ACalls.ro (Q := fun r h' => ∃ q, r = .sl q E.length ∧ NewSl h h' q E.length 1 (ints .i64 (keys E)) ∧ Ab.Mod none_ h h') ?_ (by
    rintro r h' ⟨q, rfl, nq, m⟩
    obtain ⟨i, a1, a2, a3⟩ := nq.freeze m
    exact ⟨i, q, rfl, a2, a3⟩)
  refine call_ Try.func38 rfl rfl (by kernel_rfl) ?_
  conv => whnf
  refine ⟨fun env hh => ∃ (j : Nat) (z : Int) (po : Option (Nat × Nat)), j ≤ E.length ∧ z = j ∧ NewSl h hh po j 1 (ints .i64 (keys (E.take j))) ∧ Ab.Mod none_ h hh ∧ env = [(4, i64 z), (3, .sl po j), (0, .ptr (some (m, 0)))],
    fun env _ => match get env 4 with
      | .int _ z => ((E.length : Int) - z).toNat
      | _ => 0, ⟨_, Forget.cons rfl (Forget.cons rfl (Forget.cons rfl (Forget.nil _))), 0, _, none, Nat.zero_le _, rfl, NewSl.nil _ _ _, mod_refl _ _, rfl⟩, ?_⟩
  rintro _ hh ⟨j, z, po, hj, rfl, no, mo, rfl⟩
  have bx := mo.get hb (.inl (fun k => k))
  conv => whnf
  refine ⟨_, Cell.mk bx rfl, ?_⟩
  conv => whnf
  refine br_mk (fun hd => ?_) (fun hd => ?_)
  rotate_left
  · conv => whnf
    have hd : ¬ j < E.length := by simpa using hd
    obtain rfl : j = E.length := by omega
    rw [List.take_length] at no
    exact ⟨po, rfl, no, mo⟩
  conv => whnf
  have hd : j < E.length := by simpa using hd
  obtain ⟨i1, c1, f1, f2⟩ := sls_cell (hr.get mo) hd
  obtain ⟨ci, r1, r2, k1, k2⟩ := (s.ent _ (List.getElem_mem hd)).get mo
  refine ⟨_, Cell.mk bx rfl, ?_⟩
  conv => whnf
  refine ⟨i1, c1, j, f1, rfl, hd, ?_⟩
  conv => whnf
  refine ⟨_, f2, ?_⟩
  conv => whnf
  refine ⟨_, Cell.mk k1 rfl, ?_⟩
  conv => whnf
  obtain ⟨y1, y2, y3⟩ := app1 no mo [i64 E[j].1] rfl
  refine ⟨_, _, y1, y2, by rw [show (T.at_ 3).bytes = 8 from rfl]; omega, by omega, fun p' h' hs hm hf => ?_⟩
  obtain ⟨ng8, mo8, _⟩ := y3 p' h' hs hm hf
  have e6 : ints .i64 (keys (E.take j)) ++ [i64 E[j].1] = ints .i64 (keys (E.take (j + 1))) := by
    rw [List.take_succ_eq_append_getElem hd, keys_append, ints_append]
    rfl
  rw [e6] at ng8
  conv => whnf
  rw [succ_i64 hd (by omega)]
  refine ⟨_, Forget.cons rfl (Forget.cons rfl (Forget.cons rfl (Forget.nil _))), ⟨j + 1, _, p', hd, rfl, ng8, mo8, rfl⟩, ?_⟩
  show ((E.length : Int) - ((j + 1 : Nat) : Int)).toNat < ((E.length : Int) - (j : Int)).toNat
  omega
theorem rsDrop {h : H} {m : Nat} {c : Cfg} {E : En} {G : List (Int × Int)} (s : RsSt h m c E G) (p : Int) : ACalls Try.prog 79 [.ptr (some (m, 0)), i64 p] h (fun r h' => RsSt h' m c (delS E p) G ∧ Ab.Mod (one m) h h') := by
  have hsm := s.small
  have hg := s.lt
  obtain ⟨a, b, d, now, x, pL, gr, hb, hr, g1, g2⟩ := s.box
  refine ACalls.ro (Q := fun r h' => ∃ po, h'.obj m = some (.row true 28 (srvRow a b d c now x po (delS E p).length gr)) ∧ NewSl h h' po (delS E p).length 1 ((delS E p).flatMap enC) ∧ Ab.Mod (one m) h h') ?_ (by
    rintro r h' ⟨po, k1, k2, k3⟩
    exact rs_ro hg k1 ⟨g1, g2⟩ k2 k3 (fun x hx => s.ent x (List.mem_filter.1 hx).1) (delS_asc s.asc p) (fun k hk => s.rng k (by
      obtain ⟨x, hx, e⟩ := List.mem_map.1 hk
      exact List.mem_map.2 ⟨x, (List.mem_filter.1 hx).1, e⟩)))
  refine call_ Try.func79 rfl rfl (by kernel_rfl) ?_
  conv => whnf
  refine ⟨fun env hh => ∃ (j : Nat) (z : Int) (po : Option (Nat × Nat)), j ≤ E.length ∧ z = j ∧ NewSl h hh po (delS (E.take j) p).length 1 ((delS (E.take j) p).flatMap enC) ∧ Ab.Mod none_ h hh ∧ env = [(5, i64 z), (4, .sl po (delS (E.take j) p).length), (0, .ptr (some (m, 0))), (1, i64 p)],
    fun env _ => match get env 5 with
      | .int _ z => (E.length - z).toNat
      | _ => 0, ⟨_, Forget.cons rfl (Forget.cons rfl (Forget.cons rfl (Forget.cons rfl (Forget.nil _)))), 0, _, none, Nat.zero_le _, rfl, NewSl.nil _ _ _, ⟨Nat.le_refl _, fun _ _ _ => rfl⟩, rfl⟩, ?_⟩
  rintro _ hh ⟨j, z, po, hj, rfl, no, mo, rfl⟩
  conv => whnf
  have bx := mo.get hb (.inl (fun k => k))
  refine ⟨_, Cell.mk bx rfl, ?_⟩
  conv => whnf
  refine br_mk (fun hd => ?_) (fun hd => ?_)
  · conv => whnf
    have hd : j < E.length := by simpa using hd
    have htk : E.take (j + 1) = E.take j ++ [E[j]] := List.take_succ_eq_append_getElem hd
    have hjl : (delS (E.take j) p).length ≤ E.length := by
      have := delS_ln (E.take j) p
      rw [List.length_take] at this
      omega
    obtain ⟨i1, c1, f1, f2⟩ := sls_cell (hr.get mo) hd
    obtain ⟨ci, r1, r2, k1, k2⟩ := (s.ent _ (List.getElem_mem hd)).get mo
    refine ⟨_, Cell.mk bx rfl, ?_⟩
    conv => whnf
    refine ⟨i1, c1, j, f1, rfl, hd, ?_⟩
    conv => whnf
    refine ⟨_, f2, ?_⟩
    conv => whnf
    refine ⟨_, Cell.mk k1 rfl, ?_⟩
    conv => whnf
    refine br_mk (fun hx => ?_) (fun hx => ?_)
    · have e0 : delS (E.take (j + 1)) p = delS (E.take j) p ++ [E[j]] := by rw [htk, delS_sn, if_pos hx]
      conv => whnf
      refine ⟨_, Cell.mk bx rfl, ?_⟩
      conv => whnf
      refine ⟨i1, c1, j, f1, rfl, hd, ?_⟩
      conv => whnf
      refine ⟨_, f2, ?_⟩
      conv => whnf
      obtain ⟨y1, y2, y3⟩ := app1 no mo [eV E[j].2] rfl
      refine ⟨_, _, y1, y2, by rw [show (T.at_ 69).bytes = 8 from rfl]; omega, by omega, fun po2 hY hs hm hf => ?_⟩
      obtain ⟨no2, mo2, my⟩ := y3 po2 hY hs hm hf
      have e6 : (delS (E.take j) p).flatMap enC ++ [eV E[j].2] = (delS (E.take (j + 1)) p).flatMap enC := by rw [e0, List.flatMap_append]; simp [enC]
      have e7 : (delS (E.take j) p).length + 1 = (delS (E.take (j + 1)) p).length := by rw [e0]; simp
      rw [e6, e7] at no2
      conv => whnf
      rw [e7]
      exact ⟨_, Forget.cons rfl (Forget.cons rfl (Forget.cons rfl (Forget.cons rfl (Forget.nil _)))), ⟨j + 1, _, po2, hd, succ_i64 hd (by omega), no2, mo2, rfl⟩, mu_lt hd (by omega)⟩
    · have e0 : delS (E.take (j + 1)) p = delS (E.take j) p := by rw [htk, delS_sn, if_neg (by rw [hx]; simp), List.append_nil]
      conv => whnf
      rw [← e0] at no ⊢
      exact ⟨_, Forget.cons rfl (Forget.cons rfl (Forget.cons rfl (Forget.cons rfl (Forget.nil _)))), ⟨j + 1, _, po, hd, succ_i64 hd (by omega), no, mo, rfl⟩, mu_lt hd (by omega)⟩
  · conv => whnf
    have hd : ¬ j < E.length := by simpa using hd
    obtain rfl : j = E.length := by omega
    rw [List.take_length] at no ⊢
    refine ⟨_, _, bx, by show 12 ≤ (ints _ _).length + 12; omega, ?_⟩
    conv => whnf
    have mS : Ab.Mod (one m) hh (hh.set m (.row true 28 (srvRow a b d c now x po (delS E p).length gr))) := Mod.set rfl bx rfl
    exact ⟨po, H.obj_set_same bx, NewSl.keep no mS (fun i hi => by
      have : i = m := hi
      omega), mo.trans' mS (fun _ _ k => k.elim) (fun _ _ k => k)⟩
theorem rsOut {h : H} {m : Nat} {c : Cfg} {E : En} {G : List (Int × Int)} (s : RsSt h m c E G) (p : Int) : ACalls Try.prog 31 [.ptr (some (m, 0)), i64 p] h (fun r h' => RsSt h' m c (delS E p) G ∧ Ab.Mod (one m) h h') := by
  refine call_ Try.func31 rfl rfl (by kernel_rfl) ?_
  conv => whnf
  refine (rsDrop s p).mono ?_
  rintro _ h1 q
  conv => whnf
  exact q
end Go.Proofs.Ytoljllfbabahpaa
/-! The document's server: one is put there; a new one. -/
namespace Go.Proofs.Ytoljllfbabahpaa
open Go Go.Ab
set_option maxHeartbeats 2000000 in
theorem rsAdd {h : H} {m : Nat} {c : Cfg} {E : En} {G G' : List (Int × Int)} (s : RsSt h m c E G) {i pn : Nat} {cn : Int} (hp : pn < 16) (re : REnt h i pn cn) (hG : ∀ k, sget G' k = if k = (pn : Int) then some cn else sget G k) : ACalls Try.prog 77 [.ptr (some (m, 0)), .ptr (some (i, 0))] h (fun r h' => RsSt h' m c (insS E pn (i, cn)) G' ∧ Ab.Mod (one m) h h') := by
  have hsm := s.small
  have hg := s.lt
  refine ACalls.ro (Q := fun r h' => ∃ a b d now x po gr, h'.obj m = some (.row true 28 (srvRow a b d c now x po (insS E pn (i, cn)).length gr)) ∧ (gr.length = 16 ∧ ∀ k : Nat, k < 16 → gr.getD k 0 = (sget G' k).getD 0) ∧ NewSl h h' po (insS E pn (i, cn)).length 1 ((insS E pn (i, cn)).flatMap enC) ∧ Ab.Mod (one m) h h') ?_ (by
    rintro r h' ⟨a, b, d, now, x, po, gr, k1, k2, k3, k4⟩
    exact rs_ro hg k1 k2 k3 k4 (fun x hx => by
      rcases insS_e s.asc hx with rfl | hx
      · exact re
      · exact s.ent x hx) (insS_asc s.asc pn (i, cn)) (insS_keys s.rng (by omega) _))
  refine call_ Try.func77 rfl rfl (by kernel_rfl) ?_
  conv => whnf
  obtain ⟨ci, r1, r2, k1, k2⟩ := id re
  refine ⟨_, Cell.mk k1 rfl, ?_⟩
  conv => whnf
  refine (rsDrop s pn).mono ?_
  rintro _ h1 ⟨s1, m1⟩
  conv => whnf
  obtain ⟨a, b, d, now, x, pL, gr, hb, hr, g1, g2⟩ := s1.box
  have hDl := delS_ln E pn
  have hDa := s1.asc
  have hne : ∀ x ∈ delS E pn, x.1 ≠ (pn : Int) := fun x hx => by
    have := (List.mem_filter.1 hx).2
    simpa using this
  have hins : insS (delS E pn) pn (i, cn) = insS E pn (i, cn) := by
    refine asc_get_ext (insS_asc hDa _ _) (insS_asc s.asc _ _) (fun k => ?_)
    rw [insS_get hDa, insS_get s.asc]
    by_cases e : k = (pn : Int)
    · rw [if_pos e, if_pos e]
    · rw [if_neg e, if_neg e, delS_get s.asc, if_neg e]
  have key := fun n => @ins_atE _ _ hDa _ hne (i, cn) n
  rw [hins] at key
  have ent1 := s1.ent
  generalize delS E pn = D at hb hr hDl key ent1
  have re1 := re.get m1
  obtain ⟨ci, r1, r2, k1, k2⟩ := re1
  refine ⟨fun env hh => ∃ (j : Nat) (z : Int), j ≤ D.length ∧ z = j ∧ hh = h1 ∧ (∀ k (hk : k < D.length), k < j → D[k].1 < pn) ∧ env = [(4, i64 z), (0, .ptr (some (m, 0))), (1, .ptr (some (i, 0)))],
    fun env _ => match get env 4 with
      | .int _ z => (D.length - z).toNat
      | _ => 0, ⟨_, Forget.cons rfl (Forget.cons rfl (Forget.cons rfl (Forget.nil _))), 0, _, Nat.zero_le _, rfl, rfl, fun k _ hk => absurd hk (Nat.not_lt_zero k), rfl⟩, ?_⟩
  rintro _ hh ⟨j, z, hj, rfl, eh, hall, rfl⟩
  subst eh
  conv => whnf
  refine ⟨[0, 1, 2, 3, 4, 5, 6, 7, 8, 9, 10, 11, 12, 13, 14, 15, 16, 17, 18, 19, 20, 21, 22, 23], [0, 0, 2, 6, 14, 30, 63, 127, 255, 511, 1023, 2047, 255, 8191, 16383, 32767, 65535, 131071, 255, 262399, 786687, 1835263, 4194303, 8388607], by kernel_rfl, ?_⟩
  conv => whnf
  refine ⟨_, Cell.mk hb rfl, ?_⟩
  conv => whnf
  have fin : (j = D.length ∨ ∃ hk : j < D.length, ¬ D[j].1 < pn) → D.take j ++ ((pn : Int), (i, cn)) :: D.drop j = insS E pn (i, cn) := fun h2 => key j hj hall h2
  by_cases hd : j < D.length
  rotate_left
  · have efin := fin (.inl (by omega))
    rw [decide_eq_false (show ¬ (j : Int) < (D.length : Int) by omega)]
    conv => whnf
    have rt := ro_take enC_len hr hj
    have rd := ro_drop enC_len hr hj
    refine ⟨[], [1, 10], rfl, ?_, ?_⟩
    · conv => whnf
      refine ⟨[], [8, 10], rfl, ?_, ?_⟩
      · conv => whnf
        refine ⟨[0, 2, 3, 4, 5, 6, 7, 9, 12, 13, 14, 15, 16, 17, 1, 8, 10, 11, 18, 19, 20, 21], [0, 0, 0, 4, 12, 28, 0, 124, 254, 0, 1022, 2046, 0, 4096, 12288, 28672, 0, 126976, 262142, 524287, 1048575, 2097151], by kernel_rfl, ?_⟩
        conv => whnf
        have mo := mod_refl none_ hh
        refine ⟨_, Cell.mk hb rfl, ?_⟩
        conv => whnf
        refine ⟨⟨_, hr.is⟩, j, rfl, Nat.zero_le _, hj, ?_⟩
        conv => whnf
        refine ⟨_, Cell.mk hb rfl, ?_⟩
        conv => whnf
        refine ⟨⟨_, hr.is⟩, j, rfl, hj, Nat.le_refl _, ?_⟩
        conv => whnf
        obtain ⟨nA, mo⟩ := new0 1 mo
        refine ⟨_, _, nA.1, (rt.get mo).is, by rw [show (T.at_ 69).bytes = 8 from rfl]; omega, by omega, fun pA hA hs hm hf => ?_⟩
        obtain ⟨nA, mo⟩ := appN nA mo pA hA hs hm hf
        conv => whnf
        refine ⟨⟨⟨_, (hr.get mo).is⟩, j, rfl, hj, Nat.le_refl _, rfl⟩, ?_⟩
        conv => whnf
        refine ⟨⟨_, Cell.mk (mo.get hb (.inl (fun k => k))) rfl, rfl⟩, ?_⟩
        conv => whnf
        obtain ⟨nB, nA, dis, mo⟩ := new1d [eV (i, cn)] rfl nA mo
        have dis := dis_comm dis
        refine ⟨_, _, nA.1, nB.1.weak, by rw [show (T.at_ 69).bytes = 8 from rfl]; omega, by omega, fun pB hB hs hm hf => ?_⟩
        obtain ⟨nA, mo⟩ := appN nA mo pB hB hs hm hf
        conv => whnf
        refine ⟨⟨⟨_, (hr.get mo).is⟩, j, rfl, hj, Nat.le_refl _, rfl⟩, ?_⟩
        conv => whnf
        refine ⟨⟨_, Cell.mk (mo.get hb (.inl (fun k => k))) rfl, rfl⟩, ?_⟩
        conv => whnf
        refine ⟨_, _, nA.1, (rd.get mo).is, by rw [show (T.at_ 69).bytes = 8 from rfl]; omega, by omega, fun pC hC hs hm hf => ?_⟩
        obtain ⟨nA, mo⟩ := appN nA mo pC hC hs hm hf
        conv => whnf
        refine ⟨_, _, mo.get hb (.inl (fun k => k)), by show 12 ≤ (ints _ _).length + 12; omega, ?_⟩
        conv => whnf
        have bC := mo.get hb (.inl (fun k => k))
        have el : 0 + (j - 0) + 1 + (D.length - j) = (insS E pn (i, cn)).length := by
          rw [← efin, List.length_append, List.length_cons, List.length_take, List.length_drop]
          omega
        have ef : [] ++ (D.take j).flatMap enC ++ [eV (i, cn)] ++ (D.drop j).flatMap enC = (insS E pn (i, cn)).flatMap enC := by
          rw [← efin, List.flatMap_append, List.flatMap_cons, List.nil_append, List.append_assoc]
          rfl
        rw [el, ef] at nA
        have mS : Ab.Mod (one m) hC (hC.set m (.row true 28 (srvRow a b d c now x pC (0 + (j - 0) + 1 + (D.length - j)) gr))) := Mod.set rfl bC rfl
        have b2 : (hC.set m (.row true 28 (srvRow a b d c now x pC (0 + (j - 0) + 1 + (D.length - j)) gr))).obj m = some (.row true 28 (srvRow a b d c now x pC (0 + (j - 0) + 1 + (D.length - j)) gr)) := H.obj_set_same bC
        have mge : ∀ i', one m i' → i' < hh.next := fun i' hi => by
          have : i' = m := hi
          have := m1.next
          omega
        have nF := NewSl.keep nA mS mge
        obtain ⟨cj, u1, u2, k1, k2⟩ := ((re.get m1).get mo).get mS
        refine ⟨[0, 1, 2, 3, 4, 5, 6, 7, 8, 9, 10, 11, 12, 13, 14, 15], [0, 0, 2, 6, 14, 0, 32, 96, 224, 480, 992, 2016, 1, 4097, 16383, 32767], by kernel_rfl, ?_⟩
        conv => whnf
        refine ⟨_, Cell.mk k1 rfl, ?_⟩
        conv => whnf
        refine ⟨_, Cell.mk k1 rfl, ?_⟩
        conv => whnf
        refine ⟨_, Cell.mk k2 rfl, ?_⟩
        conv => whnf
        refine ⟨pn, rfl, by omega, ?_⟩
        conv => whnf
        refine ⟨_, _, b2, by show 0 + 12 + pn * 1 + 1 ≤ (ints _ _).length + 12; rw [ints_length, g1]; omega, ?_⟩
        conv => whnf
        have b3 : ((hC.set m (.row true 28 (srvRow a b d c now x pC (0 + (j - 0) + 1 + (D.length - j)) gr))).set m (.row true 28 (splice (srvRow a b d c now x pC (0 + (j - 0) + 1 + (D.length - j)) gr) (0 + 12 + pn * 1) [i64 cn]))).obj m = some (.row true 28 (srvRow a b d c now x pC (insS E pn (i, cn)).length (gr.set pn cn))) := by
          rw [H.obj_set_same b2, ← el]
          exact congrArg (fun l => some (Obj.row true 28 l)) (great_put pn cn)
        have mT : Ab.Mod (one m) (hC.set m (.row true 28 (srvRow a b d c now x pC (0 + (j - 0) + 1 + (D.length - j)) gr))) ((hC.set m (.row true 28 (srvRow a b d c now x pC (0 + (j - 0) + 1 + (D.length - j)) gr))).set m (.row true 28 (splice (srvRow a b d c now x pC (0 + (j - 0) + 1 + (D.length - j)) gr) (0 + 12 + pn * 1) [i64 cn]))) := Mod.set rfl b2 rfl
        have nG := NewSl.keep nF mT mge
        refine ⟨a, b, d, now, x, pC, gr.set pn cn, b3, ⟨by rw [List.length_set, g1], fun k hk => ?_⟩, ⟨nG.1, fun i o e => Nat.le_trans m1.next (nG.2 i o e)⟩, m1.trans' ((mo.trans' mS (S2 := one m) (fun _ _ k => k.elim) (fun _ _ k => k)).trans' mT (S2 := one m) (fun _ _ k => k) (fun _ _ k => k)) (fun _ _ k => k) (fun _ _ k => k)⟩
        rw [getD_set_ _ _ _ _ (by omega), hG, g2 k hk]
        by_cases e : pn = k
        · rw [if_pos e, if_pos (by omega)]
          rfl
        · rw [if_neg e, if_neg (by omega)]
      · conv => whnf
        refine ⟨[0, 2, 3, 4, 5, 6, 7, 9, 12, 13, 14, 15, 16, 17, 1, 10, 8, 11, 18, 19, 20, 21], [0, 0, 0, 4, 12, 28, 0, 124, 1790, 0, 514, 2046, 0, 4096, 12288, 28672, 0, 126976, 262142, 524287, 1048575, 2097151], by kernel_rfl, ?_⟩
        conv => whnf
        have mo := mod_refl none_ hh
        refine ⟨_, Cell.mk hb rfl, ?_⟩
        conv => whnf
        refine ⟨⟨_, hr.is⟩, j, rfl, Nat.zero_le _, hj, ?_⟩
        conv => whnf
        refine ⟨_, Cell.mk hb rfl, ?_⟩
        conv => whnf
        refine ⟨⟨_, hr.is⟩, j, rfl, hj, Nat.le_refl _, ?_⟩
        conv => whnf
        obtain ⟨nA, mo⟩ := new0 1 mo
        obtain ⟨nB, nA, dis, mo⟩ := new1d [eV (i, cn)] rfl nA mo
        have dis := dis_comm dis
        refine ⟨_, _, nA.1, (rt.get mo).is, by rw [show (T.at_ 69).bytes = 8 from rfl]; omega, by omega, fun pA hA hs hm hf => ?_⟩
        obtain ⟨nA, nB, dis, mo⟩ := appD nA nB dis mo hs hm hf
        conv => whnf
        refine ⟨⟨⟨_, (hr.get mo).is⟩, j, rfl, hj, Nat.le_refl _, rfl⟩, ?_⟩
        conv => whnf
        refine ⟨⟨_, Cell.mk (mo.get hb (.inl (fun k => k))) rfl, rfl⟩, ?_⟩
        conv => whnf
        refine ⟨_, _, nA.1, nB.1.weak, by rw [show (T.at_ 69).bytes = 8 from rfl]; omega, by omega, fun pB hB hs hm hf => ?_⟩
        obtain ⟨nA, mo⟩ := appN nA mo pB hB hs hm hf
        conv => whnf
        refine ⟨⟨⟨_, (hr.get mo).is⟩, j, rfl, hj, Nat.le_refl _, rfl⟩, ?_⟩
        conv => whnf
        refine ⟨⟨_, Cell.mk (mo.get hb (.inl (fun k => k))) rfl, rfl⟩, ?_⟩
        conv => whnf
        refine ⟨_, _, nA.1, (rd.get mo).is, by rw [show (T.at_ 69).bytes = 8 from rfl]; omega, by omega, fun pC hC hs hm hf => ?_⟩
        obtain ⟨nA, mo⟩ := appN nA mo pC hC hs hm hf
        conv => whnf
        refine ⟨_, _, mo.get hb (.inl (fun k => k)), by show 12 ≤ (ints _ _).length + 12; omega, ?_⟩
        conv => whnf
        have bC := mo.get hb (.inl (fun k => k))
        have el : 0 + (j - 0) + 1 + (D.length - j) = (insS E pn (i, cn)).length := by
          rw [← efin, List.length_append, List.length_cons, List.length_take, List.length_drop]
          omega
        have ef : [] ++ (D.take j).flatMap enC ++ [eV (i, cn)] ++ (D.drop j).flatMap enC = (insS E pn (i, cn)).flatMap enC := by
          rw [← efin, List.flatMap_append, List.flatMap_cons, List.nil_append, List.append_assoc]
          rfl
        rw [el, ef] at nA
        have mS : Ab.Mod (one m) hC (hC.set m (.row true 28 (srvRow a b d c now x pC (0 + (j - 0) + 1 + (D.length - j)) gr))) := Mod.set rfl bC rfl
        have b2 : (hC.set m (.row true 28 (srvRow a b d c now x pC (0 + (j - 0) + 1 + (D.length - j)) gr))).obj m = some (.row true 28 (srvRow a b d c now x pC (0 + (j - 0) + 1 + (D.length - j)) gr)) := H.obj_set_same bC
        have mge : ∀ i', one m i' → i' < hh.next := fun i' hi => by
          have : i' = m := hi
          have := m1.next
          omega
        have nF := NewSl.keep nA mS mge
        obtain ⟨cj, u1, u2, k1, k2⟩ := ((re.get m1).get mo).get mS
        refine ⟨[0, 1, 2, 3, 4, 5, 6, 7, 8, 9, 10, 11, 12, 13, 14, 15], [0, 0, 2, 6, 14, 0, 32, 96, 224, 480, 992, 2016, 1, 4097, 16383, 32767], by kernel_rfl, ?_⟩
        conv => whnf
        refine ⟨_, Cell.mk k1 rfl, ?_⟩
        conv => whnf
        refine ⟨_, Cell.mk k1 rfl, ?_⟩
        conv => whnf
        refine ⟨_, Cell.mk k2 rfl, ?_⟩
        conv => whnf
        refine ⟨pn, rfl, by omega, ?_⟩
        conv => whnf
        refine ⟨_, _, b2, by show 0 + 12 + pn * 1 + 1 ≤ (ints _ _).length + 12; rw [ints_length, g1]; omega, ?_⟩
        conv => whnf
        have b3 : ((hC.set m (.row true 28 (srvRow a b d c now x pC (0 + (j - 0) + 1 + (D.length - j)) gr))).set m (.row true 28 (splice (srvRow a b d c now x pC (0 + (j - 0) + 1 + (D.length - j)) gr) (0 + 12 + pn * 1) [i64 cn]))).obj m = some (.row true 28 (srvRow a b d c now x pC (insS E pn (i, cn)).length (gr.set pn cn))) := by
          rw [H.obj_set_same b2, ← el]
          exact congrArg (fun l => some (Obj.row true 28 l)) (great_put pn cn)
        have mT : Ab.Mod (one m) (hC.set m (.row true 28 (srvRow a b d c now x pC (0 + (j - 0) + 1 + (D.length - j)) gr))) ((hC.set m (.row true 28 (srvRow a b d c now x pC (0 + (j - 0) + 1 + (D.length - j)) gr))).set m (.row true 28 (splice (srvRow a b d c now x pC (0 + (j - 0) + 1 + (D.length - j)) gr) (0 + 12 + pn * 1) [i64 cn]))) := Mod.set rfl b2 rfl
        have nG := NewSl.keep nF mT mge
        refine ⟨a, b, d, now, x, pC, gr.set pn cn, b3, ⟨by rw [List.length_set, g1], fun k hk => ?_⟩, ⟨nG.1, fun i o e => Nat.le_trans m1.next (nG.2 i o e)⟩, m1.trans' ((mo.trans' mS (S2 := one m) (fun _ _ k => k.elim) (fun _ _ k => k)).trans' mT (S2 := one m) (fun _ _ k => k) (fun _ _ k => k)) (fun _ _ k => k) (fun _ _ k => k)⟩
        rw [getD_set_ _ _ _ _ (by omega), hG, g2 k hk]
        by_cases e : pn = k
        · rw [if_pos e, if_pos (by omega)]
          rfl
        · rw [if_neg e, if_neg (by omega)]
    · conv => whnf
      refine ⟨[0, 2, 3, 4, 5, 6, 7, 9, 12, 13, 14, 15, 16, 17, 10, 1, 8, 11, 18, 19, 20, 21], [0, 1536, 0, 4, 12, 28, 0, 124, 1790, 0, 512, 2046, 0, 4096, 12288, 28672, 0, 126976, 262142, 524287, 1048575, 2097151], by kernel_rfl, ?_⟩
      conv => whnf
      have mo := mod_refl none_ hh
      refine ⟨_, Cell.mk hb rfl, ?_⟩
      conv => whnf
      refine ⟨⟨_, hr.is⟩, j, rfl, Nat.zero_le _, hj, ?_⟩
      conv => whnf
      refine ⟨_, Cell.mk hb rfl, ?_⟩
      conv => whnf
      refine ⟨⟨_, hr.is⟩, j, rfl, hj, Nat.le_refl _, ?_⟩
      conv => whnf
      obtain ⟨nB, mo⟩ := new1 [eV (i, cn)] rfl mo
      obtain ⟨nA, nB, dis, mo⟩ := new0d 1 nB mo
      refine ⟨_, _, nA.1, (rt.get mo).is, by rw [show (T.at_ 69).bytes = 8 from rfl]; omega, by omega, fun pA hA hs hm hf => ?_⟩
      obtain ⟨nA, nB, dis, mo⟩ := appD nA nB dis mo hs hm hf
      conv => whnf
      refine ⟨⟨⟨_, (hr.get mo).is⟩, j, rfl, hj, Nat.le_refl _, rfl⟩, ?_⟩
      conv => whnf
      refine ⟨⟨_, Cell.mk (mo.get hb (.inl (fun k => k))) rfl, rfl⟩, ?_⟩
      conv => whnf
      refine ⟨_, _, nA.1, nB.1.weak, by rw [show (T.at_ 69).bytes = 8 from rfl]; omega, by omega, fun pB hB hs hm hf => ?_⟩
      obtain ⟨nA, mo⟩ := appN nA mo pB hB hs hm hf
      conv => whnf
      refine ⟨⟨⟨_, (hr.get mo).is⟩, j, rfl, hj, Nat.le_refl _, rfl⟩, ?_⟩
      conv => whnf
      refine ⟨⟨_, Cell.mk (mo.get hb (.inl (fun k => k))) rfl, rfl⟩, ?_⟩
      conv => whnf
      refine ⟨_, _, nA.1, (rd.get mo).is, by rw [show (T.at_ 69).bytes = 8 from rfl]; omega, by omega, fun pC hC hs hm hf => ?_⟩
      obtain ⟨nA, mo⟩ := appN nA mo pC hC hs hm hf
      conv => whnf
      refine ⟨_, _, mo.get hb (.inl (fun k => k)), by show 12 ≤ (ints _ _).length + 12; omega, ?_⟩
      conv => whnf
      have bC := mo.get hb (.inl (fun k => k))
      have el : 0 + (j - 0) + 1 + (D.length - j) = (insS E pn (i, cn)).length := by
        rw [← efin, List.length_append, List.length_cons, List.length_take, List.length_drop]
        omega
      have ef : [] ++ (D.take j).flatMap enC ++ [eV (i, cn)] ++ (D.drop j).flatMap enC = (insS E pn (i, cn)).flatMap enC := by
        rw [← efin, List.flatMap_append, List.flatMap_cons, List.nil_append, List.append_assoc]
        rfl
      rw [el, ef] at nA
      have mS : Ab.Mod (one m) hC (hC.set m (.row true 28 (srvRow a b d c now x pC (0 + (j - 0) + 1 + (D.length - j)) gr))) := Mod.set rfl bC rfl
      have b2 : (hC.set m (.row true 28 (srvRow a b d c now x pC (0 + (j - 0) + 1 + (D.length - j)) gr))).obj m = some (.row true 28 (srvRow a b d c now x pC (0 + (j - 0) + 1 + (D.length - j)) gr)) := H.obj_set_same bC
      have mge : ∀ i', one m i' → i' < hh.next := fun i' hi => by
        have : i' = m := hi
        have := m1.next
        omega
      have nF := NewSl.keep nA mS mge
      obtain ⟨cj, u1, u2, k1, k2⟩ := ((re.get m1).get mo).get mS
      refine ⟨[0, 1, 2, 3, 4, 5, 6, 7, 8, 9, 10, 11, 12, 13, 14, 15], [0, 0, 2, 6, 14, 0, 32, 96, 224, 480, 992, 2016, 1, 4097, 16383, 32767], by kernel_rfl, ?_⟩
      conv => whnf
      refine ⟨_, Cell.mk k1 rfl, ?_⟩
      conv => whnf
      refine ⟨_, Cell.mk k1 rfl, ?_⟩
      conv => whnf
      refine ⟨_, Cell.mk k2 rfl, ?_⟩
      conv => whnf
      refine ⟨pn, rfl, by omega, ?_⟩
      conv => whnf
      refine ⟨_, _, b2, by show 0 + 12 + pn * 1 + 1 ≤ (ints _ _).length + 12; rw [ints_length, g1]; omega, ?_⟩
      conv => whnf
      have b3 : ((hC.set m (.row true 28 (srvRow a b d c now x pC (0 + (j - 0) + 1 + (D.length - j)) gr))).set m (.row true 28 (splice (srvRow a b d c now x pC (0 + (j - 0) + 1 + (D.length - j)) gr) (0 + 12 + pn * 1) [i64 cn]))).obj m = some (.row true 28 (srvRow a b d c now x pC (insS E pn (i, cn)).length (gr.set pn cn))) := by
        rw [H.obj_set_same b2, ← el]
        exact congrArg (fun l => some (Obj.row true 28 l)) (great_put pn cn)
      have mT : Ab.Mod (one m) (hC.set m (.row true 28 (srvRow a b d c now x pC (0 + (j - 0) + 1 + (D.length - j)) gr))) ((hC.set m (.row true 28 (srvRow a b d c now x pC (0 + (j - 0) + 1 + (D.length - j)) gr))).set m (.row true 28 (splice (srvRow a b d c now x pC (0 + (j - 0) + 1 + (D.length - j)) gr) (0 + 12 + pn * 1) [i64 cn]))) := Mod.set rfl b2 rfl
      have nG := NewSl.keep nF mT mge
      refine ⟨a, b, d, now, x, pC, gr.set pn cn, b3, ⟨by rw [List.length_set, g1], fun k hk => ?_⟩, ⟨nG.1, fun i o e => Nat.le_trans m1.next (nG.2 i o e)⟩, m1.trans' ((mo.trans' mS (S2 := one m) (fun _ _ k => k.elim) (fun _ _ k => k)).trans' mT (S2 := one m) (fun _ _ k => k) (fun _ _ k => k)) (fun _ _ k => k) (fun _ _ k => k)⟩
      rw [getD_set_ _ _ _ _ (by omega), hG, g2 k hk]
      by_cases e : pn = k
      · rw [if_pos e, if_pos (by omega)]
        rfl
      · rw [if_neg e, if_neg (by omega)]
  · obtain ⟨i1, c1, f1, f2⟩ := sls_cell hr hd
    obtain ⟨cj, q1, q2, l1, l2⟩ := ent1 _ (List.getElem_mem hd)
    rw [decide_eq_true (show (j : Int) < (D.length : Int) by omega)]
    conv => whnf
    refine ⟨_, Cell.mk hb rfl, ?_⟩
    conv => whnf
    refine ⟨i1, c1, j, f1, rfl, hd, ?_⟩
    conv => whnf
    refine ⟨_, f2, ?_⟩
    conv => whnf
    refine ⟨_, Cell.mk l1 rfl, ?_⟩
    conv => whnf
    refine ⟨_, Cell.mk k1 rfl, ?_⟩
    conv => whnf
    refine br_mk (fun hx => ?_) (fun hx => ?_)
    · conv => whnf
      have hx : D[j].1 < pn := by simpa using hx
      refine ⟨_, Forget.cons rfl (Forget.cons rfl (Forget.cons rfl (Forget.nil _))), ⟨j + 1, _, hd, succ_i64 hd (by omega), rfl, fun k hk hkj => ?_, rfl⟩, mu_lt hd (by omega)⟩
      by_cases e : k = j
      · subst e; exact hx
      · exact hall k hk (by omega)
    · have hx : ¬ D[j].1 < pn := by simpa using hx
      have efin := fin (.inr ⟨hd, hx⟩)
      conv => whnf
      have rt := ro_take enC_len hr hj
      have rd := ro_drop enC_len hr hj
      refine ⟨[], [1, 10], rfl, ?_, ?_⟩
      · conv => whnf
        refine ⟨[], [8, 10], rfl, ?_, ?_⟩
        · conv => whnf
          refine ⟨[0, 2, 3, 4, 5, 6, 7, 9, 12, 13, 14, 15, 16, 17, 1, 8, 10, 11, 18, 19, 20, 21], [0, 0, 0, 4, 12, 28, 0, 124, 254, 0, 1022, 2046, 0, 4096, 12288, 28672, 0, 126976, 262142, 524287, 1048575, 2097151], by kernel_rfl, ?_⟩
          conv => whnf
          have mo := mod_refl none_ hh
          refine ⟨_, Cell.mk hb rfl, ?_⟩
          conv => whnf
          refine ⟨⟨_, hr.is⟩, j, rfl, Nat.zero_le _, hj, ?_⟩
          conv => whnf
          refine ⟨_, Cell.mk hb rfl, ?_⟩
          conv => whnf
          refine ⟨⟨_, hr.is⟩, j, rfl, hj, Nat.le_refl _, ?_⟩
          conv => whnf
          obtain ⟨nA, mo⟩ := new0 1 mo
          refine ⟨_, _, nA.1, (rt.get mo).is, by rw [show (T.at_ 69).bytes = 8 from rfl]; omega, by omega, fun pA hA hs hm hf => ?_⟩
          obtain ⟨nA, mo⟩ := appN nA mo pA hA hs hm hf
          conv => whnf
          refine ⟨⟨⟨_, (hr.get mo).is⟩, j, rfl, hj, Nat.le_refl _, rfl⟩, ?_⟩
          conv => whnf
          refine ⟨⟨_, Cell.mk (mo.get hb (.inl (fun k => k))) rfl, rfl⟩, ?_⟩
          conv => whnf
          obtain ⟨nB, nA, dis, mo⟩ := new1d [eV (i, cn)] rfl nA mo
          have dis := dis_comm dis
          refine ⟨_, _, nA.1, nB.1.weak, by rw [show (T.at_ 69).bytes = 8 from rfl]; omega, by omega, fun pB hB hs hm hf => ?_⟩
          obtain ⟨nA, mo⟩ := appN nA mo pB hB hs hm hf
          conv => whnf
          refine ⟨⟨⟨_, (hr.get mo).is⟩, j, rfl, hj, Nat.le_refl _, rfl⟩, ?_⟩
          conv => whnf
          refine ⟨⟨_, Cell.mk (mo.get hb (.inl (fun k => k))) rfl, rfl⟩, ?_⟩
          conv => whnf
          refine ⟨_, _, nA.1, (rd.get mo).is, by rw [show (T.at_ 69).bytes = 8 from rfl]; omega, by omega, fun pC hC hs hm hf => ?_⟩
          obtain ⟨nA, mo⟩ := appN nA mo pC hC hs hm hf
          conv => whnf
          refine ⟨_, _, mo.get hb (.inl (fun k => k)), by show 12 ≤ (ints _ _).length + 12; omega, ?_⟩
          conv => whnf
          have bC := mo.get hb (.inl (fun k => k))
          have el : 0 + (j - 0) + 1 + (D.length - j) = (insS E pn (i, cn)).length := by
            rw [← efin, List.length_append, List.length_cons, List.length_take, List.length_drop]
            omega
          have ef : [] ++ (D.take j).flatMap enC ++ [eV (i, cn)] ++ (D.drop j).flatMap enC = (insS E pn (i, cn)).flatMap enC := by
            rw [← efin, List.flatMap_append, List.flatMap_cons, List.nil_append, List.append_assoc]
            rfl
          rw [el, ef] at nA
          have mS : Ab.Mod (one m) hC (hC.set m (.row true 28 (srvRow a b d c now x pC (0 + (j - 0) + 1 + (D.length - j)) gr))) := Mod.set rfl bC rfl
          have b2 : (hC.set m (.row true 28 (srvRow a b d c now x pC (0 + (j - 0) + 1 + (D.length - j)) gr))).obj m = some (.row true 28 (srvRow a b d c now x pC (0 + (j - 0) + 1 + (D.length - j)) gr)) := H.obj_set_same bC
          have mge : ∀ i', one m i' → i' < hh.next := fun i' hi => by
            have : i' = m := hi
            have := m1.next
            omega
          have nF := NewSl.keep nA mS mge
          obtain ⟨cj, u1, u2, k1, k2⟩ := ((re.get m1).get mo).get mS
          refine ⟨[0, 1, 2, 3, 4, 5, 6, 7, 8, 9, 10, 11, 12, 13, 14, 15], [0, 0, 2, 6, 14, 0, 32, 96, 224, 480, 992, 2016, 1, 4097, 16383, 32767], by kernel_rfl, ?_⟩
          conv => whnf
          refine ⟨_, Cell.mk k1 rfl, ?_⟩
          conv => whnf
          refine ⟨_, Cell.mk k1 rfl, ?_⟩
          conv => whnf
          refine ⟨_, Cell.mk k2 rfl, ?_⟩
          conv => whnf
          refine ⟨pn, rfl, by omega, ?_⟩
          conv => whnf
          refine ⟨_, _, b2, by show 0 + 12 + pn * 1 + 1 ≤ (ints _ _).length + 12; rw [ints_length, g1]; omega, ?_⟩
          conv => whnf
          have b3 : ((hC.set m (.row true 28 (srvRow a b d c now x pC (0 + (j - 0) + 1 + (D.length - j)) gr))).set m (.row true 28 (splice (srvRow a b d c now x pC (0 + (j - 0) + 1 + (D.length - j)) gr) (0 + 12 + pn * 1) [i64 cn]))).obj m = some (.row true 28 (srvRow a b d c now x pC (insS E pn (i, cn)).length (gr.set pn cn))) := by
            rw [H.obj_set_same b2, ← el]
            exact congrArg (fun l => some (Obj.row true 28 l)) (great_put pn cn)
          have mT : Ab.Mod (one m) (hC.set m (.row true 28 (srvRow a b d c now x pC (0 + (j - 0) + 1 + (D.length - j)) gr))) ((hC.set m (.row true 28 (srvRow a b d c now x pC (0 + (j - 0) + 1 + (D.length - j)) gr))).set m (.row true 28 (splice (srvRow a b d c now x pC (0 + (j - 0) + 1 + (D.length - j)) gr) (0 + 12 + pn * 1) [i64 cn]))) := Mod.set rfl b2 rfl
          have nG := NewSl.keep nF mT mge
          refine ⟨a, b, d, now, x, pC, gr.set pn cn, b3, ⟨by rw [List.length_set, g1], fun k hk => ?_⟩, ⟨nG.1, fun i o e => Nat.le_trans m1.next (nG.2 i o e)⟩, m1.trans' ((mo.trans' mS (S2 := one m) (fun _ _ k => k.elim) (fun _ _ k => k)).trans' mT (S2 := one m) (fun _ _ k => k) (fun _ _ k => k)) (fun _ _ k => k) (fun _ _ k => k)⟩
          rw [getD_set_ _ _ _ _ (by omega), hG, g2 k hk]
          by_cases e : pn = k
          · rw [if_pos e, if_pos (by omega)]
            rfl
          · rw [if_neg e, if_neg (by omega)]
        · conv => whnf
          refine ⟨[0, 2, 3, 4, 5, 6, 7, 9, 12, 13, 14, 15, 16, 17, 1, 10, 8, 11, 18, 19, 20, 21], [0, 0, 0, 4, 12, 28, 0, 124, 1790, 0, 514, 2046, 0, 4096, 12288, 28672, 0, 126976, 262142, 524287, 1048575, 2097151], by kernel_rfl, ?_⟩
          conv => whnf
          have mo := mod_refl none_ hh
          refine ⟨_, Cell.mk hb rfl, ?_⟩
          conv => whnf
          refine ⟨⟨_, hr.is⟩, j, rfl, Nat.zero_le _, hj, ?_⟩
          conv => whnf
          refine ⟨_, Cell.mk hb rfl, ?_⟩
          conv => whnf
          refine ⟨⟨_, hr.is⟩, j, rfl, hj, Nat.le_refl _, ?_⟩
          conv => whnf
          obtain ⟨nA, mo⟩ := new0 1 mo
          obtain ⟨nB, nA, dis, mo⟩ := new1d [eV (i, cn)] rfl nA mo
          have dis := dis_comm dis
          refine ⟨_, _, nA.1, (rt.get mo).is, by rw [show (T.at_ 69).bytes = 8 from rfl]; omega, by omega, fun pA hA hs hm hf => ?_⟩
          obtain ⟨nA, nB, dis, mo⟩ := appD nA nB dis mo hs hm hf
          conv => whnf
          refine ⟨⟨⟨_, (hr.get mo).is⟩, j, rfl, hj, Nat.le_refl _, rfl⟩, ?_⟩
          conv => whnf
          refine ⟨⟨_, Cell.mk (mo.get hb (.inl (fun k => k))) rfl, rfl⟩, ?_⟩
          conv => whnf
          refine ⟨_, _, nA.1, nB.1.weak, by rw [show (T.at_ 69).bytes = 8 from rfl]; omega, by omega, fun pB hB hs hm hf => ?_⟩
          obtain ⟨nA, mo⟩ := appN nA mo pB hB hs hm hf
          conv => whnf
          refine ⟨⟨⟨_, (hr.get mo).is⟩, j, rfl, hj, Nat.le_refl _, rfl⟩, ?_⟩
          conv => whnf
          refine ⟨⟨_, Cell.mk (mo.get hb (.inl (fun k => k))) rfl, rfl⟩, ?_⟩
          conv => whnf
          refine ⟨_, _, nA.1, (rd.get mo).is, by rw [show (T.at_ 69).bytes = 8 from rfl]; omega, by omega, fun pC hC hs hm hf => ?_⟩
          obtain ⟨nA, mo⟩ := appN nA mo pC hC hs hm hf
          conv => whnf
          refine ⟨_, _, mo.get hb (.inl (fun k => k)), by show 12 ≤ (ints _ _).length + 12; omega, ?_⟩
          conv => whnf
          have bC := mo.get hb (.inl (fun k => k))
          have el : 0 + (j - 0) + 1 + (D.length - j) = (insS E pn (i, cn)).length := by
            rw [← efin, List.length_append, List.length_cons, List.length_take, List.length_drop]
            omega
          have ef : [] ++ (D.take j).flatMap enC ++ [eV (i, cn)] ++ (D.drop j).flatMap enC = (insS E pn (i, cn)).flatMap enC := by
            rw [← efin, List.flatMap_append, List.flatMap_cons, List.nil_append, List.append_assoc]
            rfl
          rw [el, ef] at nA
          have mS : Ab.Mod (one m) hC (hC.set m (.row true 28 (srvRow a b d c now x pC (0 + (j - 0) + 1 + (D.length - j)) gr))) := Mod.set rfl bC rfl
          have b2 : (hC.set m (.row true 28 (srvRow a b d c now x pC (0 + (j - 0) + 1 + (D.length - j)) gr))).obj m = some (.row true 28 (srvRow a b d c now x pC (0 + (j - 0) + 1 + (D.length - j)) gr)) := H.obj_set_same bC
          have mge : ∀ i', one m i' → i' < hh.next := fun i' hi => by
            have : i' = m := hi
            have := m1.next
            omega
          have nF := NewSl.keep nA mS mge
          obtain ⟨cj, u1, u2, k1, k2⟩ := ((re.get m1).get mo).get mS
          refine ⟨[0, 1, 2, 3, 4, 5, 6, 7, 8, 9, 10, 11, 12, 13, 14, 15], [0, 0, 2, 6, 14, 0, 32, 96, 224, 480, 992, 2016, 1, 4097, 16383, 32767], by kernel_rfl, ?_⟩
          conv => whnf
          refine ⟨_, Cell.mk k1 rfl, ?_⟩
          conv => whnf
          refine ⟨_, Cell.mk k1 rfl, ?_⟩
          conv => whnf
          refine ⟨_, Cell.mk k2 rfl, ?_⟩
          conv => whnf
          refine ⟨pn, rfl, by omega, ?_⟩
          conv => whnf
          refine ⟨_, _, b2, by show 0 + 12 + pn * 1 + 1 ≤ (ints _ _).length + 12; rw [ints_length, g1]; omega, ?_⟩
          conv => whnf
          have b3 : ((hC.set m (.row true 28 (srvRow a b d c now x pC (0 + (j - 0) + 1 + (D.length - j)) gr))).set m (.row true 28 (splice (srvRow a b d c now x pC (0 + (j - 0) + 1 + (D.length - j)) gr) (0 + 12 + pn * 1) [i64 cn]))).obj m = some (.row true 28 (srvRow a b d c now x pC (insS E pn (i, cn)).length (gr.set pn cn))) := by
            rw [H.obj_set_same b2, ← el]
            exact congrArg (fun l => some (Obj.row true 28 l)) (great_put pn cn)
          have mT : Ab.Mod (one m) (hC.set m (.row true 28 (srvRow a b d c now x pC (0 + (j - 0) + 1 + (D.length - j)) gr))) ((hC.set m (.row true 28 (srvRow a b d c now x pC (0 + (j - 0) + 1 + (D.length - j)) gr))).set m (.row true 28 (splice (srvRow a b d c now x pC (0 + (j - 0) + 1 + (D.length - j)) gr) (0 + 12 + pn * 1) [i64 cn]))) := Mod.set rfl b2 rfl
          have nG := NewSl.keep nF mT mge
          refine ⟨a, b, d, now, x, pC, gr.set pn cn, b3, ⟨by rw [List.length_set, g1], fun k hk => ?_⟩, ⟨nG.1, fun i o e => Nat.le_trans m1.next (nG.2 i o e)⟩, m1.trans' ((mo.trans' mS (S2 := one m) (fun _ _ k => k.elim) (fun _ _ k => k)).trans' mT (S2 := one m) (fun _ _ k => k) (fun _ _ k => k)) (fun _ _ k => k) (fun _ _ k => k)⟩
          rw [getD_set_ _ _ _ _ (by omega), hG, g2 k hk]
          by_cases e : pn = k
          · rw [if_pos e, if_pos (by omega)]
            rfl
          · rw [if_neg e, if_neg (by omega)]
      · conv => whnf
        refine ⟨[0, 2, 3, 4, 5, 6, 7, 9, 12, 13, 14, 15, 16, 17, 10, 1, 8, 11, 18, 19, 20, 21], [0, 1536, 0, 4, 12, 28, 0, 124, 1790, 0, 512, 2046, 0, 4096, 12288, 28672, 0, 126976, 262142, 524287, 1048575, 2097151], by kernel_rfl, ?_⟩
        conv => whnf
        have mo := mod_refl none_ hh
        refine ⟨_, Cell.mk hb rfl, ?_⟩
        conv => whnf
        refine ⟨⟨_, hr.is⟩, j, rfl, Nat.zero_le _, hj, ?_⟩
        conv => whnf
        refine ⟨_, Cell.mk hb rfl, ?_⟩
        conv => whnf
        refine ⟨⟨_, hr.is⟩, j, rfl, hj, Nat.le_refl _, ?_⟩
        conv => whnf
        obtain ⟨nB, mo⟩ := new1 [eV (i, cn)] rfl mo
        obtain ⟨nA, nB, dis, mo⟩ := new0d 1 nB mo
        refine ⟨_, _, nA.1, (rt.get mo).is, by rw [show (T.at_ 69).bytes = 8 from rfl]; omega, by omega, fun pA hA hs hm hf => ?_⟩
        obtain ⟨nA, nB, dis, mo⟩ := appD nA nB dis mo hs hm hf
        conv => whnf
        refine ⟨⟨⟨_, (hr.get mo).is⟩, j, rfl, hj, Nat.le_refl _, rfl⟩, ?_⟩
        conv => whnf
        refine ⟨⟨_, Cell.mk (mo.get hb (.inl (fun k => k))) rfl, rfl⟩, ?_⟩
        conv => whnf
        refine ⟨_, _, nA.1, nB.1.weak, by rw [show (T.at_ 69).bytes = 8 from rfl]; omega, by omega, fun pB hB hs hm hf => ?_⟩
        obtain ⟨nA, mo⟩ := appN nA mo pB hB hs hm hf
        conv => whnf
        refine ⟨⟨⟨_, (hr.get mo).is⟩, j, rfl, hj, Nat.le_refl _, rfl⟩, ?_⟩
        conv => whnf
        refine ⟨⟨_, Cell.mk (mo.get hb (.inl (fun k => k))) rfl, rfl⟩, ?_⟩
        conv => whnf
        refine ⟨_, _, nA.1, (rd.get mo).is, by rw [show (T.at_ 69).bytes = 8 from rfl]; omega, by omega, fun pC hC hs hm hf => ?_⟩
        obtain ⟨nA, mo⟩ := appN nA mo pC hC hs hm hf
        conv => whnf
        refine ⟨_, _, mo.get hb (.inl (fun k => k)), by show 12 ≤ (ints _ _).length + 12; omega, ?_⟩
        conv => whnf
        have bC := mo.get hb (.inl (fun k => k))
        have el : 0 + (j - 0) + 1 + (D.length - j) = (insS E pn (i, cn)).length := by
          rw [← efin, List.length_append, List.length_cons, List.length_take, List.length_drop]
          omega
        have ef : [] ++ (D.take j).flatMap enC ++ [eV (i, cn)] ++ (D.drop j).flatMap enC = (insS E pn (i, cn)).flatMap enC := by
          rw [← efin, List.flatMap_append, List.flatMap_cons, List.nil_append, List.append_assoc]
          rfl
        rw [el, ef] at nA
        have mS : Ab.Mod (one m) hC (hC.set m (.row true 28 (srvRow a b d c now x pC (0 + (j - 0) + 1 + (D.length - j)) gr))) := Mod.set rfl bC rfl
        have b2 : (hC.set m (.row true 28 (srvRow a b d c now x pC (0 + (j - 0) + 1 + (D.length - j)) gr))).obj m = some (.row true 28 (srvRow a b d c now x pC (0 + (j - 0) + 1 + (D.length - j)) gr)) := H.obj_set_same bC
        have mge : ∀ i', one m i' → i' < hh.next := fun i' hi => by
          have : i' = m := hi
          have := m1.next
          omega
        have nF := NewSl.keep nA mS mge
        obtain ⟨cj, u1, u2, k1, k2⟩ := ((re.get m1).get mo).get mS
        refine ⟨[0, 1, 2, 3, 4, 5, 6, 7, 8, 9, 10, 11, 12, 13, 14, 15], [0, 0, 2, 6, 14, 0, 32, 96, 224, 480, 992, 2016, 1, 4097, 16383, 32767], by kernel_rfl, ?_⟩
        conv => whnf
        refine ⟨_, Cell.mk k1 rfl, ?_⟩
        conv => whnf
        refine ⟨_, Cell.mk k1 rfl, ?_⟩
        conv => whnf
        refine ⟨_, Cell.mk k2 rfl, ?_⟩
        conv => whnf
        refine ⟨pn, rfl, by omega, ?_⟩
        conv => whnf
        refine ⟨_, _, b2, by show 0 + 12 + pn * 1 + 1 ≤ (ints _ _).length + 12; rw [ints_length, g1]; omega, ?_⟩
        conv => whnf
        have b3 : ((hC.set m (.row true 28 (srvRow a b d c now x pC (0 + (j - 0) + 1 + (D.length - j)) gr))).set m (.row true 28 (splice (srvRow a b d c now x pC (0 + (j - 0) + 1 + (D.length - j)) gr) (0 + 12 + pn * 1) [i64 cn]))).obj m = some (.row true 28 (srvRow a b d c now x pC (insS E pn (i, cn)).length (gr.set pn cn))) := by
          rw [H.obj_set_same b2, ← el]
          exact congrArg (fun l => some (Obj.row true 28 l)) (great_put pn cn)
        have mT : Ab.Mod (one m) (hC.set m (.row true 28 (srvRow a b d c now x pC (0 + (j - 0) + 1 + (D.length - j)) gr))) ((hC.set m (.row true 28 (srvRow a b d c now x pC (0 + (j - 0) + 1 + (D.length - j)) gr))).set m (.row true 28 (splice (srvRow a b d c now x pC (0 + (j - 0) + 1 + (D.length - j)) gr) (0 + 12 + pn * 1) [i64 cn]))) := Mod.set rfl b2 rfl
        have nG := NewSl.keep nF mT mge
        refine ⟨a, b, d, now, x, pC, gr.set pn cn, b3, ⟨by rw [List.length_set, g1], fun k hk => ?_⟩, ⟨nG.1, fun i o e => Nat.le_trans m1.next (nG.2 i o e)⟩, m1.trans' ((mo.trans' mS (S2 := one m) (fun _ _ k => k.elim) (fun _ _ k => k)).trans' mT (S2 := one m) (fun _ _ k => k) (fun _ _ k => k)) (fun _ _ k => k) (fun _ _ k => k)⟩
        rw [getD_set_ _ _ _ _ (by omega), hG, g2 k hk]
        by_cases e : pn = k
        · rw [if_pos e, if_pos (by omega)]
          rfl
        · rw [if_neg e, if_neg (by omega)]
end Go.Proofs.Ytoljllfbabahpaa
/-! The document's server: Put; a new one of a small graph. -/
namespace Go.Proofs.Ytoljllfbabahpaa
open Go Go.Ab
theorem rsPut {h : H} {m : Nat} {c : Cfg} {E : En} {G G' : List (Int × Int)} (s : RsSt h m c E G) {pn : Nat} {cn : Int} (hp : pn < 16) (ok : okCh c cn = true) (hG : ∀ k, sget G' k = if k = (pn : Int) then some cn else sget G k) : ACalls Try.prog 28 [.ptr (some (m, 0)), i64 pn, i64 cn] h (fun r h' => (∃ i, RsSt h' m c (insS E pn (i, cn)) G') ∧ Ab.Mod (one m) h h') := by
  have hg := s.lt
  obtain ⟨a, b, d, now, x, pL, gr, hb, hr, g1, g2⟩ := s.box
  refine call_ Try.func28 rfl rfl (by kernel_rfl) ?_
  conv => whnf
  refine ⟨c.cells, Cells.mk hb (by show 9 ≤ (ints _ _).length + 12; omega) rfl, ?_⟩
  conv => whnf
  refine (rcNew _ c cn).mono ?_
  rintro _ h1 (⟨q, _⟩ | ⟨_, dd, rfl, sc, nd, m1⟩)
  · rw [ok] at q
    cases q
  conv => whnf
  obtain ⟨po, kb, _⟩ := sc.box
  have mp := Mod.push none_ h1 (.row true 5 [i64 (pn : Int), .ptr (some (dd.c, 0)), .ptr none, i64 0, .bool false])
  have n1 := nd dd.c (.inr (.inl rfl))
  have n2 := h1.lt _ _ kb
  have m2 := mod_none m1 mp
  have mr : Ab.Mod none_ h (((h1.push (.row true 5 [i64 (pn : Int), .ptr (some (dd.c, 0)), .ptr none, i64 0, .bool false])).ro h1.next).ro dd.c) := (m2.ro_new m1.next).ro_new n1
  have sx := s.get mr (fun k => k)
  refine froz h1.next (froz dd.c ((rsAdd sx (i := h1.next) hp ⟨dd.c, [.ptr none, i64 0, .bool false], [.ptr (some (dd.s.g, 0)), .ptr (some (dd.t, 0)), .sl po (CV.new c cn).O.length], ?_, ?_⟩ hG).mono ?_))
  · rw [H.ro_ne _ (by omega)]
    exact H.ro_same (H.obj_push_new h1 _)
  · refine H.ro_same (o := true) ?_
    rw [H.ro_ne _ (by omega)]
    exact mp.get kb (.inl (fun k => k))
  rintro _ h3 ⟨s3, m3⟩
  conv => whnf
  exact ⟨⟨_, s3⟩, mr.trans' m3 (fun _ _ k => k.elim) (fun _ _ k => k)⟩
theorem within95 (h : H) (x lo hi : Int) : ACalls Try.prog 95 [i64 x, i64 lo, i64 hi] h (fun r h' => h' = h ∧ r = .bool (inR x lo hi)) := by
  refine call_ Try.func95 rfl rfl (by kernel_rfl) ?_
  conv => whnf
  refine br_mk (fun ha => ?_) (fun ha => ?_)
  · conv => whnf
    have ha : lo ≤ x := by simpa using ha
    exact ⟨rfl, by rw [inR, decide_eq_true ha, Bool.true_and]⟩
  · conv => whnf
    have ha : ¬ lo ≤ x := by simpa using ha
    exact ⟨rfl, by rw [inR, decide_eq_false ha, Bool.false_and]⟩
theorem within96 (h : H) (x lo hi : Int) : ACalls Try.prog 96 [i64 x, i64 lo, i64 hi] h (fun r h' => h' = h ∧ r = .bool (inR x lo hi)) := by
  refine call_ Try.func96 rfl rfl (by kernel_rfl) ?_
  conv => whnf
  refine br_mk (fun ha => ?_) (fun ha => ?_)
  · conv => whnf
    have ha : lo ≤ x := by simpa using ha
    exact ⟨rfl, by rw [inR, decide_eq_true ha, Bool.true_and]⟩
  · conv => whnf
    have ha : ¬ lo ≤ x := by simpa using ha
    exact ⟨rfl, by rw [inR, decide_eq_false ha, Bool.false_and]⟩
/-- a graph of one node -/
abbrev gOne (g : Nat) : List V := [.sl (some (g, 0)) 1, .sl none 0, .sl none 0]
theorem gMay {h : H} {g : Nat} (hg : ∃ o, h.obj g = some (.row o 2 [i64 0, i64 0])) : ACalls Try.prog 73 [.agg (gOne g)] h (fun r h' => r = .bool true ∧ Ab.Mod none_ h h') := by
  obtain ⟨o, hg⟩ := hg
  refine call_ Try.func73 rfl rfl (by kernel_rfl) ?_
  conv => whnf
  have mp := Mod.push none_ h (.row true 3 (gOne g))
  have gb : (h.push (.row true 3 (gOne g))).obj h.next = some (.row true 3 (gOne g)) := H.obj_push_new h _
  have gg := mp.get hg (.inl (fun k => k))
  refine ⟨_, Cell.mk gb rfl, ?_⟩
  conv => whnf
  refine (within95 _ 1 1 256).mono ?_
  rintro _ h1 ⟨eh, rfl⟩
  rw [eh]
  clear eh h1
  conv => whnf
  refine ⟨_, Cell.mk gb rfl, ?_⟩
  conv => whnf
  refine ⟨_, Cell.mk gb rfl, ?_⟩
  conv => whnf
  obtain ⟨hq, eq⟩ : ∃ hq, hq = h.push (.row true 3 (gOne g)) := ⟨_, rfl⟩
  refine ⟨fun env hh => ∃ (j : Nat) (z : Int), j ≤ 1 ∧ z = j ∧ hh = hq ∧ env = [(3, i64 z), (1, .ptr (some (h.next, 0)))],
    fun env _ => match get env 3 with
      | .int _ z => ((1 : Int) - z).toNat
      | _ => 0, ⟨_, Forget.cons rfl (Forget.cons rfl (Forget.nil _)), 0, _, Nat.zero_le _, rfl, eq.symm, rfl⟩, ?_⟩
  rw [← eq] at mp gb gg
  rintro _ hh ⟨j, z, hj, rfl, eh, rfl⟩
  subst eh
  conv => whnf
  refine ⟨_, Cell.mk gb rfl, ?_⟩
  conv => whnf
  refine br_mk (fun hd => ?_) (fun hd => ?_)
  · have hd : j < 1 := by
      have : (j : Int) < 1 := by simpa using hd
      omega
    obtain rfl : j = 0 := by omega
    conv => whnf
    refine ⟨_, Cell.mk gb rfl, ?_⟩
    conv => whnf
    refine ⟨g, 0, 0, rfl, rfl, by decide, ?_⟩
    conv => whnf
    refine ⟨_, Cell.mk gg rfl, ?_⟩
    conv => whnf
    refine (within95 _ 0 0 4095).mono ?_
    rintro _ h1 ⟨eh, rfl⟩
    subst eh
    conv => whnf
    refine ⟨_, Cell.mk gb rfl, ?_⟩
    conv => whnf
    refine ⟨g, 0, 0, rfl, rfl, by decide, ?_⟩
    conv => whnf
    refine ⟨_, Cell.mk gg rfl, ?_⟩
    conv => whnf
    refine (within95 _ 0 0 4095).mono ?_
    rintro _ h1 ⟨eh, rfl⟩
    subst eh
    conv => whnf
    exact ⟨_, Forget.cons rfl (Forget.cons rfl (Forget.nil _)), ⟨1, _, by decide, rfl, rfl, rfl⟩, by show ((1 : Int) - 1).toNat < ((1 : Int) - 0).toNat; decide⟩
  conv => whnf
  refine ⟨fun env hk => ∃ (j : Nat) (z : Int), z = j ∧ hk = hh ∧ env = [(4, i64 z), (1, .ptr (some (h.next, 0)))], fun _ _ => 0, ⟨_, Forget.cons rfl (Forget.cons rfl (Forget.nil _)), 0, _, rfl, rfl, rfl⟩, ?_⟩
  rintro _ hk ⟨j, z, rfl, eh, rfl⟩
  subst eh
  conv => whnf
  refine ⟨_, Cell.mk gb rfl, ?_⟩
  conv => whnf
  refine ⟨fun env hm => ∃ (j : Nat) (z : Int), z = j ∧ hm = hk ∧ env = [(6, i64 z), (1, .ptr (some (h.next, 0)))], fun _ _ => 0, ⟨_, Forget.cons rfl (Forget.cons rfl (Forget.nil _)), 0, _, rfl, rfl, rfl⟩, ?_⟩
  rintro _ hm ⟨j, z, rfl, eh, rfl⟩
  subst eh
  conv => whnf
  refine ⟨_, Cell.mk gb rfl, ?_⟩
  conv => whnf
  exact ⟨rfl, mp⟩
theorem nShuts (h : H) : ACalls Try.prog 74 [i64 0] h (fun r h' => (∃ x, r = .ptr x) ∧ Ab.Mod none_ h h') := by
  refine call_ Try.func74 rfl rfl (by kernel_rfl) ?_
  conv => whnf
  refine (within96 _ 0 0 512).mono ?_
  rintro _ h1 ⟨eh, rfl⟩
  subst eh
  conv => whnf
  refine ⟨0, rfl, rfl, by decide, by decide, ?_⟩
  conv => whnf
  exact ⟨⟨_, rfl⟩, mod_none (Mod.push none_ _ _) (Mod.push none_ _ _)⟩
theorem rsNew {h : H} {g : Nat} (hg : ∃ o, h.obj g = some (.row o 2 [i64 0, i64 0])) (c : Cfg) (ok : okCfg c = true) : ACalls Try.prog 23 [.agg (gOne g), .agg c.cells] h (fun r h' => ∃ m, r = .ptr (some (m, 0)) ∧ RsSt h' m c [] [] ∧ h.next ≤ m ∧ Ab.Mod none_ h h') := by
  obtain ⟨o, hg⟩ := hg
  refine call_ Try.func23 rfl rfl (by kernel_rfl) ?_
  conv => whnf
  have m1 := Mod.push none_ h (.row true 3 (gOne g))
  have ga : (h.push (.row true 3 (gOne g))).obj h.next = some (.row true 3 (gOne g)) := H.obj_push_new h _
  have m2 := Mod.push none_ (h.push (.row true 3 (gOne g))) (.row true 6 c.cells)
  have gc : ((h.push (.row true 3 (gOne g))).push (.row true 6 c.cells)).obj (h.next + 1) = some (.row true 6 c.cells) := H.obj_push_new (h.push (.row true 3 (gOne g))) _
  have gb := m2.get ga (.inl (fun k => k))
  have mo := mod_none m1 m2
  have gg := mo.get hg (.inl (fun k => k))
  refine ⟨gOne g, Cells.mk gb (Nat.le_of_ble_eq_true rfl) rfl, ?_⟩
  conv => whnf
  refine (gMay ⟨_, gg⟩).mono ?_
  rintro _ h1 ⟨rfl, q1⟩
  have gb := q1.get gb (.inl (fun k => k))
  have gc := q1.get gc (.inl (fun k => k))
  have mo := mod_none mo q1
  conv => whnf
  refine ⟨c.cells, Cells.mk gc (Nat.le_of_ble_eq_true rfl) rfl, ?_⟩
  conv => whnf
  refine (rCheck _ c).mono ?_
  rintro _ h2 ⟨rfl, q2⟩
  have gb := q2.get gb (.inl (fun k => k))
  have gc := q2.get gc (.inl (fun k => k))
  have mo := mod_none mo q2
  rw [ok]
  conv => whnf
  refine ⟨[0, 1, 2, 3, 4, 5, 6, 7, 8], [0, 0, 0, 4, 12, 28, 63, 127, 255], by kernel_rfl, ?_⟩
  conv => whnf
  refine ⟨gOne g, Cells.mk gb (Nat.le_of_ble_eq_true rfl) rfl, ?_⟩
  conv => whnf
  refine ⟨c.cells, Cells.mk gc (Nat.le_of_ble_eq_true rfl) rfl, ?_⟩
  conv => whnf
  refine ⟨_, Cell.mk gb rfl, ?_⟩
  conv => whnf
  refine (nShuts _).mono ?_
  rintro _ h3 ⟨⟨x, rfl⟩, q3⟩
  have gb := q3.get gb (.inl (fun k => k))
  have gc := q3.get gc (.inl (fun k => k))
  have mo := mod_none mo q3
  conv => whnf
  refine ⟨⟨c.cells, Cells.mk gc (Nat.le_of_ble_eq_true rfl) rfl, rfl⟩, ?_⟩
  conv => whnf
  refine ⟨⟨gOne g, Cells.mk gb (Nat.le_of_ble_eq_true rfl) rfl, rfl⟩, ?_⟩
  conv => whnf
  have q4 := Mod.push none_ h3 (.row true 28 (srvRow (.sl (some (g, 0)) 1) (.sl none 0) (.sl none 0) c 0 (.ptr x) none 0 (List.replicate 16 0)))
  refine ⟨h3.next, rfl, ⟨⟨_, _, _, _, _, none, List.replicate 16 0, H.obj_push_new h3 _, ⟨rfl, .inl rfl⟩, rfl, fun k hk => ?_⟩, (fun x hx => by cases hx), List.Pairwise.nil, (fun k hk => by cases hk)⟩, mo.next, mod_none mo q4⟩
  rw [List.getD_eq_getElem?_getD, List.getElem?_replicate, if_pos hk]
  rfl
end Go.Proofs.Ytoljllfbabahpaa
/-! Tables: whoever comes and goes. -/
namespace Go.Proofs.Ytoljllfbabahpaa
open Go Go.Ab
theorem vw_get {E F : En} (v : encM Prod.snd E = encM Prod.snd F) (p : Int) : (sget E p).map Prod.snd = (sget F p).map Prod.snd := by
  rw [← encM_get, v, encM_get]
theorem vw_len {E F : En} (v : encM Prod.snd E = encM Prod.snd F) : E.length = F.length := by
  rw [← encM_length Prod.snd E, v, encM_length]
theorem vw_keys {E F : En} (v : encM Prod.snd E = encM Prod.snd F) : keys E = keys F := by
  have := congrArg (List.map (·.1)) v
  rwa [encM_keys, encM_keys] at this
theorem vw_some {E F : En} (v : encM Prod.snd E = encM Prod.snd F) (p : Int) : (sget E p).isSome = (sget F p).isSome := by
  have := congrArg Option.isSome (vw_get v p)
  simpa using this
theorem mayV_vw {E F : En} (v : encM Prod.snd E = encM Prod.snd F) (most : Int) (G : List (Int × Int)) (p c : Int) : mayV most F G p c = mayV most E G p c := by
  have e : (sget F p).isNone = (sget E p).isNone := by
    have := vw_some v p
    cases h1 : sget E p <;> cases h2 : sget F p <;> rw [h1, h2] at this <;> first | rfl | cases this
  rw [mayV, mayV, e, vw_len v]
theorem drop_one {E : En} (ha : AscS E) (p : Int) : (E.filter fun x => decide (x.1 ∈ [p])) = match sget E p with
    | some x => [(p, x)]
    | none => [] := by
  cases h : sget E p with
  | none =>
    refine List.filter_eq_nil_iff.2 (fun x hx => ?_)
    have := sget_none.1 h
    simp
    intro e
    exact this (List.mem_map.2 ⟨x, hx, e⟩)
  | some v =>
    obtain ⟨A, B, rfl⟩ := List.append_of_mem ((sget_mem ha.nodup).1 h)
    obtain ⟨h1, h2⟩ := asc_mid ha
    rw [List.filter_append, List.filter_cons_of_pos (by simp), List.filter_eq_nil_iff.2 (fun x hx => by have := h1 x hx; simp at this ⊢; omega), List.filter_eq_nil_iff.2 (fun x hx => by have := h2 x hx; simp at this ⊢; omega)]
    rfl
theorem drop_del (E : En) (p : Int) : (E.filter fun x => decide (x.1 ∉ [p])) = delS E p := by
  refine List.filter_congr (fun x _ => ?_)
  rw [Bool.eq_iff_iff]
  simp
theorem getV_vw {E F : En} (v : encM Prod.snd E = encM Prod.snd F) (p c : Int) : (getV E p c = .ptr none ∧ getV F p c = .ptr none) ∨ ∃ x y, getV E p c = eV x ∧ getV F p c = eV y ∧ sget E p = some x ∧ x.2 = c := by
  have h := vw_get v p
  rw [getV, getV]
  cases h1 : sget E p with
  | none =>
    cases h2 : sget F p with
    | none => exact .inl ⟨rfl, rfl⟩
    | some y => rw [h1, h2] at h; cases h
  | some x =>
    cases h2 : sget F p with
    | none => rw [h1, h2] at h; cases h
    | some y =>
      rw [h1, h2] at h
      have h : x.2 = y.2 := by simpa using h
      by_cases e : x.2 = c
      · refine .inr ⟨x, y, ?_, ?_, rfl, e⟩
        · show (if x.2 = c then eV x else V.ptr none) = _
          rw [if_pos e]
        · show (if y.2 = c then eV y else V.ptr none) = _
          rw [if_pos (by rw [← h]; exact e)]
      · refine .inl ⟨?_, ?_⟩
        · show (if x.2 = c then eV x else V.ptr none) = _
          rw [if_neg e]
        · show (if y.2 = c then eV y else V.ptr none) = _
          rw [if_neg (by rw [← h]; exact e)]
set_option maxHeartbeats 4000000 in
theorem acts4 {h : H} {pl : Option (Nat × Nat)} {l : List Wt} (ra : RoSl h pl l.length 3 (l.flatMap wC)) (most : Int) : ACalls Try.prog 4 [i64 most, .sl pl l.length] h (fun r _ => r = .bool true) := by
  refine call_ Try.func4 rfl rfl (by kernel_rfl) ?_
  conv => whnf
  refine br_mk (fun ha => ?_) (fun ha => ?_)
  · skip
    conv => whnf
    refine (awake21 h).mono ?_
    rintro _ h1 ⟨rfl, _⟩
    conv => whnf
  have ha : ¬ l.length > 80 := by
    have : ¬ (l.length : Int) > 80 := by simpa using ha
    omega
  conv => whnf
  refine (tbNew h most).mono ?_
  rintro r1 h1 (⟨q, eh, rfl⟩ | ⟨q, t, mi, gi, rfl, s1, n1, n2, n3, m1⟩)
  · subst eh
    conv => whnf
    refine ⟨_, rfl, ?_⟩
    conv => whnf
    refine ⟨_, rfl, ?_⟩
    conv => whnf
    refine br_mk (fun hb => ?_) (fun hb => ?_)
    · skip
      conv => whnf
      refine (awake21 h1).mono ?_
      rintro _ h1 ⟨rfl, _⟩
      conv => whnf
    have hb : ¬ most < 1 := by simpa using hb
    conv => whnf
    refine br_mk (fun hc => ?_) (fun hc => ?_)
    · skip
      conv => whnf
      refine (awake21 h1).mono ?_
      rintro _ h1 ⟨rfl, _⟩
      conv => whnf
    have hc : ¬ most > 16 := by simpa using hc
    rw [inR_iff.2 ⟨by omega, by omega⟩] at q
    cases q
  have hmo := inR_iff.1 q
  conv => whnf
  refine ⟨_, rfl, ?_⟩
  conv => whnf
  refine ⟨_, rfl, ?_⟩
  conv => whnf
  refine br_mk (fun hb => ?_) (fun hb => ?_)
  · have : most < 1 := by simpa using hb
    omega
  conv => whnf
  refine br_mk (fun hc => ?_) (fun hc => ?_)
  · have : most > 16 := by simpa using hc
    omega
  conv => whnf
  have mp := Mod.push none_ h1 (.row true 2 [i64 0, i64 0])
  obtain ⟨c, ec⟩ : ∃ c : Cfg, c = ⟨most, 1, 0, 1, 1, 1⟩ := ⟨_, rfl⟩
  have okc : okCfg c = true := by
    rw [ec, okCfg, q]
    rfl
  have hrn := rsNew (g := h1.next) ⟨true, H.obj_push_new h1 (.row true 2 [i64 0, i64 0])⟩ c okc
  rw [show c.cells = [i64 most, i64 1, i64 0, i64 1, i64 1, i64 1] by rw [ec]; rfl] at hrn
  refine hrn.mono ?_
  rintro _ h2 ⟨m, rfl, r2, nm, m2⟩
  conv => whnf
  have lt := s1.lt
  have hm : m ≠ t ∧ m ≠ mi ∧ m ≠ gi := by
    have : h1.next + 1 ≤ m := nm
    omega
  have s2 := s1.old (mod_none mp m2)
  have ra2 := ra.get (mod_none m1 (mod_none mp m2))
  clear s1 m1 mp m2 nm lt ra hrn
  have hsess : c.sess = most := by rw [ec]
  have hch : ∀ cn, inR cn 1 2147483648 = true → okCh c cn = true := fun cn e => by
    rw [okCh, okc, e]
    rfl
  clear ec
  refine ⟨fun env hk => ∃ (j : Nat) (z : Int) (E F : En) (G : List (Int × Int)), j ≤ l.length ∧ z = j ∧ TbSt hk t mi gi most E G ∧ RsSt hk m c F G ∧ encM Prod.snd E = encM Prod.snd F ∧ RoSl hk pl l.length 3 (l.flatMap wC) ∧ env = [(8, i64 z), (7, .ptr (some (m, 0))), (5, .ptr (some (t, 0))), (0, i64 most), (1, .sl pl l.length)],
    fun env _ => match get env 8 with
      | .int _ z => ((l.length : Int) - z).toNat
      | _ => 0, ⟨_, Forget.cons rfl (Forget.cons rfl (Forget.cons rfl (Forget.cons rfl (Forget.cons rfl (Forget.nil _))))), 0, _, [], [], [], Nat.zero_le _, rfl, s2, r2, rfl, ra2, rfl⟩, ?_⟩
  clear s2 r2 ra2
  rintro _ hh ⟨j, z, E, F, G, hj, rfl, st, sr, vw, ra, rfl⟩
  conv => whnf
  refine br_mk (fun hd => ?_) (fun hd => ?_)
  rotate_left
  · skip
    conv => whnf
    refine (awake21 hh).mono ?_
    rintro _ h1 ⟨rfl, _⟩
    conv => whnf
  have hd : j < l.length := by simpa using hd
  obtain ⟨i1, c1, f1, f2, f3⟩ := sls_get wC_len ra.is rfl hd
  conv => whnf
  refine ⟨i1, c1, j, f1, rfl, hd, ?_⟩
  conv => whnf
  refine ⟨_, f2, ?_⟩
  conv => whnf
  obtain ⟨g0, gx, mx⟩ := lay_row (h := hh) (sz := 3) [i64 0, i64 0, i64 0] (wC l[j])
  refine ⟨_, _, g0, Nat.le_of_ble_eq_true rfl, ?_⟩
  conv => whnf
  have lt := st.lt
  have ltm := sr.lt
  generalize l[j] = A at gx mx f2 f3 ⊢
  obtain ⟨kd, pe, co⟩ := A
  have sr1 := sr.get mx (fun k => k)
  refine ⟨_, Cell.mk gx rfl, ?_⟩
  conv => whnf
  refine ⟨_, Cell.mk gx rfl, ?_⟩
  conv => whnf
  refine (rsMay sr1 pe co).mono ?_
  rintro _ h3 ⟨eh, rfl⟩
  have e3 : h3 = ((hh.push (Obj.row true 3 [i64 0, i64 0, i64 0])).set hh.next (Obj.row true 3 (wC (kd, pe, co)))) := eh
  clear eh g0
  rw [← e3] at gx mx sr1
  clear e3
  have st1 := st.old mx
  have ra1 := ra.get mx
  have gx : h3.obj hh.next = some (.row true 3 [i64 kd, i64 pe, i64 co]) := gx
  rw [hsess, mayV_vw vw]
  conv => whnf
  refine ⟨_, Cell.mk gx rfl, ?_⟩
  conv => whnf
  refine ⟨_, Cell.mk gx rfl, ?_⟩
  conv => whnf
  refine (may25 st1 pe co).mono ?_
  rintro _ h4 ⟨eh, rfl⟩
  subst eh
  obtain ⟨v, ev⟩ : ∃ v, v = mayV most E G pe co := ⟨_, rfl⟩
  rw [← ev]
  conv => whnf
  rw [show (v != v) = false by simp]
  conv => whnf
  refine ⟨_, Cell.mk gx rfl, ?_⟩
  conv => whnf
  refine br_mk (fun hk => ?_) (fun hk => ?_)
  · conv => whnf
    refine ⟨_, Cell.mk gx rfl, ?_⟩
    conv => whnf
    refine ⟨_, Cell.mk gx rfl, ?_⟩
    conv => whnf
    refine (entry27 _ pe co).mono ?_
    rintro _ h5 ⟨ie, rfl, ye, ke, m5⟩
    have st5 := st1.old m5
    have gx5 := m5.get gx (.inl (fun k => k))
    conv => whnf
    refine (add26 st5 ye).mono ?_
    rintro _ h6 ⟨rfl, m6, q6⟩
    rw [← ev] at q6 ⊢
    have lt3 := mx.next
    have lth := mx.next
    have hz : ¬ two mi gi hh.next := fun k => by
      rcases k with (k : hh.next = mi) | (k : hh.next = gi) <;> omega
    have hzm : ¬ two mi gi m := fun k => by
      rcases k with (k : m = mi) | (k : m = gi) <;> omega
    have gx6 := m6.get gx5 (.inl hz)
    have sr6 := (sr1.get m5 (fun k => k)).get m6 hzm
    have ra6 := (ra1.get m5).get m6
    conv => whnf
    rw [show (v != v) = false by simp]
    conv => whnf
    refine br_mk (fun hv => ?_) (fun hv => ?_)
    · have hv : v = 0 := by simpa using hv
      rcases q6 with ⟨q, _⟩ | ⟨_, G6, g6, st6⟩
      · exact absurd hv q
      have hpc : inR pe 0 15 = true ∧ inR co 1 2147483648 = true := by
        rw [hv, mayV] at ev
        by_cases e : inR pe 0 15 = false ∨ inR co 1 2147483648 = false
        · rw [if_pos e] at ev
          cases ev
        · cases h1 : inR pe 0 15 <;> cases h2 : inR co 1 2147483648 <;> rw [h1, h2] at e <;> simp at e
          exact ⟨rfl, rfl⟩
      have hpr := inR_iff.1 hpc.1
      obtain ⟨pn, rfl⟩ : ∃ n : Nat, pe = n := ⟨pe.toNat, by omega⟩
      conv => whnf
      refine ⟨_, Cell.mk gx6 rfl, ?_⟩
      conv => whnf
      refine ⟨_, Cell.mk gx6 rfl, ?_⟩
      conv => whnf
      refine (rsPut sr6 (by omega) (hch co hpc.2) g6).mono ?_
      rintro _ h7 ⟨⟨ir, sr7⟩, m7⟩
      have hmm : ¬ one m t ∧ ¬ one m mi ∧ ¬ one m gi ∧ ¬ one m hh.next := ⟨fun k => hm.1 (Eq.symm k), fun k => hm.2.1 (Eq.symm k), fun k => hm.2.2 (Eq.symm k), fun k => by
        have : hh.next = m := k
        omega⟩
      have st7 := st6.get m7 hmm.1 hmm.2.1 hmm.2.2.1
      have gx7 := m7.get gx6 (.inl hmm.2.2.2)
      have ra7 := ra6.get m7
      have vw7 : encM Prod.snd (insS E (pn : Int) (ie, co)) = encM Prod.snd (insS F (pn : Int) (ir, co)) := by
        rw [← encM_ins, ← encM_ins, vw]
      conv => whnf
      have hsm := st7.small
      obtain ⟨b0, b1, b2, now, xs, pL, gr, hbm, hrm, g1, g2⟩ := sr7.box
      refine ⟨_, Cell.mk gx7 rfl, ?_⟩
      conv => whnf
      refine ⟨_, Cell.mk gx7 rfl, ?_⟩
      conv => whnf
      rcases getV_vw vw7 (pn:Int) co with ⟨e1, e2⟩ | ⟨x, y, e1, e2, e3, e4⟩
      · skip
        refine (get32 st7 (pn:Int) co).mono ?_
        rintro _ h20 ⟨eh, rfl⟩
        subst eh
        rw [e1]
        conv => whnf
        refine ⟨_, Cell.mk gx7 rfl, ?_⟩
        conv => whnf
        refine ⟨_, Cell.mk gx7 rfl, ?_⟩
        conv => whnf
        refine (rsGet sr7 (pn:Int) co).mono ?_
        rintro _ h21 ⟨eh, rfl⟩
        subst eh
        rw [e2]
        conv => whnf
        refine ⟨[0, 1, 2, 3, 4, 5, 6, 7, 8, 9, 10, 11, 12, 13, 14, 15, 16, 17, 18, 19, 20, 21, 22, 23, 24, 25, 26, 27, 28, 30, 31, 32, 33, 34, 29, 35, 36, 37, 38, 41, 39, 40, 42, 43, 44, 45], [0, 1, 0, 4, 15, 31, 63, 127, 255, 511, 1023, 2047, 4095, 511, 8703, 32767, 65535, 131071, 262143, 524287, 1048575, 131071, 2228223, 8388607, 16777215, 33554431, 67108863, 134217727, 268435455, 536870911, 268435455, 1342177279, 3489660927, 7784628223, 16374562815, 34359738367, 68719476735, 137438953471, 274877906943, 549755813887, 1099511627775, 274877906943, 4398046511103, 8796093022207, 17592186044415, 35184372088831], by kernel_rfl, ?_⟩
        conv => whnf
        refine ⟨_, Cell.mk hbm rfl, ?_⟩
        conv => whnf
        refine (len34 st7).mono ?_
        rintro _ h22 ⟨eh, rfl⟩
        subst eh
        conv => whnf
        refine ⟨⟨_, Cell.mk hbm rfl, rfl⟩, ?_⟩
        conv => whnf
        have hle := vw_len vw7
        rw [show (((List.length _ : Nat) : Int) != ((List.length _ : Nat) : Int)) = false from by rw [hle]; simp]
        conv => whnf
        refine (all37 st7).mono ?_
        rintro _ h23 ⟨q9, rfl, en9, m9⟩
        conv => whnf
        refine (peers36 en9 (by omega)).mono ?_
        rintro _ h24 ⟨q10, rfl, rq10, m10⟩
        conv => whnf
        have sr10 := (sr7.get m9 (fun k => k)).get m10 (fun k => k)
        refine (rsLive sr10).mono ?_
        rintro _ h25 ⟨q11, rfl, rq11, m11⟩
        conv => whnf
        refine (ints33 (rq10.get m11).is rq11.is (by omega)).mono ?_
        rintro _ h26 ⟨eh, rfl⟩
        subst eh
        rw [decide_eq_true (vw_keys vw7)]
        conv => whnf
        rw [succ_i64 hd (by omega)]
        refine ⟨_, Forget.cons rfl (Forget.cons rfl (Forget.cons rfl (Forget.cons rfl (Forget.cons rfl (Forget.nil _))))), ⟨j + 1, _, _, _, _, hd, rfl, ((st7.old m9).old m10).old m11, sr10.get m11 (fun k => k), vw7, ((ra7.get m9).get m10).get m11, rfl⟩, ?_⟩
        show ((l.length : Int) - ((j + 1 : Nat) : Int)).toNat < ((l.length : Int) - (j : Int)).toNat
        omega
      · obtain ⟨vn, en5⟩ := st7.ent ((pn:Int), x) ((sget_mem st7.asc.nodup).1 e3)
        refine (get32 st7 (pn:Int) co).mono ?_
        rintro _ h20 ⟨eh, rfl⟩
        subst eh
        rw [e1]
        conv => whnf
        refine ⟨_, Cell.mk gx7 rfl, ?_⟩
        conv => whnf
        refine ⟨_, Cell.mk gx7 rfl, ?_⟩
        conv => whnf
        refine (rsGet sr7 (pn:Int) co).mono ?_
        rintro _ h21 ⟨eh, rfl⟩
        subst eh
        rw [e2]
        conv => whnf
        refine ⟨[0, 1, 2, 3, 4, 5, 6, 7, 8, 9, 10, 11, 12, 13, 14, 15, 16, 17, 18, 19, 20, 21, 22, 23, 24, 25, 26, 27, 28, 30, 31, 32, 33, 34, 29, 35, 36, 37, 38, 41, 39, 40, 42, 43, 44, 45], [0, 1, 0, 4, 15, 31, 63, 127, 255, 511, 1023, 2047, 4095, 511, 8703, 32767, 65535, 131071, 262143, 524287, 1048575, 131071, 2228223, 8388607, 16777215, 33554431, 67108863, 134217727, 268435455, 536870911, 268435455, 1342177279, 3489660927, 7784628223, 16374562815, 34359738367, 68719476735, 137438953471, 274877906943, 549755813887, 1099511627775, 274877906943, 4398046511103, 8796093022207, 17592186044415, 35184372088831], by kernel_rfl, ?_⟩
        conv => whnf
        refine ⟨_, Cell.mk en5 rfl, ?_⟩
        conv => whnf
        refine ⟨_, Cell.mk gx7 rfl, ?_⟩
        conv => whnf
        rw [show (x.2 != co) = false by rw [e4]; simp]
        conv => whnf
        refine ⟨_, Cell.mk en5 rfl, ?_⟩
        conv => whnf
        refine ⟨_, Cell.mk gx7 rfl, ?_⟩
        conv => whnf
        rw [show ((pn:Int) != (pn:Int)) = false by simp]
        conv => whnf
        refine ⟨_, Cell.mk hbm rfl, ?_⟩
        conv => whnf
        refine (len34 st7).mono ?_
        rintro _ h22 ⟨eh, rfl⟩
        subst eh
        conv => whnf
        refine ⟨⟨_, Cell.mk hbm rfl, rfl⟩, ?_⟩
        conv => whnf
        have hle := vw_len vw7
        rw [show (((List.length _ : Nat) : Int) != ((List.length _ : Nat) : Int)) = false from by rw [hle]; simp]
        conv => whnf
        refine (all37 st7).mono ?_
        rintro _ h23 ⟨q9, rfl, en9, m9⟩
        conv => whnf
        refine (peers36 en9 (by omega)).mono ?_
        rintro _ h24 ⟨q10, rfl, rq10, m10⟩
        conv => whnf
        have sr10 := (sr7.get m9 (fun k => k)).get m10 (fun k => k)
        refine (rsLive sr10).mono ?_
        rintro _ h25 ⟨q11, rfl, rq11, m11⟩
        conv => whnf
        refine (ints33 (rq10.get m11).is rq11.is (by omega)).mono ?_
        rintro _ h26 ⟨eh, rfl⟩
        subst eh
        rw [decide_eq_true (vw_keys vw7)]
        conv => whnf
        rw [succ_i64 hd (by omega)]
        refine ⟨_, Forget.cons rfl (Forget.cons rfl (Forget.cons rfl (Forget.cons rfl (Forget.cons rfl (Forget.nil _))))), ⟨j + 1, _, _, _, _, hd, rfl, ((st7.old m9).old m10).old m11, sr10.get m11 (fun k => k), vw7, ((ra7.get m9).get m10).get m11, rfl⟩, ?_⟩
        show ((l.length : Int) - ((j + 1 : Nat) : Int)).toNat < ((l.length : Int) - (j : Int)).toNat
        omega
    · have hv : ¬ v = 0 := by simpa using hv
      rcases q6 with ⟨_, eh⟩ | ⟨q, _⟩
      rotate_left
      · exact absurd q hv
      subst eh
      conv => whnf
      have hsm := st5.small
      obtain ⟨b0, b1, b2, now, xs, pL, gr, hbm, hrm, g1, g2⟩ := sr6.box
      refine ⟨_, Cell.mk gx6 rfl, ?_⟩
      conv => whnf
      refine ⟨_, Cell.mk gx6 rfl, ?_⟩
      conv => whnf
      rcases getV_vw vw pe co with ⟨e1, e2⟩ | ⟨x, y, e1, e2, e3, e4⟩
      · skip
        refine (get32 st5 pe co).mono ?_
        rintro _ h20 ⟨eh, rfl⟩
        subst eh
        rw [e1]
        conv => whnf
        refine ⟨_, Cell.mk gx6 rfl, ?_⟩
        conv => whnf
        refine ⟨_, Cell.mk gx6 rfl, ?_⟩
        conv => whnf
        refine (rsGet sr6 pe co).mono ?_
        rintro _ h21 ⟨eh, rfl⟩
        subst eh
        rw [e2]
        conv => whnf
        refine ⟨[0, 1, 2, 3, 4, 5, 6, 7, 8, 9, 10, 11, 12, 13, 14, 15, 16, 17, 18, 19, 20, 21, 22, 23, 24, 25, 26, 27, 28, 30, 31, 32, 33, 34, 29, 35, 36, 37, 38, 41, 39, 40, 42, 43, 44, 45], [0, 1, 0, 4, 15, 31, 63, 127, 255, 511, 1023, 2047, 4095, 511, 8703, 32767, 65535, 131071, 262143, 524287, 1048575, 131071, 2228223, 8388607, 16777215, 33554431, 67108863, 134217727, 268435455, 536870911, 268435455, 1342177279, 3489660927, 7784628223, 16374562815, 34359738367, 68719476735, 137438953471, 274877906943, 549755813887, 1099511627775, 274877906943, 4398046511103, 8796093022207, 17592186044415, 35184372088831], by kernel_rfl, ?_⟩
        conv => whnf
        refine ⟨_, Cell.mk hbm rfl, ?_⟩
        conv => whnf
        refine (len34 st5).mono ?_
        rintro _ h22 ⟨eh, rfl⟩
        subst eh
        conv => whnf
        refine ⟨⟨_, Cell.mk hbm rfl, rfl⟩, ?_⟩
        conv => whnf
        have hle := vw_len vw
        rw [show (((List.length _ : Nat) : Int) != ((List.length _ : Nat) : Int)) = false from by rw [hle]; simp]
        conv => whnf
        refine (all37 st5).mono ?_
        rintro _ h23 ⟨q9, rfl, en9, m9⟩
        conv => whnf
        refine (peers36 en9 (by omega)).mono ?_
        rintro _ h24 ⟨q10, rfl, rq10, m10⟩
        conv => whnf
        have sr10 := (sr6.get m9 (fun k => k)).get m10 (fun k => k)
        refine (rsLive sr10).mono ?_
        rintro _ h25 ⟨q11, rfl, rq11, m11⟩
        conv => whnf
        refine (ints33 (rq10.get m11).is rq11.is (by omega)).mono ?_
        rintro _ h26 ⟨eh, rfl⟩
        subst eh
        rw [decide_eq_true (vw_keys vw)]
        conv => whnf
        rw [succ_i64 hd (by omega)]
        refine ⟨_, Forget.cons rfl (Forget.cons rfl (Forget.cons rfl (Forget.cons rfl (Forget.cons rfl (Forget.nil _))))), ⟨j + 1, _, _, _, _, hd, rfl, ((st5.old m9).old m10).old m11, sr10.get m11 (fun k => k), vw, ((ra6.get m9).get m10).get m11, rfl⟩, ?_⟩
        show ((l.length : Int) - ((j + 1 : Nat) : Int)).toNat < ((l.length : Int) - (j : Int)).toNat
        omega
      · obtain ⟨vn, en5⟩ := st5.ent (pe, x) ((sget_mem st5.asc.nodup).1 e3)
        refine (get32 st5 pe co).mono ?_
        rintro _ h20 ⟨eh, rfl⟩
        subst eh
        rw [e1]
        conv => whnf
        refine ⟨_, Cell.mk gx6 rfl, ?_⟩
        conv => whnf
        refine ⟨_, Cell.mk gx6 rfl, ?_⟩
        conv => whnf
        refine (rsGet sr6 pe co).mono ?_
        rintro _ h21 ⟨eh, rfl⟩
        subst eh
        rw [e2]
        conv => whnf
        refine ⟨[0, 1, 2, 3, 4, 5, 6, 7, 8, 9, 10, 11, 12, 13, 14, 15, 16, 17, 18, 19, 20, 21, 22, 23, 24, 25, 26, 27, 28, 30, 31, 32, 33, 34, 29, 35, 36, 37, 38, 41, 39, 40, 42, 43, 44, 45], [0, 1, 0, 4, 15, 31, 63, 127, 255, 511, 1023, 2047, 4095, 511, 8703, 32767, 65535, 131071, 262143, 524287, 1048575, 131071, 2228223, 8388607, 16777215, 33554431, 67108863, 134217727, 268435455, 536870911, 268435455, 1342177279, 3489660927, 7784628223, 16374562815, 34359738367, 68719476735, 137438953471, 274877906943, 549755813887, 1099511627775, 274877906943, 4398046511103, 8796093022207, 17592186044415, 35184372088831], by kernel_rfl, ?_⟩
        conv => whnf
        refine ⟨_, Cell.mk en5 rfl, ?_⟩
        conv => whnf
        refine ⟨_, Cell.mk gx6 rfl, ?_⟩
        conv => whnf
        rw [show (x.2 != co) = false by rw [e4]; simp]
        conv => whnf
        refine ⟨_, Cell.mk en5 rfl, ?_⟩
        conv => whnf
        refine ⟨_, Cell.mk gx6 rfl, ?_⟩
        conv => whnf
        rw [show (pe != pe) = false by simp]
        conv => whnf
        refine ⟨_, Cell.mk hbm rfl, ?_⟩
        conv => whnf
        refine (len34 st5).mono ?_
        rintro _ h22 ⟨eh, rfl⟩
        subst eh
        conv => whnf
        refine ⟨⟨_, Cell.mk hbm rfl, rfl⟩, ?_⟩
        conv => whnf
        have hle := vw_len vw
        rw [show (((List.length _ : Nat) : Int) != ((List.length _ : Nat) : Int)) = false from by rw [hle]; simp]
        conv => whnf
        refine (all37 st5).mono ?_
        rintro _ h23 ⟨q9, rfl, en9, m9⟩
        conv => whnf
        refine (peers36 en9 (by omega)).mono ?_
        rintro _ h24 ⟨q10, rfl, rq10, m10⟩
        conv => whnf
        have sr10 := (sr6.get m9 (fun k => k)).get m10 (fun k => k)
        refine (rsLive sr10).mono ?_
        rintro _ h25 ⟨q11, rfl, rq11, m11⟩
        conv => whnf
        refine (ints33 (rq10.get m11).is rq11.is (by omega)).mono ?_
        rintro _ h26 ⟨eh, rfl⟩
        subst eh
        rw [decide_eq_true (vw_keys vw)]
        conv => whnf
        rw [succ_i64 hd (by omega)]
        refine ⟨_, Forget.cons rfl (Forget.cons rfl (Forget.cons rfl (Forget.cons rfl (Forget.cons rfl (Forget.nil _))))), ⟨j + 1, _, _, _, _, hd, rfl, ((st5.old m9).old m10).old m11, sr10.get m11 (fun k => k), vw, ((ra6.get m9).get m10).get m11, rfl⟩, ?_⟩
        show ((l.length : Int) - ((j + 1 : Nat) : Int)).toNat < ((l.length : Int) - (j : Int)).toNat
        omega
  conv => whnf
  refine br_mk (fun hk => ?_) (fun hk => ?_)
  rotate_left
  · conv => whnf
    have hsm := st1.small
    obtain ⟨b0, b1, b2, now, xs, pL, gr, hbm, hrm, g1, g2⟩ := sr1.box
    refine ⟨_, Cell.mk gx rfl, ?_⟩
    conv => whnf
    refine ⟨_, Cell.mk gx rfl, ?_⟩
    conv => whnf
    rcases getV_vw vw pe co with ⟨e1, e2⟩ | ⟨x, y, e1, e2, e3, e4⟩
    · skip
      refine (get32 st1 pe co).mono ?_
      rintro _ h20 ⟨eh, rfl⟩
      subst eh
      rw [e1]
      conv => whnf
      refine ⟨_, Cell.mk gx rfl, ?_⟩
      conv => whnf
      refine ⟨_, Cell.mk gx rfl, ?_⟩
      conv => whnf
      refine (rsGet sr1 pe co).mono ?_
      rintro _ h21 ⟨eh, rfl⟩
      subst eh
      rw [e2]
      conv => whnf
      refine ⟨[0, 1, 2, 3, 4, 5, 6, 7, 8, 9, 10, 11, 12, 13, 14, 15, 16, 17, 18, 19, 20, 21, 22, 23, 24, 25, 26, 27, 28, 30, 31, 32, 33, 34, 29, 35, 36, 37, 38, 41, 39, 40, 42, 43, 44, 45], [0, 1, 0, 4, 15, 31, 63, 127, 255, 511, 1023, 2047, 4095, 511, 8703, 32767, 65535, 131071, 262143, 524287, 1048575, 131071, 2228223, 8388607, 16777215, 33554431, 67108863, 134217727, 268435455, 536870911, 268435455, 1342177279, 3489660927, 7784628223, 16374562815, 34359738367, 68719476735, 137438953471, 274877906943, 549755813887, 1099511627775, 274877906943, 4398046511103, 8796093022207, 17592186044415, 35184372088831], by kernel_rfl, ?_⟩
      conv => whnf
      refine ⟨_, Cell.mk hbm rfl, ?_⟩
      conv => whnf
      refine (len34 st1).mono ?_
      rintro _ h22 ⟨eh, rfl⟩
      subst eh
      conv => whnf
      refine ⟨⟨_, Cell.mk hbm rfl, rfl⟩, ?_⟩
      conv => whnf
      have hle := vw_len vw
      rw [show (((List.length _ : Nat) : Int) != ((List.length _ : Nat) : Int)) = false from by rw [hle]; simp]
      conv => whnf
      refine (all37 st1).mono ?_
      rintro _ h23 ⟨q9, rfl, en9, m9⟩
      conv => whnf
      refine (peers36 en9 (by omega)).mono ?_
      rintro _ h24 ⟨q10, rfl, rq10, m10⟩
      conv => whnf
      have sr10 := (sr1.get m9 (fun k => k)).get m10 (fun k => k)
      refine (rsLive sr10).mono ?_
      rintro _ h25 ⟨q11, rfl, rq11, m11⟩
      conv => whnf
      refine (ints33 (rq10.get m11).is rq11.is (by omega)).mono ?_
      rintro _ h26 ⟨eh, rfl⟩
      subst eh
      rw [decide_eq_true (vw_keys vw)]
      conv => whnf
      rw [succ_i64 hd (by omega)]
      refine ⟨_, Forget.cons rfl (Forget.cons rfl (Forget.cons rfl (Forget.cons rfl (Forget.cons rfl (Forget.nil _))))), ⟨j + 1, _, _, _, _, hd, rfl, ((st1.old m9).old m10).old m11, sr10.get m11 (fun k => k), vw, ((ra1.get m9).get m10).get m11, rfl⟩, ?_⟩
      show ((l.length : Int) - ((j + 1 : Nat) : Int)).toNat < ((l.length : Int) - (j : Int)).toNat
      omega
    · obtain ⟨vn, en5⟩ := st1.ent (pe, x) ((sget_mem st1.asc.nodup).1 e3)
      refine (get32 st1 pe co).mono ?_
      rintro _ h20 ⟨eh, rfl⟩
      subst eh
      rw [e1]
      conv => whnf
      refine ⟨_, Cell.mk gx rfl, ?_⟩
      conv => whnf
      refine ⟨_, Cell.mk gx rfl, ?_⟩
      conv => whnf
      refine (rsGet sr1 pe co).mono ?_
      rintro _ h21 ⟨eh, rfl⟩
      subst eh
      rw [e2]
      conv => whnf
      refine ⟨[0, 1, 2, 3, 4, 5, 6, 7, 8, 9, 10, 11, 12, 13, 14, 15, 16, 17, 18, 19, 20, 21, 22, 23, 24, 25, 26, 27, 28, 30, 31, 32, 33, 34, 29, 35, 36, 37, 38, 41, 39, 40, 42, 43, 44, 45], [0, 1, 0, 4, 15, 31, 63, 127, 255, 511, 1023, 2047, 4095, 511, 8703, 32767, 65535, 131071, 262143, 524287, 1048575, 131071, 2228223, 8388607, 16777215, 33554431, 67108863, 134217727, 268435455, 536870911, 268435455, 1342177279, 3489660927, 7784628223, 16374562815, 34359738367, 68719476735, 137438953471, 274877906943, 549755813887, 1099511627775, 274877906943, 4398046511103, 8796093022207, 17592186044415, 35184372088831], by kernel_rfl, ?_⟩
      conv => whnf
      refine ⟨_, Cell.mk en5 rfl, ?_⟩
      conv => whnf
      refine ⟨_, Cell.mk gx rfl, ?_⟩
      conv => whnf
      rw [show (x.2 != co) = false by rw [e4]; simp]
      conv => whnf
      refine ⟨_, Cell.mk en5 rfl, ?_⟩
      conv => whnf
      refine ⟨_, Cell.mk gx rfl, ?_⟩
      conv => whnf
      rw [show (pe != pe) = false by simp]
      conv => whnf
      refine ⟨_, Cell.mk hbm rfl, ?_⟩
      conv => whnf
      refine (len34 st1).mono ?_
      rintro _ h22 ⟨eh, rfl⟩
      subst eh
      conv => whnf
      refine ⟨⟨_, Cell.mk hbm rfl, rfl⟩, ?_⟩
      conv => whnf
      have hle := vw_len vw
      rw [show (((List.length _ : Nat) : Int) != ((List.length _ : Nat) : Int)) = false from by rw [hle]; simp]
      conv => whnf
      refine (all37 st1).mono ?_
      rintro _ h23 ⟨q9, rfl, en9, m9⟩
      conv => whnf
      refine (peers36 en9 (by omega)).mono ?_
      rintro _ h24 ⟨q10, rfl, rq10, m10⟩
      conv => whnf
      have sr10 := (sr1.get m9 (fun k => k)).get m10 (fun k => k)
      refine (rsLive sr10).mono ?_
      rintro _ h25 ⟨q11, rfl, rq11, m11⟩
      conv => whnf
      refine (ints33 (rq10.get m11).is rq11.is (by omega)).mono ?_
      rintro _ h26 ⟨eh, rfl⟩
      subst eh
      rw [decide_eq_true (vw_keys vw)]
      conv => whnf
      rw [succ_i64 hd (by omega)]
      refine ⟨_, Forget.cons rfl (Forget.cons rfl (Forget.cons rfl (Forget.cons rfl (Forget.cons rfl (Forget.nil _))))), ⟨j + 1, _, _, _, _, hd, rfl, ((st1.old m9).old m10).old m11, sr10.get m11 (fun k => k), vw, ((ra1.get m9).get m10).get m11, rfl⟩, ?_⟩
      show ((l.length : Int) - ((j + 1 : Nat) : Int)).toNat < ((l.length : Int) - (j : Int)).toNat
      omega
  conv => whnf
  refine ⟨_, Cell.mk gx rfl, ?_⟩
  conv => whnf
  refine (rsIs sr1 pe).mono ?_
  rintro _ h5 ⟨eh, rfl⟩
  subst eh
  conv => whnf
  refine ⟨_, Cell.mk gx rfl, ?_⟩
  conv => whnf
  have mp := Mod.push none_ h5 (.row true 1 [i64 pe])
  have hlx : hh.next < h5.next := h5.lt _ _ gx
  refine (drop30 (p := some (h5.next, 0)) (n := 1) (xs := [pe]) (st1.old mp) (.inr ⟨fun _ => True, ?_, ?_⟩) (by decide)).mono ?_
  · rintro i ⟨o, e⟩ k
    injection e with e
    injection e with e _
    have := st1.lt
    omega
  · exact ⟨rfl, .inr ⟨h5.next, 0, _, _, rfl, H.obj_push_new h5 _, fun _ => rfl, Nat.le_refl 1, rfl⟩⟩
  rintro _ h6 ⟨q, rfl, en, st6, m6⟩
  rw [drop_one st.asc] at en ⊢
  rw [drop_del] at st6
  have hzm : ¬ one mi m := hm.2.1
  have hzx : ¬ one mi hh.next := fun k => by
    have : hh.next = mi := k
    omega
  have sr6 := (sr1.get mp (fun k => k)).get m6 hzm
  have gx6 := m6.get (mp.get gx (.inl (fun k => k))) (.inl hzx)
  have ra6 := (ra1.get mp).get m6
  have hmm : ¬ one m t ∧ ¬ one m mi ∧ ¬ one m gi ∧ ¬ one m hh.next := ⟨fun k => hm.1 (Eq.symm k), fun k => hm.2.1 (Eq.symm k), fun k => hm.2.2 (Eq.symm k), fun k => by
    have : hh.next = m := k
    omega⟩
  have vw7 : encM Prod.snd (delS E pe) = encM Prod.snd (delS F pe) := by
    rw [← encM_del, ← encM_del, vw]
  rw [← vw_some vw]
  cases hs : sget E pe with
  | none =>
    rw [hs] at en
    conv => whnf
    refine ⟨[0, 1, 2, 3, 4, 5, 6, 7, 8, 9, 10, 11, 12, 13, 14, 15, 16, 17, 18, 19, 20, 21, 22, 23], [0, 1, 3, 0, 15, 31, 63, 127, 255, 511, 1023, 2047, 4095, 8191, 16383, 32767, 65535, 131071, 262143, 8191, 532479, 2097151, 4194303, 8388607], by kernel_rfl, ?_⟩
    conv => whnf
    refine ⟨_, Cell.mk gx6 rfl, ?_⟩
    conv => whnf
    refine (rsOut sr6 pe).mono ?_
    rintro _ h7 ⟨sr7, m7⟩
    have st7 := st6.get m7 hmm.1 hmm.2.1 hmm.2.2.1
    have gx7 := m7.get gx6 (.inl hmm.2.2.2)
    have ra7 := ra6.get m7
    conv => whnf
    have hsm := st7.small
    obtain ⟨b0, b1, b2, now, xs, pL, gr, hbm, hrm, g1, g2⟩ := sr7.box
    refine ⟨_, Cell.mk gx7 rfl, ?_⟩
    conv => whnf
    refine ⟨_, Cell.mk gx7 rfl, ?_⟩
    conv => whnf
    rcases getV_vw vw7 pe co with ⟨e1, e2⟩ | ⟨x, y, e1, e2, e3, e4⟩
    · skip
      refine (get32 st7 pe co).mono ?_
      rintro _ h20 ⟨eh, rfl⟩
      subst eh
      rw [e1]
      conv => whnf
      refine ⟨_, Cell.mk gx7 rfl, ?_⟩
      conv => whnf
      refine ⟨_, Cell.mk gx7 rfl, ?_⟩
      conv => whnf
      refine (rsGet sr7 pe co).mono ?_
      rintro _ h21 ⟨eh, rfl⟩
      subst eh
      rw [e2]
      conv => whnf
      refine ⟨[0, 1, 2, 3, 4, 5, 6, 7, 8, 9, 10, 11, 12, 13, 14, 15, 16, 17, 18, 19, 20, 21, 22, 23, 24, 25, 26, 27, 28, 30, 31, 32, 33, 34, 29, 35, 36, 37, 38, 41, 39, 40, 42, 43, 44, 45], [0, 1, 0, 4, 15, 31, 63, 127, 255, 511, 1023, 2047, 4095, 511, 8703, 32767, 65535, 131071, 262143, 524287, 1048575, 131071, 2228223, 8388607, 16777215, 33554431, 67108863, 134217727, 268435455, 536870911, 268435455, 1342177279, 3489660927, 7784628223, 16374562815, 34359738367, 68719476735, 137438953471, 274877906943, 549755813887, 1099511627775, 274877906943, 4398046511103, 8796093022207, 17592186044415, 35184372088831], by kernel_rfl, ?_⟩
      conv => whnf
      refine ⟨_, Cell.mk hbm rfl, ?_⟩
      conv => whnf
      refine (len34 st7).mono ?_
      rintro _ h22 ⟨eh, rfl⟩
      subst eh
      conv => whnf
      refine ⟨⟨_, Cell.mk hbm rfl, rfl⟩, ?_⟩
      conv => whnf
      have hle := vw_len vw7
      rw [show (((List.length _ : Nat) : Int) != ((List.length _ : Nat) : Int)) = false from by rw [hle]; simp]
      conv => whnf
      refine (all37 st7).mono ?_
      rintro _ h23 ⟨q9, rfl, en9, m9⟩
      conv => whnf
      refine (peers36 en9 (by omega)).mono ?_
      rintro _ h24 ⟨q10, rfl, rq10, m10⟩
      conv => whnf
      have sr10 := (sr7.get m9 (fun k => k)).get m10 (fun k => k)
      refine (rsLive sr10).mono ?_
      rintro _ h25 ⟨q11, rfl, rq11, m11⟩
      conv => whnf
      refine (ints33 (rq10.get m11).is rq11.is (by omega)).mono ?_
      rintro _ h26 ⟨eh, rfl⟩
      subst eh
      rw [decide_eq_true (vw_keys vw7)]
      conv => whnf
      rw [succ_i64 hd (by omega)]
      refine ⟨_, Forget.cons rfl (Forget.cons rfl (Forget.cons rfl (Forget.cons rfl (Forget.cons rfl (Forget.nil _))))), ⟨j + 1, _, _, _, _, hd, rfl, ((st7.old m9).old m10).old m11, sr10.get m11 (fun k => k), vw7, ((ra7.get m9).get m10).get m11, rfl⟩, ?_⟩
      show ((l.length : Int) - ((j + 1 : Nat) : Int)).toNat < ((l.length : Int) - (j : Int)).toNat
      omega
    · obtain ⟨vn, en5⟩ := st7.ent (pe, x) ((sget_mem st7.asc.nodup).1 e3)
      refine (get32 st7 pe co).mono ?_
      rintro _ h20 ⟨eh, rfl⟩
      subst eh
      rw [e1]
      conv => whnf
      refine ⟨_, Cell.mk gx7 rfl, ?_⟩
      conv => whnf
      refine ⟨_, Cell.mk gx7 rfl, ?_⟩
      conv => whnf
      refine (rsGet sr7 pe co).mono ?_
      rintro _ h21 ⟨eh, rfl⟩
      subst eh
      rw [e2]
      conv => whnf
      refine ⟨[0, 1, 2, 3, 4, 5, 6, 7, 8, 9, 10, 11, 12, 13, 14, 15, 16, 17, 18, 19, 20, 21, 22, 23, 24, 25, 26, 27, 28, 30, 31, 32, 33, 34, 29, 35, 36, 37, 38, 41, 39, 40, 42, 43, 44, 45], [0, 1, 0, 4, 15, 31, 63, 127, 255, 511, 1023, 2047, 4095, 511, 8703, 32767, 65535, 131071, 262143, 524287, 1048575, 131071, 2228223, 8388607, 16777215, 33554431, 67108863, 134217727, 268435455, 536870911, 268435455, 1342177279, 3489660927, 7784628223, 16374562815, 34359738367, 68719476735, 137438953471, 274877906943, 549755813887, 1099511627775, 274877906943, 4398046511103, 8796093022207, 17592186044415, 35184372088831], by kernel_rfl, ?_⟩
      conv => whnf
      refine ⟨_, Cell.mk en5 rfl, ?_⟩
      conv => whnf
      refine ⟨_, Cell.mk gx7 rfl, ?_⟩
      conv => whnf
      rw [show (x.2 != co) = false by rw [e4]; simp]
      conv => whnf
      refine ⟨_, Cell.mk en5 rfl, ?_⟩
      conv => whnf
      refine ⟨_, Cell.mk gx7 rfl, ?_⟩
      conv => whnf
      rw [show (pe != pe) = false by simp]
      conv => whnf
      refine ⟨_, Cell.mk hbm rfl, ?_⟩
      conv => whnf
      refine (len34 st7).mono ?_
      rintro _ h22 ⟨eh, rfl⟩
      subst eh
      conv => whnf
      refine ⟨⟨_, Cell.mk hbm rfl, rfl⟩, ?_⟩
      conv => whnf
      have hle := vw_len vw7
      rw [show (((List.length _ : Nat) : Int) != ((List.length _ : Nat) : Int)) = false from by rw [hle]; simp]
      conv => whnf
      refine (all37 st7).mono ?_
      rintro _ h23 ⟨q9, rfl, en9, m9⟩
      conv => whnf
      refine (peers36 en9 (by omega)).mono ?_
      rintro _ h24 ⟨q10, rfl, rq10, m10⟩
      conv => whnf
      have sr10 := (sr7.get m9 (fun k => k)).get m10 (fun k => k)
      refine (rsLive sr10).mono ?_
      rintro _ h25 ⟨q11, rfl, rq11, m11⟩
      conv => whnf
      refine (ints33 (rq10.get m11).is rq11.is (by omega)).mono ?_
      rintro _ h26 ⟨eh, rfl⟩
      subst eh
      rw [decide_eq_true (vw_keys vw7)]
      conv => whnf
      rw [succ_i64 hd (by omega)]
      refine ⟨_, Forget.cons rfl (Forget.cons rfl (Forget.cons rfl (Forget.cons rfl (Forget.cons rfl (Forget.nil _))))), ⟨j + 1, _, _, _, _, hd, rfl, ((st7.old m9).old m10).old m11, sr10.get m11 (fun k => k), vw7, ((ra7.get m9).get m10).get m11, rfl⟩, ?_⟩
      show ((l.length : Int) - ((j + 1 : Nat) : Int)).toNat < ((l.length : Int) - (j : Int)).toNat
      omega
  | some x =>
    rw [hs] at en
    obtain ⟨j1, d1, f1, f2⟩ := en.cell (j := 0) Nat.zero_lt_one
    obtain ⟨ve, e5⟩ := en.ent (pe, x) (List.mem_cons_self ..)
    conv => whnf
    refine ⟨[0, 1, 2, 3, 4, 5, 6, 7, 8, 9, 10, 11, 12, 13, 14, 15, 16, 17, 18, 19, 20, 21, 22, 23], [0, 1, 3, 0, 15, 31, 63, 127, 255, 511, 1023, 2047, 4095, 8191, 16383, 32767, 65535, 131071, 262143, 8191, 532479, 2097151, 4194303, 8388607], by kernel_rfl, ?_⟩
    conv => whnf
    refine ⟨j1, d1, 0, f1, rfl, Nat.zero_lt_one, ?_⟩
    conv => whnf
    refine ⟨_, f2, ?_⟩
    conv => whnf
    refine ⟨_, Cell.mk e5 rfl, ?_⟩
    conv => whnf
    refine ⟨_, Cell.mk gx6 rfl, ?_⟩
    conv => whnf
    rw [show (pe != pe) = false by simp]
    conv => whnf
    refine ⟨_, Cell.mk gx6 rfl, ?_⟩
    conv => whnf
    refine (rsOut sr6 pe).mono ?_
    rintro _ h7 ⟨sr7, m7⟩
    have st7 := st6.get m7 hmm.1 hmm.2.1 hmm.2.2.1
    have gx7 := m7.get gx6 (.inl hmm.2.2.2)
    have ra7 := ra6.get m7
    conv => whnf
    have hsm := st7.small
    obtain ⟨b0, b1, b2, now, xs, pL, gr, hbm, hrm, g1, g2⟩ := sr7.box
    refine ⟨_, Cell.mk gx7 rfl, ?_⟩
    conv => whnf
    refine ⟨_, Cell.mk gx7 rfl, ?_⟩
    conv => whnf
    rcases getV_vw vw7 pe co with ⟨e1, e2⟩ | ⟨x, y, e1, e2, e3, e4⟩
    · skip
      refine (get32 st7 pe co).mono ?_
      rintro _ h20 ⟨eh, rfl⟩
      subst eh
      rw [e1]
      conv => whnf
      refine ⟨_, Cell.mk gx7 rfl, ?_⟩
      conv => whnf
      refine ⟨_, Cell.mk gx7 rfl, ?_⟩
      conv => whnf
      refine (rsGet sr7 pe co).mono ?_
      rintro _ h21 ⟨eh, rfl⟩
      subst eh
      rw [e2]
      conv => whnf
      refine ⟨[0, 1, 2, 3, 4, 5, 6, 7, 8, 9, 10, 11, 12, 13, 14, 15, 16, 17, 18, 19, 20, 21, 22, 23, 24, 25, 26, 27, 28, 30, 31, 32, 33, 34, 29, 35, 36, 37, 38, 41, 39, 40, 42, 43, 44, 45], [0, 1, 0, 4, 15, 31, 63, 127, 255, 511, 1023, 2047, 4095, 511, 8703, 32767, 65535, 131071, 262143, 524287, 1048575, 131071, 2228223, 8388607, 16777215, 33554431, 67108863, 134217727, 268435455, 536870911, 268435455, 1342177279, 3489660927, 7784628223, 16374562815, 34359738367, 68719476735, 137438953471, 274877906943, 549755813887, 1099511627775, 274877906943, 4398046511103, 8796093022207, 17592186044415, 35184372088831], by kernel_rfl, ?_⟩
      conv => whnf
      refine ⟨_, Cell.mk hbm rfl, ?_⟩
      conv => whnf
      refine (len34 st7).mono ?_
      rintro _ h22 ⟨eh, rfl⟩
      subst eh
      conv => whnf
      refine ⟨⟨_, Cell.mk hbm rfl, rfl⟩, ?_⟩
      conv => whnf
      have hle := vw_len vw7
      rw [show (((List.length _ : Nat) : Int) != ((List.length _ : Nat) : Int)) = false from by rw [hle]; simp]
      conv => whnf
      refine (all37 st7).mono ?_
      rintro _ h23 ⟨q9, rfl, en9, m9⟩
      conv => whnf
      refine (peers36 en9 (by omega)).mono ?_
      rintro _ h24 ⟨q10, rfl, rq10, m10⟩
      conv => whnf
      have sr10 := (sr7.get m9 (fun k => k)).get m10 (fun k => k)
      refine (rsLive sr10).mono ?_
      rintro _ h25 ⟨q11, rfl, rq11, m11⟩
      conv => whnf
      refine (ints33 (rq10.get m11).is rq11.is (by omega)).mono ?_
      rintro _ h26 ⟨eh, rfl⟩
      subst eh
      rw [decide_eq_true (vw_keys vw7)]
      conv => whnf
      rw [succ_i64 hd (by omega)]
      refine ⟨_, Forget.cons rfl (Forget.cons rfl (Forget.cons rfl (Forget.cons rfl (Forget.cons rfl (Forget.nil _))))), ⟨j + 1, _, _, _, _, hd, rfl, ((st7.old m9).old m10).old m11, sr10.get m11 (fun k => k), vw7, ((ra7.get m9).get m10).get m11, rfl⟩, ?_⟩
      show ((l.length : Int) - ((j + 1 : Nat) : Int)).toNat < ((l.length : Int) - (j : Int)).toNat
      omega
    · obtain ⟨vn, en5⟩ := st7.ent (pe, x) ((sget_mem st7.asc.nodup).1 e3)
      refine (get32 st7 pe co).mono ?_
      rintro _ h20 ⟨eh, rfl⟩
      subst eh
      rw [e1]
      conv => whnf
      refine ⟨_, Cell.mk gx7 rfl, ?_⟩
      conv => whnf
      refine ⟨_, Cell.mk gx7 rfl, ?_⟩
      conv => whnf
      refine (rsGet sr7 pe co).mono ?_
      rintro _ h21 ⟨eh, rfl⟩
      subst eh
      rw [e2]
      conv => whnf
      refine ⟨[0, 1, 2, 3, 4, 5, 6, 7, 8, 9, 10, 11, 12, 13, 14, 15, 16, 17, 18, 19, 20, 21, 22, 23, 24, 25, 26, 27, 28, 30, 31, 32, 33, 34, 29, 35, 36, 37, 38, 41, 39, 40, 42, 43, 44, 45], [0, 1, 0, 4, 15, 31, 63, 127, 255, 511, 1023, 2047, 4095, 511, 8703, 32767, 65535, 131071, 262143, 524287, 1048575, 131071, 2228223, 8388607, 16777215, 33554431, 67108863, 134217727, 268435455, 536870911, 268435455, 1342177279, 3489660927, 7784628223, 16374562815, 34359738367, 68719476735, 137438953471, 274877906943, 549755813887, 1099511627775, 274877906943, 4398046511103, 8796093022207, 17592186044415, 35184372088831], by kernel_rfl, ?_⟩
      conv => whnf
      refine ⟨_, Cell.mk en5 rfl, ?_⟩
      conv => whnf
      refine ⟨_, Cell.mk gx7 rfl, ?_⟩
      conv => whnf
      rw [show (x.2 != co) = false by rw [e4]; simp]
      conv => whnf
      refine ⟨_, Cell.mk en5 rfl, ?_⟩
      conv => whnf
      refine ⟨_, Cell.mk gx7 rfl, ?_⟩
      conv => whnf
      rw [show (pe != pe) = false by simp]
      conv => whnf
      refine ⟨_, Cell.mk hbm rfl, ?_⟩
      conv => whnf
      refine (len34 st7).mono ?_
      rintro _ h22 ⟨eh, rfl⟩
      subst eh
      conv => whnf
      refine ⟨⟨_, Cell.mk hbm rfl, rfl⟩, ?_⟩
      conv => whnf
      have hle := vw_len vw7
      rw [show (((List.length _ : Nat) : Int) != ((List.length _ : Nat) : Int)) = false from by rw [hle]; simp]
      conv => whnf
      refine (all37 st7).mono ?_
      rintro _ h23 ⟨q9, rfl, en9, m9⟩
      conv => whnf
      refine (peers36 en9 (by omega)).mono ?_
      rintro _ h24 ⟨q10, rfl, rq10, m10⟩
      conv => whnf
      have sr10 := (sr7.get m9 (fun k => k)).get m10 (fun k => k)
      refine (rsLive sr10).mono ?_
      rintro _ h25 ⟨q11, rfl, rq11, m11⟩
      conv => whnf
      refine (ints33 (rq10.get m11).is rq11.is (by omega)).mono ?_
      rintro _ h26 ⟨eh, rfl⟩
      subst eh
      rw [decide_eq_true (vw_keys vw7)]
      conv => whnf
      rw [succ_i64 hd (by omega)]
      refine ⟨_, Forget.cons rfl (Forget.cons rfl (Forget.cons rfl (Forget.cons rfl (Forget.cons rfl (Forget.nil _))))), ⟨j + 1, _, _, _, _, hd, rfl, ((st7.old m9).old m10).old m11, sr10.get m11 (fun k => k), vw7, ((ra7.get m9).get m10).get m11, rfl⟩, ?_⟩
      show ((l.length : Int) - ((j + 1 : Nat) : Int)).toNat < ((l.length : Int) - (j : Int)).toNat
      omega
end Go.Proofs.Ytoljllfbabahpaa
