/- Tables: never are more there than may be. -/
import Derived.Test.YtoljllfbabahpaaU54
set_option linter.unusedVariables false
namespace Go.Proofs.Ytoljllfbabahpaa
open Go Go.Ab
/-- what was let in -/
def Was (h : H) (wi : Nat) (G : List (Int × Int)) : Prop := ∃ ms : List ((Int × Int) × V), h.obj wi = some (.map true (mpP .i64 ms)) ∧ (ms.map (·.1)).Nodup ∧ (∀ x ∈ ms, pwf .i64 x.1) ∧ ∀ x ∈ ms, x.1.2 ≤ (sget G x.1.1).getD 0
theorem Was.get {Z : Nat → Prop} {h h' : H} {wi : Nat} {G : List (Int × Int)} (s : Was h wi G) (m : Ab.Mod Z h h') (hw : ¬ Z wi) : Was h' wi G := by
  obtain ⟨ms, h1, h2⟩ := s
  exact ⟨ms, m.get h1 (.inl hw), h2⟩
theorem pwf_small {a b : Int} (h1 : 0 ≤ a ∧ a ≤ 1000) (h2 : 0 ≤ b ∧ b ≤ 1000) : pwf .i64 (a, b) := by
  constructor <;> simp [Lit.wf, IntKind.min, IntKind.max, IntKind.bits, IntKind.signed] <;> omega
theorem ins_room {E : En} {p : Int} {v : Nat × Int} {most : Int} (h : ¬ (most ≤ (E.length : Int) ∧ (sget E p).isNone = true)) (hl : (E.length : Int) ≤ most) : ((insS E p v).length : Int) ≤ most := by
  by_cases hp : p ∈ keys E
  · have h1 : ((E.filter fun x => decide (x.1 < p)).length + (E.filter fun x => decide (p < x.1)).length) + 1 ≤ E.length := by
      obtain ⟨x, hx, e⟩ := List.mem_map.1 hp
      obtain ⟨A, B, rfl⟩ := List.append_of_mem hx
      have e : x.1 = p := e
      rw [List.filter_append, List.filter_append, List.filter_cons_of_neg (by simp [e]), List.filter_cons_of_neg (by simp [e])]
      have a1 := List.countP_eq_length_filter (p := fun x : Int × (Nat × Int) => decide (x.1 < p)) (l := A)
      have key : ∀ l : En, (l.filter fun x => decide (x.1 < p)).length + (l.filter fun x => decide (p < x.1)).length ≤ l.length := by
        intro l
        induction l with
        | nil => simp
        | cons y l ih =>
          by_cases u : y.1 < p
          · rw [List.filter_cons_of_pos (by simpa using u), List.filter_cons_of_neg (by simp; omega), List.length_cons, List.length_cons]
            omega
          · rw [List.filter_cons_of_neg (by simpa using u)]
            have := List.length_filter_le (fun x : Int × (Nat × Int) => decide (p < x.1)) (y :: l)
            by_cases w : p < y.1
            · rw [List.filter_cons_of_pos (by simpa using w), List.length_cons, List.length_cons]
              omega
            · rw [List.filter_cons_of_neg (by simpa using w), List.length_cons]
              omega
      have k1 := key A
      have k2 := key B
      simp only [List.length_append, List.length_cons]
      omega
    rw [insS, List.length_append, List.length_cons]
    omega
  · have hn : (sget E p).isNone = true := sget_isNone.2 hp
    have h1 := insS_len p v E
    have : ¬ most ≤ (E.length : Int) := fun q => h ⟨q, hn⟩
    omega
theorem getV_gone {E : En} {ys : List Int} {p : Int} (c : Int) (hp : p ∈ ys) : getV (E.filter fun x => decide (x.1 ∉ ys)) p c = .ptr none := by
  have : sget (E.filter fun x => decide (x.1 ∉ ys)) p = none := sget_none.2 (fun q => by
    obtain ⟨x, hx, e⟩ := List.mem_map.1 q
    have := (List.mem_filter.1 hx).2
    have e : x.1 = p := e
    rw [e] at this
    simp [hp] at this)
  rw [getV, this]
theorem asc_at {l : List Int} (h : l.Pairwise (· < ·)) {k : Nat} (hk : k + 1 < l.length) : l.getD k 0 < l.getD (k + 1) 0 := by
  rw [List.getD_eq_getElem?_getD, List.getD_eq_getElem?_getD, List.getElem?_eq_getElem hk, List.getElem?_eq_getElem (by omega : k < l.length)]
  exact List.pairwise_iff_getElem.1 h k (k + 1) (by omega) hk (by omega)
set_option maxHeartbeats 4000000 in
theorem bounds5 {h : H} {pa pd : Option (Nat × Nat)} {la ld : Nat} {ps : List (Int × Int)} {xs : List Int} (ra : RoSl h pa la 2 (pairs .i64 ps)) (rd : RoSl h pd ld 1 (ints .i64 xs)) (most : Int) : ACalls Try.prog 5 [i64 most, .sl pa la, .sl pd ld] h (fun r _ => r = .bool true) := by
  refine call_ Try.func5 rfl rfl (by kernel_rfl) ?_
  conv => whnf
  refine br_mk (fun ha => ?_) (fun ha => ?_)
  · skip
    conv => whnf
    refine (awake21 h).mono ?_
    rintro _ h1 ⟨rfl, _⟩
    conv => whnf
  have ha : ¬ most < 1 := by simpa using ha
  conv => whnf
  refine br_mk (fun hb => ?_) (fun hb => ?_)
  · skip
    conv => whnf
    refine (awake21 h).mono ?_
    rintro _ h1 ⟨rfl, _⟩
    conv => whnf
  have hb : ¬ most > 16 := by simpa using hb
  conv => whnf
  refine br_mk (fun hc => ?_) (fun hc => ?_)
  · skip
    conv => whnf
    refine (awake21 h).mono ?_
    rintro _ h1 ⟨rfl, _⟩
    conv => whnf
  have hc : ¬ la > 80 := by
    have : ¬ (la : Int) > 80 := by simpa using hc
    omega
  conv => whnf
  refine br_mk (fun hd => ?_) (fun hd => ?_)
  · skip
    conv => whnf
    refine (awake21 h).mono ?_
    rintro _ h1 ⟨rfl, _⟩
    conv => whnf
  have hdd : ¬ ld > 80 := by
    have : ¬ (ld : Int) > 80 := by simpa using hd
    omega
  clear hd
  conv => whnf
  refine (tbNew h most).mono ?_
  rintro r1 h1 (⟨q, _⟩ | ⟨_, t, mi, gi, rfl, s1, n1, n2, n3, m1⟩)
  · exact absurd (show inR most 1 16 = true from inR_iff.2 ⟨by omega, by omega⟩) (by rw [q]; decide)
  conv => whnf
  refine ⟨_, rfl, ?_⟩
  conv => whnf
  refine ⟨_, rfl, ?_⟩
  conv => whnf
  have mp := Mod.push none_ h1 (.map true [])
  have lt := s1.lt
  refine ⟨fun env hk => ∃ (j : Nat) (z : Int) (E : En) (G : List (Int × Int)), j ≤ la ∧ z = j ∧ TbSt hk t mi gi most E G ∧ (E.length : Int) ≤ most ∧ Was hk h1.next G ∧ RoSl hk pa la 2 (pairs .i64 ps) ∧ RoSl hk pd ld 1 (ints .i64 xs) ∧ env = [(10, i64 z), (9, .mp (some h1.next)), (7, .ptr (some (t, 0))), (0, i64 most), (1, .sl pa la), (2, .sl pd ld)],
    fun env _ => match get env 10 with
      | .int _ z => ((la : Int) - z).toNat
      | _ => 0, ⟨_, Forget.cons rfl (Forget.cons rfl (Forget.cons rfl (Forget.cons rfl (Forget.cons rfl (Forget.cons rfl (Forget.nil _)))))), 0, _, [], [], Nat.zero_le _, rfl, s1.old mp, by show (0 : Int) ≤ most; omega, ⟨[], H.obj_push_new h1 _, List.nodup_nil, fun x hx => (by cases hx), fun x hx => (by cases hx)⟩, ra.get (mod_none m1 mp), rd.get (mod_none m1 mp), rfl⟩, ?_⟩
  obtain ⟨g, eg⟩ : ∃ g, g = h1.next := ⟨_, rfl⟩
  rw [← eg] at lt ⊢
  clear mp ra rd
  rintro _ hh ⟨j, z, E, G, hj, rfl, st, hle, wa, ra, rd, rfl⟩
  conv => whnf
  refine br_mk (fun hd => ?_) (fun hd => ?_)
  rotate_left
  · skip
    conv => whnf
    refine (awake21 hh).mono ?_
    rintro _ h1 ⟨rfl, _⟩
    conv => whnf
  conv => whnf
  have hd : j < la := by simpa using hd
  have hsm := st.small
  have hlx := slo_len rd.is
  obtain ⟨i1, c1, x1, x2, x3⟩ := pairs_cel ra hd
  refine ⟨[0, 1, 2, 3, 4, 6, 7, 8, 9, 10, 5, 11, 12, 13, 14], [0, 0, 3, 7, 15, 31, 0, 0, 192, 448, 960, 2047, 4095, 4095, 16383], by kernel_rfl, ?_⟩
  conv => whnf
  refine ⟨i1, c1, j, x1, rfl, hd, ?_⟩
  conv => whnf
  refine ⟨0, rfl, by decide, ?_⟩
  conv => whnf
  refine ⟨_, x2, ?_⟩
  conv => whnf
  refine ⟨i1, c1, j, x1, rfl, hd, ?_⟩
  conv => whnf
  refine ⟨1, rfl, by decide, ?_⟩
  conv => whnf
  refine ⟨_, x3, ?_⟩
  conv => whnf
  refine (round19 (m := 16) (by decide) (by decide) _ _).mono ?_
  rintro _ h2 ⟨eh, rfl⟩
  subst eh
  conv => whnf
  refine ⟨⟨_, x3, rfl⟩, ?_⟩
  refine (round19 (m := 20) (by decide) (by decide) _ _).mono ?_
  rintro _ h3 ⟨eh, rfl⟩
  subst eh
  obtain ⟨p, hp, hp0, hp1⟩ : ∃ p : Int, ((ps.getD j (0, 0)).1 % 16) = p ∧ 0 ≤ p ∧ p < 16 := ⟨_, rfl, Int.emod_nonneg _ (by decide), Int.emod_lt_of_pos _ (by decide)⟩
  have hcw : IntKind.i64.wrap (1 + (ps.getD j (0, 0)).2 % 20) = 1 + (ps.getD j (0, 0)).2 % 20 := wrap_i64 (by omega) (by omega)
  obtain ⟨c, hcc⟩ : ∃ c, c = 1 + (ps.getD j (0, 0)).2 % 20 := ⟨_, rfl⟩
  have hc1 : 1 ≤ c ∧ c ≤ 20 := by omega
  rw [hp]
  conv => whnf
  rw [hcw, ← hcc]
  have vv := mayV_in (most := most) (E := E) (G := G) (p := p) (c := c) ⟨hp0, hp1⟩ (by omega)
  refine (entry27 _ p c).mono ?_
  rintro _ h8 ⟨ie, rfl, ye, ke, m8⟩
  have s8 := st.old m8
  conv => whnf
  refine (add26 s8 ye).mono ?_
  rintro _ h9 ⟨rfl, m9, q9⟩
  have wa9 := (wa.get m8 (fun k => k)).get m9 (fun k => by rcases k with (k : g = mi) | (k : g = gi) <;> omega)
  have ra9 := (ra.get m8).get m9
  have rd9 := (rd.get m8).get m9
  obtain ⟨v, ev⟩ : ∃ v, v = mayV most E G p c := ⟨_, rfl⟩
  rw [← ev] at q9 vv ⊢
  conv => whnf
  refine br_mk (fun hv => ?_) (fun hv => ?_)
  rotate_left
  · have hv : ¬ v = 0 := by simpa using hv
    rcases q9 with ⟨_, eh⟩ | ⟨q9, _⟩
    rotate_left
    · exact absurd q9 hv
    subst eh
    conv => whnf
    by_cases hi : j < ld
    rotate_left
    · rw [decide_eq_false (show ¬ (j : Int) < (ld : Int) by omega)]
      conv => whnf
      have hsmE := s8.small
      have hasc : (keys (E)).Pairwise (· < ·) := s8.asc
      refine (all37 s8).mono ?_
      rintro _ h14 ⟨q, rfl, en, m14⟩
      conv => whnf
      refine (peers36 en (by omega)).mono ?_
      rintro _ h15 ⟨q2, rfl, rq, m15⟩
      have s15 := (s8.old m14).old m15
      have wa15 := (wa9.get m14 (fun k => k)).get m15 (fun k => k)
      have ra15 := (ra9.get m14).get m15
      have rd15 := (rd9.get m14).get m15
      conv => whnf
      rw [decide_eq_false (show ¬ (((E).length : Int) > most) from Int.not_lt.2 hle)]
      conv => whnf
      refine (len34 s15).mono ?_
      rintro _ h16 ⟨eh, rfl⟩
      subst eh
      conv => whnf
      rw [bne_self_eq_false]
      conv => whnf
      refine ⟨fun env hk => ∃ (k : Nat) (zk : Int), zk = ((k + 1 : Nat) : Int) ∧ hk = h16 ∧ env = [(15, i64 zk), (14, .sl q2 (E).length), (10, i64 (j : Int)), (9, .mp (some g)), (7, .ptr (some (t, 0))), (0, i64 most), (1, .sl pa la), (2, .sl pd ld)],
        fun env _ => match get env 15 with
          | .int _ z => ((E.length : Int) - z).toNat
          | _ => 0, ⟨_, Forget.cons rfl (Forget.cons rfl (Forget.cons rfl (Forget.cons rfl (Forget.cons rfl (Forget.cons rfl (Forget.cons rfl (Forget.cons rfl (Forget.nil _)))))))), 0, _, rfl, rfl, rfl⟩, ?_⟩
      rintro _ hk ⟨k, zk, rfl, ek, rfl⟩
      subst ek
      conv => whnf
      refine br_mk (fun hk1 => ?_) (fun hk1 => ?_)
      rotate_left
      · conv => whnf
        rw [succ_i64 hd (by omega)]
        refine ⟨_, Forget.cons rfl (Forget.cons rfl (Forget.cons rfl (Forget.cons rfl (Forget.cons rfl (Forget.cons rfl (Forget.nil _)))))), ⟨j + 1, _, _, _, hd, rfl, s15, hle, wa15, ra15, rd15, rfl⟩, ?_⟩
        show ((la : Int) - ((j + 1 : Nat) : Int)).toNat < ((la : Int) - (j : Int)).toNat
        omega
      have hk1 : k + 1 < (E).length := by
        have : ((k + 1 : Nat) : Int) < ((E).length : Int) := by simpa using hk1
        omega
      have hk2 : k + 1 < (keys (E)).length := by rw [keys_length]; exact hk1
      have hlt := asc_at hasc hk2
      obtain ⟨u1, v1, g1, g2⟩ := slo_get rq.is (show k < (E).length by omega)
      obtain ⟨u2, v2, g3, g4⟩ := slo_get rq.is hk1
      conv => whnf
      refine ⟨[0, 1, 2, 3, 4, 5, 6, 7, 8, 9], [0, 0, 2, 7, 15, 0, 0, 96, 224, 511], by kernel_rfl, ?_⟩
      conv => whnf
      refine ⟨u1, v1, k, g1, by rw [wrap_i64 (by omega) (by omega)]; omega, by omega, ?_⟩
      conv => whnf
      refine ⟨_, g2, ?_⟩
      conv => whnf
      refine ⟨u2, v2, k + 1, g3, rfl, hk1, ?_⟩
      conv => whnf
      refine ⟨_, g4, ?_⟩
      conv => whnf
      refine br_mk (fun hge => ?_) (fun hge => ?_)
      · have : (keys (E)).getD k 0 ≥ (keys (E)).getD (k + 1) 0 := by simpa using hge
        omega
      conv => whnf
      have hw2 : IntKind.i64.wrap (((k + 1 : Nat) : Int) + 1) = ((k + 1 + 1 : Nat) : Int) := by
        rw [wrap_i64 (by omega) (by omega)]
        omega
      rw [hw2]
      refine ⟨_, Forget.cons rfl (Forget.cons rfl (Forget.cons rfl (Forget.cons rfl (Forget.cons rfl (Forget.cons rfl (Forget.cons rfl (Forget.cons rfl (Forget.nil _)))))))), ⟨k + 1, _, rfl, rfl, rfl⟩, ?_⟩
      show (((E).length : Int) - ((k + 1 + 1 : Nat) : Int)).toNat < (((E).length : Int) - ((k + 1 : Nat) : Int)).toNat
      omega
    obtain ⟨i3, c3, f1, f2⟩ := slo_get rd9.is hi
    rw [decide_eq_true (show (j : Int) < (ld : Int) by omega)]
    conv => whnf
    refine ⟨i3, c3, j, f1, rfl, hi, ?_⟩
    conv => whnf
    refine ⟨_, f2, ?_⟩
    conv => whnf
    refine ⟨by decide, ?_⟩
    conv => whnf
    refine br_mk (fun hx => ?_) (fun hx => ?_)
    rotate_left
    · conv => whnf
      have hsmE := s8.small
      have hasc : (keys (E)).Pairwise (· < ·) := s8.asc
      refine (all37 s8).mono ?_
      rintro _ h14 ⟨q, rfl, en, m14⟩
      conv => whnf
      refine (peers36 en (by omega)).mono ?_
      rintro _ h15 ⟨q2, rfl, rq, m15⟩
      have s15 := (s8.old m14).old m15
      have wa15 := (wa9.get m14 (fun k => k)).get m15 (fun k => k)
      have ra15 := (ra9.get m14).get m15
      have rd15 := (rd9.get m14).get m15
      conv => whnf
      rw [decide_eq_false (show ¬ (((E).length : Int) > most) from Int.not_lt.2 hle)]
      conv => whnf
      refine (len34 s15).mono ?_
      rintro _ h16 ⟨eh, rfl⟩
      subst eh
      conv => whnf
      rw [bne_self_eq_false]
      conv => whnf
      refine ⟨fun env hk => ∃ (k : Nat) (zk : Int), zk = ((k + 1 : Nat) : Int) ∧ hk = h16 ∧ env = [(15, i64 zk), (14, .sl q2 (E).length), (10, i64 (j : Int)), (9, .mp (some g)), (7, .ptr (some (t, 0))), (0, i64 most), (1, .sl pa la), (2, .sl pd ld)],
        fun env _ => match get env 15 with
          | .int _ z => ((E.length : Int) - z).toNat
          | _ => 0, ⟨_, Forget.cons rfl (Forget.cons rfl (Forget.cons rfl (Forget.cons rfl (Forget.cons rfl (Forget.cons rfl (Forget.cons rfl (Forget.cons rfl (Forget.nil _)))))))), 0, _, rfl, rfl, rfl⟩, ?_⟩
      rintro _ hk ⟨k, zk, rfl, ek, rfl⟩
      subst ek
      conv => whnf
      refine br_mk (fun hk1 => ?_) (fun hk1 => ?_)
      rotate_left
      · conv => whnf
        rw [succ_i64 hd (by omega)]
        refine ⟨_, Forget.cons rfl (Forget.cons rfl (Forget.cons rfl (Forget.cons rfl (Forget.cons rfl (Forget.cons rfl (Forget.nil _)))))), ⟨j + 1, _, _, _, hd, rfl, s15, hle, wa15, ra15, rd15, rfl⟩, ?_⟩
        show ((la : Int) - ((j + 1 : Nat) : Int)).toNat < ((la : Int) - (j : Int)).toNat
        omega
      have hk1 : k + 1 < (E).length := by
        have : ((k + 1 : Nat) : Int) < ((E).length : Int) := by simpa using hk1
        omega
      have hk2 : k + 1 < (keys (E)).length := by rw [keys_length]; exact hk1
      have hlt := asc_at hasc hk2
      obtain ⟨u1, v1, g1, g2⟩ := slo_get rq.is (show k < (E).length by omega)
      obtain ⟨u2, v2, g3, g4⟩ := slo_get rq.is hk1
      conv => whnf
      refine ⟨[0, 1, 2, 3, 4, 5, 6, 7, 8, 9], [0, 0, 2, 7, 15, 0, 0, 96, 224, 511], by kernel_rfl, ?_⟩
      conv => whnf
      refine ⟨u1, v1, k, g1, by rw [wrap_i64 (by omega) (by omega)]; omega, by omega, ?_⟩
      conv => whnf
      refine ⟨_, g2, ?_⟩
      conv => whnf
      refine ⟨u2, v2, k + 1, g3, rfl, hk1, ?_⟩
      conv => whnf
      refine ⟨_, g4, ?_⟩
      conv => whnf
      refine br_mk (fun hge => ?_) (fun hge => ?_)
      · have : (keys (E)).getD k 0 ≥ (keys (E)).getD (k + 1) 0 := by simpa using hge
        omega
      conv => whnf
      have hw2 : IntKind.i64.wrap (((k + 1 : Nat) : Int) + 1) = ((k + 1 + 1 : Nat) : Int) := by
        rw [wrap_i64 (by omega) (by omega)]
        omega
      rw [hw2]
      refine ⟨_, Forget.cons rfl (Forget.cons rfl (Forget.cons rfl (Forget.cons rfl (Forget.cons rfl (Forget.cons rfl (Forget.cons rfl (Forget.cons rfl (Forget.nil _)))))))), ⟨k + 1, _, rfl, rfl, rfl⟩, ?_⟩
      show (((E).length : Int) - ((k + 1 + 1 : Nat) : Int)).toNat < (((E).length : Int) - ((k + 1 : Nat) : Int)).toNat
      omega
    conv => whnf
    refine ⟨i3, c3, j, f1, rfl, hi, ?_⟩
    conv => whnf
    refine ⟨_, f2, ?_⟩
    conv => whnf
    refine (round19 (m := 16) (by decide) (by decide) _ _).mono ?_
    rintro _ h11 ⟨eh, rfl⟩
    have e11 : h11 = h9 := eh
    have sA := s8
    have wA := wa9
    have rA := ra9
    have rD := rd9
    rw [← e11] at sA wA rA rD
    clear e11 eh f1 f2
    conv => whnf
    have mp := Mod.push none_ h11 (.row true 1 [i64 (xs.getD j 0 % 16), i64 p])
    refine (drop30 (p := some (h11.next, 0)) (n := 2) (xs := [xs.getD j 0 % 16, p]) (sA.old mp) (.inr ⟨fun _ => True, ?_, ?_⟩) (by decide)).mono ?_
    · rintro i ⟨o, e⟩ k
      injection e with e
      injection e with e _
      have := sA.lt
      omega
    · exact ⟨rfl, .inr ⟨h11.next, 0, _, _, rfl, H.obj_push_new h11 _, fun _ => rfl, Nat.le_refl 2, rfl⟩⟩
    rintro _ h12 ⟨q, rfl, en, s12, m12⟩
    conv => whnf
    refine (get32 s12 p c).mono ?_
    rintro _ h13 ⟨eh, rfl⟩
    subst eh
    rw [getV_gone c (by simp)]
    conv => whnf
    have wa12 := (wA.get mp (fun k => k)).get m12 (fun k => (Nat.ne_of_lt lt.2.1) (Eq.symm k))
    have ra12 := (rA.get mp).get m12
    have rd12 := (rD.get mp).get m12
    have le12 : (((E).filter fun x => decide (x.1 ∉ [xs.getD j 0 % 16, p])).length : Int) ≤ most := by
      have := List.length_filter_le (fun x : Int × (Nat × Int) => decide (x.1 ∉ [xs.getD j 0 % 16, p])) E
      have := hle
      omega
    have hsmE := s12.small
    have hasc : (keys (((E).filter fun x => decide (x.1 ∉ [xs.getD j 0 % 16, p])))).Pairwise (· < ·) := s12.asc
    refine (all37 s12).mono ?_
    rintro _ h14 ⟨q, rfl, en, m14⟩
    conv => whnf
    refine (peers36 en (by omega)).mono ?_
    rintro _ h15 ⟨q2, rfl, rq, m15⟩
    have s15 := (s12.old m14).old m15
    have wa15 := (wa12.get m14 (fun k => k)).get m15 (fun k => k)
    have ra15 := (ra12.get m14).get m15
    have rd15 := (rd12.get m14).get m15
    conv => whnf
    rw [decide_eq_false (show ¬ (((((E).filter fun x => decide (x.1 ∉ [xs.getD j 0 % 16, p]))).length : Int) > most) from Int.not_lt.2 le12)]
    conv => whnf
    refine (len34 s15).mono ?_
    rintro _ h16 ⟨eh, rfl⟩
    subst eh
    conv => whnf
    rw [bne_self_eq_false]
    conv => whnf
    refine ⟨fun env hk => ∃ (k : Nat) (zk : Int), zk = ((k + 1 : Nat) : Int) ∧ hk = h16 ∧ env = [(15, i64 zk), (14, .sl q2 (((E).filter fun x => decide (x.1 ∉ [xs.getD j 0 % 16, p]))).length), (10, i64 (j : Int)), (9, .mp (some g)), (7, .ptr (some (t, 0))), (0, i64 most), (1, .sl pa la), (2, .sl pd ld)],
      fun env _ => match get env 15 with
        | .int _ z => ((((E).filter fun x => decide (x.1 ∉ [xs.getD j 0 % 16, p])).length : Int) - z).toNat
        | _ => 0, ⟨_, Forget.cons rfl (Forget.cons rfl (Forget.cons rfl (Forget.cons rfl (Forget.cons rfl (Forget.cons rfl (Forget.cons rfl (Forget.cons rfl (Forget.nil _)))))))), 0, _, rfl, rfl, rfl⟩, ?_⟩
    rintro _ hk ⟨k, zk, rfl, ek, rfl⟩
    subst ek
    conv => whnf
    refine br_mk (fun hk1 => ?_) (fun hk1 => ?_)
    rotate_left
    · conv => whnf
      rw [succ_i64 hd (by omega)]
      refine ⟨_, Forget.cons rfl (Forget.cons rfl (Forget.cons rfl (Forget.cons rfl (Forget.cons rfl (Forget.cons rfl (Forget.nil _)))))), ⟨j + 1, _, _, _, hd, rfl, s15, le12, wa15, ra15, rd15, rfl⟩, ?_⟩
      show ((la : Int) - ((j + 1 : Nat) : Int)).toNat < ((la : Int) - (j : Int)).toNat
      omega
    have hk1 : k + 1 < (((E).filter fun x => decide (x.1 ∉ [xs.getD j 0 % 16, p]))).length := by
      have : ((k + 1 : Nat) : Int) < ((((E).filter fun x => decide (x.1 ∉ [xs.getD j 0 % 16, p]))).length : Int) := by simpa using hk1
      omega
    have hk2 : k + 1 < (keys (((E).filter fun x => decide (x.1 ∉ [xs.getD j 0 % 16, p])))).length := by rw [keys_length]; exact hk1
    have hlt := asc_at hasc hk2
    obtain ⟨u1, v1, g1, g2⟩ := slo_get rq.is (show k < (((E).filter fun x => decide (x.1 ∉ [xs.getD j 0 % 16, p]))).length by omega)
    obtain ⟨u2, v2, g3, g4⟩ := slo_get rq.is hk1
    conv => whnf
    refine ⟨[0, 1, 2, 3, 4, 5, 6, 7, 8, 9], [0, 0, 2, 7, 15, 0, 0, 96, 224, 511], by kernel_rfl, ?_⟩
    conv => whnf
    refine ⟨u1, v1, k, g1, by rw [wrap_i64 (by omega) (by omega)]; omega, by omega, ?_⟩
    conv => whnf
    refine ⟨_, g2, ?_⟩
    conv => whnf
    refine ⟨u2, v2, k + 1, g3, rfl, hk1, ?_⟩
    conv => whnf
    refine ⟨_, g4, ?_⟩
    conv => whnf
    refine br_mk (fun hge => ?_) (fun hge => ?_)
    · have : (keys (((E).filter fun x => decide (x.1 ∉ [xs.getD j 0 % 16, p])))).getD k 0 ≥ (keys (((E).filter fun x => decide (x.1 ∉ [xs.getD j 0 % 16, p])))).getD (k + 1) 0 := by simpa using hge
      omega
    conv => whnf
    have hw2 : IntKind.i64.wrap (((k + 1 : Nat) : Int) + 1) = ((k + 1 + 1 : Nat) : Int) := by
      rw [wrap_i64 (by omega) (by omega)]
      omega
    rw [hw2]
    refine ⟨_, Forget.cons rfl (Forget.cons rfl (Forget.cons rfl (Forget.cons rfl (Forget.cons rfl (Forget.cons rfl (Forget.cons rfl (Forget.cons rfl (Forget.nil _)))))))), ⟨k + 1, _, rfl, rfl, rfl⟩, ?_⟩
    show (((((E).filter fun x => decide (x.1 ∉ [xs.getD j 0 % 16, p]))).length : Int) - ((k + 1 + 1 : Nat) : Int)).toNat < (((((E).filter fun x => decide (x.1 ∉ [xs.getD j 0 % 16, p]))).length : Int) - ((k + 1 : Nat) : Int)).toNat
    omega
  · have hv : v = 0 := by simpa using hv
    rcases q9 with ⟨q9, _⟩ | ⟨_, G9, g9, s9⟩
    · exact absurd hv q9
    rw [hv] at vv
    have h1c : ¬ c ≤ (sget G p).getD 0 := fun q => by
      rw [if_pos q] at vv
      cases vv
    have h2c : ¬ (most ≤ (E.length : Int) ∧ (sget E p).isNone = true) := fun q => by
      rw [if_neg h1c, if_pos q] at vv
      cases vv
    have le9 : ((insS E p (ie, c)).length : Int) ≤ most := ins_room h2c hle
    obtain ⟨ms, w1, w2, w3, w4⟩ := wa9
    have hne : ∀ x ∈ ms, x.1 ≠ (p, c) := fun x hx e => by
      have := w4 x hx
      rw [e] at this
      exact h1c this
    have wn : pwf .i64 (p, c) := pwf_small (by omega) (by omega)
    conv => whnf
    refine ⟨_, ms, w1, w2, w3, wn, ?_⟩
    rw [pget_none hne]
    conv => whnf
    refine (get32 s9 p c).mono ?_
    rintro _ h10 ⟨eh, rfl⟩
    subst eh
    have gv : getV (insS E p (ie, c)) p c = eV (ie, c) := by
      rw [getV, insS_get st.asc, if_pos rfl]
      show (if c = c then eV (ie, c) else V.ptr none) = _
      rw [if_pos rfl]
    rw [gv]
    conv => whnf
    refine ⟨ms, w1, w2, w3, wn, ?_⟩
    rw [pput_none hne]
    conv => whnf
    have mw : Ab.Mod (one g) h10 (h10.set g (.map true (mpP .i64 (ms ++ [((p, c), .bool true)])))) := Mod.set rfl w1 rfl
    have s10 := s9.get mw (fun k => Nat.ne_of_lt lt.1 k) (fun k => Nat.ne_of_lt lt.2.1 k) (fun k => Nat.ne_of_lt lt.2.2 k)
    have wa10 : Was (h10.set g (.map true (mpP .i64 (ms ++ [((p, c), .bool true)])))) g G9 := by
      refine ⟨_, H.obj_set_same w1, ?_, fun x hx => ?_, fun x hx => ?_⟩
      · rw [List.map_append, List.nodup_append]
        refine ⟨w2, by simp, fun a ha b hb e => ?_⟩
        obtain ⟨x, hx, rfl⟩ := List.mem_map.1 ha
        have hb : b = (p, c) := by simpa using hb
        exact hne x hx (by rw [e, hb])
      · rcases List.mem_append.1 hx with hx | hx
        · exact w3 x hx
        · rw [List.mem_singleton.1 hx]; exact wn
      · rcases List.mem_append.1 hx with hx | hx
        · have := w4 x hx
          rw [g9]
          split
          · rename_i e
            rw [e] at this
            show x.1.2 ≤ c
            omega
          · exact this
        · rw [List.mem_singleton.1 hx, g9, if_pos rfl]
          exact Int.le_refl _
    have ra10 := ra9.get mw
    have rd10 := rd9.get mw
    by_cases hi : j < ld
    rotate_left
    · rw [decide_eq_false (show ¬ (j : Int) < (ld : Int) by omega)]
      conv => whnf
      have hsmE := s10.small
      have hasc : (keys ((insS E p (ie, c)))).Pairwise (· < ·) := s10.asc
      refine (all37 s10).mono ?_
      rintro _ h14 ⟨q, rfl, en, m14⟩
      conv => whnf
      refine (peers36 en (by omega)).mono ?_
      rintro _ h15 ⟨q2, rfl, rq, m15⟩
      have s15 := (s10.old m14).old m15
      have wa15 := (wa10.get m14 (fun k => k)).get m15 (fun k => k)
      have ra15 := (ra10.get m14).get m15
      have rd15 := (rd10.get m14).get m15
      conv => whnf
      rw [decide_eq_false (show ¬ ((((insS E p (ie, c))).length : Int) > most) from Int.not_lt.2 le9)]
      conv => whnf
      refine (len34 s15).mono ?_
      rintro _ h16 ⟨eh, rfl⟩
      subst eh
      conv => whnf
      rw [bne_self_eq_false]
      conv => whnf
      refine ⟨fun env hk => ∃ (k : Nat) (zk : Int), zk = ((k + 1 : Nat) : Int) ∧ hk = h16 ∧ env = [(15, i64 zk), (14, .sl q2 ((insS E p (ie, c))).length), (10, i64 (j : Int)), (9, .mp (some g)), (7, .ptr (some (t, 0))), (0, i64 most), (1, .sl pa la), (2, .sl pd ld)],
        fun env _ => match get env 15 with
          | .int _ z => (((insS E p (ie, c)).length : Int) - z).toNat
          | _ => 0, ⟨_, Forget.cons rfl (Forget.cons rfl (Forget.cons rfl (Forget.cons rfl (Forget.cons rfl (Forget.cons rfl (Forget.cons rfl (Forget.cons rfl (Forget.nil _)))))))), 0, _, rfl, rfl, rfl⟩, ?_⟩
      rintro _ hk ⟨k, zk, rfl, ek, rfl⟩
      subst ek
      conv => whnf
      refine br_mk (fun hk1 => ?_) (fun hk1 => ?_)
      rotate_left
      · conv => whnf
        rw [succ_i64 hd (by omega)]
        refine ⟨_, Forget.cons rfl (Forget.cons rfl (Forget.cons rfl (Forget.cons rfl (Forget.cons rfl (Forget.cons rfl (Forget.nil _)))))), ⟨j + 1, _, _, _, hd, rfl, s15, le9, wa15, ra15, rd15, rfl⟩, ?_⟩
        show ((la : Int) - ((j + 1 : Nat) : Int)).toNat < ((la : Int) - (j : Int)).toNat
        omega
      have hk1 : k + 1 < ((insS E p (ie, c))).length := by
        have : ((k + 1 : Nat) : Int) < (((insS E p (ie, c))).length : Int) := by simpa using hk1
        omega
      have hk2 : k + 1 < (keys ((insS E p (ie, c)))).length := by rw [keys_length]; exact hk1
      have hlt := asc_at hasc hk2
      obtain ⟨u1, v1, g1, g2⟩ := slo_get rq.is (show k < ((insS E p (ie, c))).length by omega)
      obtain ⟨u2, v2, g3, g4⟩ := slo_get rq.is hk1
      conv => whnf
      refine ⟨[0, 1, 2, 3, 4, 5, 6, 7, 8, 9], [0, 0, 2, 7, 15, 0, 0, 96, 224, 511], by kernel_rfl, ?_⟩
      conv => whnf
      refine ⟨u1, v1, k, g1, by rw [wrap_i64 (by omega) (by omega)]; omega, by omega, ?_⟩
      conv => whnf
      refine ⟨_, g2, ?_⟩
      conv => whnf
      refine ⟨u2, v2, k + 1, g3, rfl, hk1, ?_⟩
      conv => whnf
      refine ⟨_, g4, ?_⟩
      conv => whnf
      refine br_mk (fun hge => ?_) (fun hge => ?_)
      · have : (keys ((insS E p (ie, c)))).getD k 0 ≥ (keys ((insS E p (ie, c)))).getD (k + 1) 0 := by simpa using hge
        omega
      conv => whnf
      have hw2 : IntKind.i64.wrap (((k + 1 : Nat) : Int) + 1) = ((k + 1 + 1 : Nat) : Int) := by
        rw [wrap_i64 (by omega) (by omega)]
        omega
      rw [hw2]
      refine ⟨_, Forget.cons rfl (Forget.cons rfl (Forget.cons rfl (Forget.cons rfl (Forget.cons rfl (Forget.cons rfl (Forget.cons rfl (Forget.cons rfl (Forget.nil _)))))))), ⟨k + 1, _, rfl, rfl, rfl⟩, ?_⟩
      show ((((insS E p (ie, c))).length : Int) - ((k + 1 + 1 : Nat) : Int)).toNat < ((((insS E p (ie, c))).length : Int) - ((k + 1 : Nat) : Int)).toNat
      omega
    obtain ⟨i3, c3, f1, f2⟩ := slo_get rd10.is hi
    rw [decide_eq_true (show (j : Int) < (ld : Int) by omega)]
    conv => whnf
    refine ⟨i3, c3, j, f1, rfl, hi, ?_⟩
    conv => whnf
    refine ⟨_, f2, ?_⟩
    conv => whnf
    refine ⟨by decide, ?_⟩
    conv => whnf
    refine br_mk (fun hx => ?_) (fun hx => ?_)
    rotate_left
    · conv => whnf
      have hsmE := s10.small
      have hasc : (keys ((insS E p (ie, c)))).Pairwise (· < ·) := s10.asc
      refine (all37 s10).mono ?_
      rintro _ h14 ⟨q, rfl, en, m14⟩
      conv => whnf
      refine (peers36 en (by omega)).mono ?_
      rintro _ h15 ⟨q2, rfl, rq, m15⟩
      have s15 := (s10.old m14).old m15
      have wa15 := (wa10.get m14 (fun k => k)).get m15 (fun k => k)
      have ra15 := (ra10.get m14).get m15
      have rd15 := (rd10.get m14).get m15
      conv => whnf
      rw [decide_eq_false (show ¬ ((((insS E p (ie, c))).length : Int) > most) from Int.not_lt.2 le9)]
      conv => whnf
      refine (len34 s15).mono ?_
      rintro _ h16 ⟨eh, rfl⟩
      subst eh
      conv => whnf
      rw [bne_self_eq_false]
      conv => whnf
      refine ⟨fun env hk => ∃ (k : Nat) (zk : Int), zk = ((k + 1 : Nat) : Int) ∧ hk = h16 ∧ env = [(15, i64 zk), (14, .sl q2 ((insS E p (ie, c))).length), (10, i64 (j : Int)), (9, .mp (some g)), (7, .ptr (some (t, 0))), (0, i64 most), (1, .sl pa la), (2, .sl pd ld)],
        fun env _ => match get env 15 with
          | .int _ z => (((insS E p (ie, c)).length : Int) - z).toNat
          | _ => 0, ⟨_, Forget.cons rfl (Forget.cons rfl (Forget.cons rfl (Forget.cons rfl (Forget.cons rfl (Forget.cons rfl (Forget.cons rfl (Forget.cons rfl (Forget.nil _)))))))), 0, _, rfl, rfl, rfl⟩, ?_⟩
      rintro _ hk ⟨k, zk, rfl, ek, rfl⟩
      subst ek
      conv => whnf
      refine br_mk (fun hk1 => ?_) (fun hk1 => ?_)
      rotate_left
      · conv => whnf
        rw [succ_i64 hd (by omega)]
        refine ⟨_, Forget.cons rfl (Forget.cons rfl (Forget.cons rfl (Forget.cons rfl (Forget.cons rfl (Forget.cons rfl (Forget.nil _)))))), ⟨j + 1, _, _, _, hd, rfl, s15, le9, wa15, ra15, rd15, rfl⟩, ?_⟩
        show ((la : Int) - ((j + 1 : Nat) : Int)).toNat < ((la : Int) - (j : Int)).toNat
        omega
      have hk1 : k + 1 < ((insS E p (ie, c))).length := by
        have : ((k + 1 : Nat) : Int) < (((insS E p (ie, c))).length : Int) := by simpa using hk1
        omega
      have hk2 : k + 1 < (keys ((insS E p (ie, c)))).length := by rw [keys_length]; exact hk1
      have hlt := asc_at hasc hk2
      obtain ⟨u1, v1, g1, g2⟩ := slo_get rq.is (show k < ((insS E p (ie, c))).length by omega)
      obtain ⟨u2, v2, g3, g4⟩ := slo_get rq.is hk1
      conv => whnf
      refine ⟨[0, 1, 2, 3, 4, 5, 6, 7, 8, 9], [0, 0, 2, 7, 15, 0, 0, 96, 224, 511], by kernel_rfl, ?_⟩
      conv => whnf
      refine ⟨u1, v1, k, g1, by rw [wrap_i64 (by omega) (by omega)]; omega, by omega, ?_⟩
      conv => whnf
      refine ⟨_, g2, ?_⟩
      conv => whnf
      refine ⟨u2, v2, k + 1, g3, rfl, hk1, ?_⟩
      conv => whnf
      refine ⟨_, g4, ?_⟩
      conv => whnf
      refine br_mk (fun hge => ?_) (fun hge => ?_)
      · have : (keys ((insS E p (ie, c)))).getD k 0 ≥ (keys ((insS E p (ie, c)))).getD (k + 1) 0 := by simpa using hge
        omega
      conv => whnf
      have hw2 : IntKind.i64.wrap (((k + 1 : Nat) : Int) + 1) = ((k + 1 + 1 : Nat) : Int) := by
        rw [wrap_i64 (by omega) (by omega)]
        omega
      rw [hw2]
      refine ⟨_, Forget.cons rfl (Forget.cons rfl (Forget.cons rfl (Forget.cons rfl (Forget.cons rfl (Forget.cons rfl (Forget.cons rfl (Forget.cons rfl (Forget.nil _)))))))), ⟨k + 1, _, rfl, rfl, rfl⟩, ?_⟩
      show ((((insS E p (ie, c))).length : Int) - ((k + 1 + 1 : Nat) : Int)).toNat < ((((insS E p (ie, c))).length : Int) - ((k + 1 : Nat) : Int)).toNat
      omega
    conv => whnf
    refine ⟨i3, c3, j, f1, rfl, hi, ?_⟩
    conv => whnf
    refine ⟨_, f2, ?_⟩
    conv => whnf
    refine (round19 (m := 16) (by decide) (by decide) _ _).mono ?_
    rintro _ h11 ⟨eh, rfl⟩
    have e11 : h11 = (h10.set g (.map true (mpP .i64 (ms ++ [((p, c), .bool true)])))) := eh
    have sA := s10
    have wA := wa10
    have rA := ra10
    have rD := rd10
    rw [← e11] at sA wA rA rD
    clear e11 eh f1 f2
    conv => whnf
    have mp := Mod.push none_ h11 (.row true 1 [i64 (xs.getD j 0 % 16), i64 p])
    refine (drop30 (p := some (h11.next, 0)) (n := 2) (xs := [xs.getD j 0 % 16, p]) (sA.old mp) (.inr ⟨fun _ => True, ?_, ?_⟩) (by decide)).mono ?_
    · rintro i ⟨o, e⟩ k
      injection e with e
      injection e with e _
      have := sA.lt
      omega
    · exact ⟨rfl, .inr ⟨h11.next, 0, _, _, rfl, H.obj_push_new h11 _, fun _ => rfl, Nat.le_refl 2, rfl⟩⟩
    rintro _ h12 ⟨q, rfl, en, s12, m12⟩
    conv => whnf
    refine (get32 s12 p c).mono ?_
    rintro _ h13 ⟨eh, rfl⟩
    subst eh
    rw [getV_gone c (by simp)]
    conv => whnf
    have wa12 := (wA.get mp (fun k => k)).get m12 (fun k => (Nat.ne_of_lt lt.2.1) (Eq.symm k))
    have ra12 := (rA.get mp).get m12
    have rd12 := (rD.get mp).get m12
    have le12 : ((((insS E p (ie, c))).filter fun x => decide (x.1 ∉ [xs.getD j 0 % 16, p])).length : Int) ≤ most := by
      have := List.length_filter_le (fun x : Int × (Nat × Int) => decide (x.1 ∉ [xs.getD j 0 % 16, p])) (insS E p (ie, c))
      have := le9
      omega
    have hsmE := s12.small
    have hasc : (keys ((((insS E p (ie, c))).filter fun x => decide (x.1 ∉ [xs.getD j 0 % 16, p])))).Pairwise (· < ·) := s12.asc
    refine (all37 s12).mono ?_
    rintro _ h14 ⟨q, rfl, en, m14⟩
    conv => whnf
    refine (peers36 en (by omega)).mono ?_
    rintro _ h15 ⟨q2, rfl, rq, m15⟩
    have s15 := (s12.old m14).old m15
    have wa15 := (wa12.get m14 (fun k => k)).get m15 (fun k => k)
    have ra15 := (ra12.get m14).get m15
    have rd15 := (rd12.get m14).get m15
    conv => whnf
    rw [decide_eq_false (show ¬ ((((((insS E p (ie, c))).filter fun x => decide (x.1 ∉ [xs.getD j 0 % 16, p]))).length : Int) > most) from Int.not_lt.2 le12)]
    conv => whnf
    refine (len34 s15).mono ?_
    rintro _ h16 ⟨eh, rfl⟩
    subst eh
    conv => whnf
    rw [bne_self_eq_false]
    conv => whnf
    refine ⟨fun env hk => ∃ (k : Nat) (zk : Int), zk = ((k + 1 : Nat) : Int) ∧ hk = h16 ∧ env = [(15, i64 zk), (14, .sl q2 ((((insS E p (ie, c))).filter fun x => decide (x.1 ∉ [xs.getD j 0 % 16, p]))).length), (10, i64 (j : Int)), (9, .mp (some g)), (7, .ptr (some (t, 0))), (0, i64 most), (1, .sl pa la), (2, .sl pd ld)],
      fun env _ => match get env 15 with
        | .int _ z => (((((insS E p (ie, c))).filter fun x => decide (x.1 ∉ [xs.getD j 0 % 16, p])).length : Int) - z).toNat
        | _ => 0, ⟨_, Forget.cons rfl (Forget.cons rfl (Forget.cons rfl (Forget.cons rfl (Forget.cons rfl (Forget.cons rfl (Forget.cons rfl (Forget.cons rfl (Forget.nil _)))))))), 0, _, rfl, rfl, rfl⟩, ?_⟩
    rintro _ hk ⟨k, zk, rfl, ek, rfl⟩
    subst ek
    conv => whnf
    refine br_mk (fun hk1 => ?_) (fun hk1 => ?_)
    rotate_left
    · conv => whnf
      rw [succ_i64 hd (by omega)]
      refine ⟨_, Forget.cons rfl (Forget.cons rfl (Forget.cons rfl (Forget.cons rfl (Forget.cons rfl (Forget.cons rfl (Forget.nil _)))))), ⟨j + 1, _, _, _, hd, rfl, s15, le12, wa15, ra15, rd15, rfl⟩, ?_⟩
      show ((la : Int) - ((j + 1 : Nat) : Int)).toNat < ((la : Int) - (j : Int)).toNat
      omega
    have hk1 : k + 1 < ((((insS E p (ie, c))).filter fun x => decide (x.1 ∉ [xs.getD j 0 % 16, p]))).length := by
      have : ((k + 1 : Nat) : Int) < (((((insS E p (ie, c))).filter fun x => decide (x.1 ∉ [xs.getD j 0 % 16, p]))).length : Int) := by simpa using hk1
      omega
    have hk2 : k + 1 < (keys ((((insS E p (ie, c))).filter fun x => decide (x.1 ∉ [xs.getD j 0 % 16, p])))).length := by rw [keys_length]; exact hk1
    have hlt := asc_at hasc hk2
    obtain ⟨u1, v1, g1, g2⟩ := slo_get rq.is (show k < ((((insS E p (ie, c))).filter fun x => decide (x.1 ∉ [xs.getD j 0 % 16, p]))).length by omega)
    obtain ⟨u2, v2, g3, g4⟩ := slo_get rq.is hk1
    conv => whnf
    refine ⟨[0, 1, 2, 3, 4, 5, 6, 7, 8, 9], [0, 0, 2, 7, 15, 0, 0, 96, 224, 511], by kernel_rfl, ?_⟩
    conv => whnf
    refine ⟨u1, v1, k, g1, by rw [wrap_i64 (by omega) (by omega)]; omega, by omega, ?_⟩
    conv => whnf
    refine ⟨_, g2, ?_⟩
    conv => whnf
    refine ⟨u2, v2, k + 1, g3, rfl, hk1, ?_⟩
    conv => whnf
    refine ⟨_, g4, ?_⟩
    conv => whnf
    refine br_mk (fun hge => ?_) (fun hge => ?_)
    · have : (keys ((((insS E p (ie, c))).filter fun x => decide (x.1 ∉ [xs.getD j 0 % 16, p])))).getD k 0 ≥ (keys ((((insS E p (ie, c))).filter fun x => decide (x.1 ∉ [xs.getD j 0 % 16, p])))).getD (k + 1) 0 := by simpa using hge
      omega
    conv => whnf
    have hw2 : IntKind.i64.wrap (((k + 1 : Nat) : Int) + 1) = ((k + 1 + 1 : Nat) : Int) := by
      rw [wrap_i64 (by omega) (by omega)]
      omega
    rw [hw2]
    refine ⟨_, Forget.cons rfl (Forget.cons rfl (Forget.cons rfl (Forget.cons rfl (Forget.cons rfl (Forget.cons rfl (Forget.cons rfl (Forget.cons rfl (Forget.nil _)))))))), ⟨k + 1, _, rfl, rfl, rfl⟩, ?_⟩
    show ((((((insS E p (ie, c))).filter fun x => decide (x.1 ∉ [xs.getD j 0 % 16, p]))).length : Int) - ((k + 1 + 1 : Nat) : Int)).toNat < ((((((insS E p (ie, c))).filter fun x => decide (x.1 ∉ [xs.getD j 0 % 16, p]))).length : Int) - ((k + 1 : Nat) : Int)).toNat
    omega
end Go.Proofs.Ytoljllfbabahpaa
