/- ShutsLast: its walk. -/
import Derived.Test.YtpefdmidfllhoaaQ12
set_option linter.unusedVariables false
namespace Go.Proofs.Ytpefdmidfllhoaa
open Go Go.Ab
theorem set1 {U : List Int} {u e : Int} (h0 : 0 ≤ e) (h1 : e < U.length) : setV U u [e] = U.set e.toNat u := by
  have := setV_snoc U u [] h0 h1
  rw [setV_nil, List.nil_append] at this
  exact this.symm
theorem in1 {n : Nat} {e : Int} (h0 : 0 ≤ e) (h1 : e < n) : inE n [e] = true := inE_iff.2 (fun x hx => by
  obtain rfl : x = e := by simpa using hx
  exact ⟨h0, h1⟩)
theorem out1 {U : List Int} {u e : Int} (h0 : 0 ≤ e) (h1 : e < U.length) : outV U u [e] = if turnsB U u e then [e] else [] := by
  refine asc_ext (pl_asc _ _) (by split <;> simp) fun x => ?_
  rw [outV, pl_mem]
  constructor
  · rintro ⟨k, hk, hb, rfl⟩
    simp only [Bool.and_eq_true, decide_eq_true_eq] at hb
    obtain ⟨b1, b2⟩ := hb
    have b1 : (k : Int) = e := by simpa using b1
    rw [b1] at b2 ⊢
    rw [if_pos b2]
    simp
  · intro hx
    split at hx
    · rename_i hb
      obtain rfl : x = e := by simpa using hx
      refine ⟨x.toNat, by omega, ?_, by omega⟩
      rw [show ((x.toNat : Nat) : Int) = x by omega, hb]
      simp
    · simp at hx
theorem out1_len {U : List Int} {u e : Int} (h0 : 0 ≤ e) (h1 : e < U.length) : (((outV U u [e]).length : Int) == 1) = turnsB U u e := by
  rw [out1 h0 h1]
  cases turnsB U u e <;> rfl
theorem turns_open (U : List Int) (e : Int) : turnsB U 0 e = decide (0 < U.getD e.toNat 0) := by
  rw [turnsB, decide_eq_false (show ¬ (0 : Int) < 0 by omega)]
  cases decide (0 < U.getD e.toNat 0) <;> rfl
theorem turns_close (U : List Int) {u : Int} (hu : 0 < u) (e : Int) : turnsB U u e = !decide (0 < U.getD e.toNat 0) := by
  rw [turnsB, decide_eq_true hu]
  cases decide (0 < U.getD e.toNat 0) <;> rfl
theorem ints_set (k : IntKind) (xs : List Int) (j : Nat) (v : Int) : (ints k xs).set j (.int k v) = ints k (xs.set j v) := by simp [ints, List.map_set]
theorem pair_cell {h : H} {p : Option (Nat × Nat)} {n : Nat} {ps : List (Int × Int)} (o : RoSl h p n 2 (pairs .i64 ps)) {j : Nat} (hj : j < n) :
    ∃ i c, p = some (i, c) ∧ Cell h i (c + j * 2 + 0 * 1) (i64 (ps.getD j (0, 0)).1) ∧ Cell h i (c + j * 2 + 1 * 1) (i64 (ps.getD j (0, 0)).2) := by
  have hl := o.1
  rw [pairs_length] at hl
  obtain ⟨i, c, rfl⟩ := o.some (by omega)
  obtain ⟨h1, h2⟩ := pairs_get0 .i64 ps j (by omega)
  refine ⟨i, c, rfl, ?_, ?_⟩
  · have := o.cell h1
    rw [show c + j * 2 + 0 * 1 = c + j * 2 by omega]
    exact this
  · have := o.cell h2
    rw [show c + j * 2 + 1 * 1 = c + (j * 2 + 1) by omega]
    exact this
/-- how a number of 8 places lies in memory -/
theorem put8 {h : H} {a n : Nat} {W : List Int} (hb : h.obj a = some (.row true n (ints .i64 W))) (j : Nat) (v : Int) : (h.set a (.row true n (splice (ints .i64 W) (0 + j * 1) [i64 v]))).obj a = some (.row true n (ints .i64 (W.set j v))) ∧ Ab.Mod (one a) h (h.set a (.row true n (splice (ints .i64 W) (0 + j * 1) [i64 v]))) := by
  refine ⟨?_, Mod.set rfl hb rfl⟩
  rw [H.obj_set_same hb, splice_one, ints_set, show 0 + j * 1 = j by omega]
/-- what was closed is, or lapses at now -/
def Gt (now : Int) (U : List Int) : Prop := ∀ k, U.getD k 0 = 0 ∨ now ≤ U.getD k 0
theorem Gt.pos {now : Int} {U : List Int} (g : Gt now U) (h : 0 ≤ now) : Pos U := fun k => by
  rcases g k with e | e <;> omega
theorem Gt.set {now : Int} {U : List Int} (g : Gt now U) {v : Int} (hv : v = 0 ∨ now ≤ v) (j : Nat) : Gt now (U.set j v) := fun k => by
  by_cases hj : j < U.length
  · rw [getD_set_ _ _ _ _ hj]
    split
    · exact hv
    · exact g k
  · rw [List.set_eq_of_length_le (by omega)]
    exact g k
def atB (U : List Int) (now : Int) (k : Nat) : Bool := U.getD k 0 == now
theorem lapse_at {now : Int} {U : List Int} (g : Gt now U) (hn : 1 ≤ now) : lapseV U now = pl U.length (atB U now) := pl_cong fun k hk => by
  rw [atB]
  by_cases e : U.getD k 0 = now
  · rw [e, decide_eq_true (by omega), decide_eq_true (by omega)]
    simp
  · have := g k
    rw [show (U.getD k 0 == now) = false from beq_false_of_ne e]
    by_cases h0 : 0 < U.getD k 0
    · rw [decide_eq_true h0, decide_eq_false (by omega)]
      rfl
    · rw [decide_eq_false h0]
      rfl
/-- what the law has, e places on -/
def stepW (U : List Int) (now : Int) (e : Nat) : List Int := setV U 0 (pl e (atB U now))
theorem stepW_get (U : List Int) (now : Int) (e : Nat) {k : Nat} (hk : k < U.length) : (stepW U now e).getD k 0 = if k < e ∧ U.getD k 0 = now then 0 else U.getD k 0 := by
  rw [stepW, setV_get _ _ _ hk]
  by_cases h : k < e ∧ U.getD k 0 = now
  · rw [if_pos h, if_pos (pl_mem.2 ⟨k, h.1, by rw [atB, h.2]; simp, rfl⟩)]
  · rw [if_neg h, if_neg]
    intro hm
    obtain ⟨j, h1, h2, h3⟩ := pl_mem.1 hm
    obtain rfl : k = j := by omega
    exact h ⟨h1, by simpa [atB] using h2⟩
theorem stepW_len (U : List Int) (now : Int) (e : Nat) : (stepW U now e).length = U.length := setV_length _ _ _
theorem pl_at {n e : Nat} {F : Nat → Bool} (h : e < n) (hF : F e = true) : (pl n F).getD (pl e F).length 0 = e ∧ (pl e F).length < (pl n F).length := by
  induction n with
  | zero => omega
  | succ n ih =>
    rw [pl_succ]
    rcases Nat.lt_or_ge e n with h1 | h1
    · obtain ⟨a, b⟩ := ih h1
      refine ⟨?_, by rw [List.length_append]; omega⟩
      rw [List.getD_eq_getElem?_getD, List.getElem?_append_left b, ← List.getD_eq_getElem?_getD]
      exact a
    · obtain rfl : e = n := by omega
      rw [if_pos hF]
      refine ⟨?_, by simp⟩
      rw [List.getD_eq_getElem?_getD, List.getElem?_append_right (Nat.le_refl _)]
      simp
theorem closed_at {U : List Int} {now : Int} (g : Gt now U) (hn : 1 ≤ now) {e : Nat} (he : e < U.length) : decide (0 < (setV U 0 (pl U.length (atB U now))).getD e 0) = decide ((stepW U now (e + 1)).getD e 0 > now) := by
  have h1 : (setV U 0 (pl U.length (atB U now))).getD e 0 = _ := stepW_get U now U.length he
  rw [h1, stepW_get U now (e + 1) he]
  refine decide_eq_decide.2 ?_
  have := g e
  by_cases h : U.getD e 0 = now
  · rw [if_pos ⟨he, h⟩, if_pos ⟨by omega, h⟩]
    omega
  · rw [if_neg (fun k => h k.2), if_neg (fun k => h k.2)]
    omega
theorem Gt.next {U : List Int} {now : Int} (g : Gt now U) : Gt (now + 1) (stepW U now U.length) := fun k => by
  by_cases hk : k < U.length
  · rw [stepW_get U now _ hk]
    have := g k
    by_cases h : U.getD k 0 = now
    · rw [if_pos ⟨hk, h⟩]
      exact .inl rfl
    · rw [if_neg (fun k => h k.2)]
      omega
  · rw [List.getD_eq_getElem?_getD, List.getElem?_eq_none (by rw [stepW_len]; omega)]
    exact .inl rfl
theorem stepW_zero (U : List Int) (now : Int) : stepW U now 0 = U := setV_nil U 0
theorem stepW_succ {U : List Int} {now : Int} {e : Nat} (he : e < U.length) : stepW U now (e + 1) = if U.getD e 0 = now then (stepW U now e).set e 0 else stepW U now e := by
  rw [stepW, pl_succ]
  by_cases h : U.getD e 0 = now
  · rw [if_pos (by rw [atB, h]; simp), if_pos h]
    have := setV_snoc U 0 (pl e (atB U now)) (e := (e : Int)) (by omega) (by omega)
    rw [show ((e : Int)).toNat = e by omega] at this
    rw [stepW, this]
  · rw [if_neg (by rw [atB, beq_false_of_ne h]; simp), if_neg h, List.append_nil]
    rfl
theorem nuls_zero (n k : Nat) : (List.replicate n (0 : Int)).getD k 0 = 0 := by
  rw [List.getD_eq_getElem?_getD, List.getElem?_replicate]
  split <;> rfl
theorem shuts12 {h : H} {pl0 : Option (Nat × Nat)} {m : Nat} {ps : List (Int × Int)} (ro : RoSl h pl0 m 2 (pairs .i64 ps)) (ticks opn : Int) : ACalls Try.prog 12 [.sl pl0 m, i64 ticks, i64 opn] h (fun r _ => r = .bool true) := by
  refine call_ Try.func12 rfl rfl (by kernel_rfl) ?_
  conv => whnf
  have aw : ∀ (h1 : H), ACalls Try.prog 43 [] h1 (fun r _ => r = .bool true) := fun h1 => awake43 h1
  refine br_mk (fun ha => ?_) (fun ha => ?_)
  · conv => whnf
    refine (aw h).mono ?_
    rintro _ h1 rfl
    conv => whnf
  conv => whnf
  have ha : m ≤ 30 := by
    have : ¬ (m : Int) > 30 := by simpa using ha
    omega
  refine br_mk (fun hb => ?_) (fun hb => ?_)
  · conv => whnf
    refine (aw h).mono ?_
    rintro _ h1 rfl
    conv => whnf
  conv => whnf
  have hb : 0 ≤ ticks := by
    have : ¬ ticks < 0 := by simpa using hb
    omega
  refine br_mk (fun hc => ?_) (fun hc => ?_)
  · conv => whnf
    refine (aw h).mono ?_
    rintro _ h1 rfl
    conv => whnf
  conv => whnf
  have hc : ticks ≤ 100 := by
    have : ¬ ticks > 100 := by simpa using hc
    omega
  refine (new44 h 8).mono ?_
  rintro _ h1 q
  obtain ⟨g, p, rfl, s1, _, m1⟩ := new_yes q rfl
  clear q
  have s1 : St h1 g p [0, 0, 0, 0, 0, 0, 0, 0] := s1
  have ro := ro.get m1
  conv => whnf
  have mp := Mod.push none_ h1 (.row true 8 (ints .i64 [0, 0, 0, 0, 0, 0, 0, 0]))
  have b0 : (h1.push (.row true 8 (ints .i64 [0, 0, 0, 0, 0, 0, 0, 0]))).obj h1.next = some (.row true 8 (ints .i64 [0, 0, 0, 0, 0, 0, 0, 0])) := H.obj_push_new _ _
  have hap : ∀ i, foot g p i → i ≠ h1.next := fun i k => by
    have := s1.lt i k
    omega
  have sp := s1.old mp (fun _ _ k => k)
  have ro := ro.get mp
  clear s1 m1 mp
  obtain ⟨a, hae⟩ : ∃ a, a = h1.next := ⟨_, rfl⟩
  rw [← hae] at b0 hap ⊢
  refine ⟨fun env hh => ∃ (j : Nat) (z : Int) (U : List Int), j ≤ m ∧ z = j ∧ Gt 1 U ∧ U.length = 8 ∧ St hh g p U ∧ hh.obj a = some (.row true 8 (ints .i64 U)) ∧ RoSl hh pl0 m 2 (pairs .i64 ps) ∧ env = [(9, i64 z), (0, .sl pl0 m), (7, .ptr (some (g, 0))), (8, .ptr (some (a, 0))), (1, i64 ticks), (2, i64 opn)],
    fun env _ => match get env 9 with
      | .int _ z => (m - z).toNat
      | _ => 0, ⟨_, Forget.cons rfl (Forget.cons rfl (Forget.cons rfl (Forget.cons rfl (Forget.cons rfl (Forget.cons rfl (Forget.nil _)))))), 0, _, [0, 0, 0, 0, 0, 0, 0, 0], Nat.zero_le _, rfl, (fun k => .inl (nuls_zero 8 k)), rfl, sp, b0, ro, rfl⟩, ?_⟩
  clear sp b0 ro
  rintro _ hh ⟨j, z, U, hj, rfl, gU, hUl, sp, bx, ro, rfl⟩
  conv => whnf
  refine br_mk (fun hd => ?_) (fun hd => ?_)
  · conv => whnf
    have hd : j < m := by simpa using hd
    refine ⟨[0, 1, 2, 3, 4, 6, 7, 8, 9, 10, 5, 11, 12, 13, 14], [0, 0, 3, 7, 15, 31, 0, 0, 192, 448, 960, 2047, 4095, 4095, 16383], by kernel_rfl, ?_⟩
    conv => whnf
    obtain ⟨i1, c1, k1, k2, k3⟩ := pair_cell ro hd
    refine ⟨i1, c1, j, k1, rfl, hd, ?_⟩
    conv => whnf
    refine ⟨0, rfl, by decide, ?_⟩
    conv => whnf
    refine ⟨_, k2, ?_⟩
    conv => whnf
    refine ⟨i1, c1, j, k1, rfl, hd, ?_⟩
    conv => whnf
    refine ⟨1, rfl, by decide, ?_⟩
    conv => whnf
    refine ⟨_, k3, ?_⟩
    conv => whnf
    refine (round19 (m := 8) (by decide) (by decide) _ _).mono ?_
    rintro _ h2 ⟨eh, rfl⟩
    subst eh
    conv => whnf
    refine ⟨⟨_, k3, rfl⟩, ?_⟩
    conv => whnf
    refine (round19 (m := 80) (by decide) (by decide) _ _).mono ?_
    rintro _ h2 ⟨eh, rfl⟩
    subst eh
    conv => whnf
    have he0 := Int.emod_nonneg (ps.getD j (0, 0)).1 (show (8 : Int) ≠ 0 by decide)
    have he1 := Int.emod_lt_of_pos (ps.getD j (0, 0)).1 (show (0 : Int) < 8 by decide)
    have hu0 := Int.emod_nonneg (ps.getD j (0, 0)).2 (show (80 : Int) ≠ 0 by decide)
    have hu1 := Int.emod_lt_of_pos (ps.getD j (0, 0)).2 (show (0 : Int) < 80 by decide)
    have hw : IntKind.i64.wrap (1 + (ps.getD j (0, 0)).2 % 80) = 1 + (ps.getD j (0, 0)).2 % 80 := wrap_i64 (by omega) (by omega)
    rw [hw]
    clear hw k1 k2 k3
    generalize (ps.getD j (0, 0)).1 % 8 = e at he0 he1 ⊢
    obtain ⟨u, hue, hu2, hu3⟩ : ∃ u, u = 1 + (ps.getD j (0, 0)).2 % 80 ∧ 1 ≤ u ∧ u ≤ 80 := ⟨_, rfl, by omega, by omega⟩
    rw [← hue]
    obtain ⟨lr, nr⟩ := laid_row h2 [e]
    refine (close46r (sp.old nr (fun _ _ k => k)) lr (by simp) (by omega) u).mono (fun r h4 c => ?_)
    obtain ⟨q4, rfl, r4, sp, m4⟩ := c.val true (outV U u [e]) (U.set e.toNat u) (by
      rw [okC, inR, decide_eq_true hu2, decide_eq_true (show u ≤ 1099511627776 by omega), in1 he0 (by omega)]
      rfl) rfl (set1 he0 (by omega))
    clear c
    have bx := m4.get (nr.get bx (.inl (fun k => k))) (.inl (fun k => hap _ (.inr k) rfl))
    have ro := (ro.get nr).get m4
    conv => whnf
    refine ⟨_, rfl, ?_⟩
    conv => whnf
    refine ⟨_, rfl, ?_⟩
    conv => whnf
    refine (closed57 sp e).mono ?_
    rintro _ h5 ⟨eh, rfl⟩
    subst eh
    have hcl : clB (U.set e.toNat u) e = true := by
      rw [clB, decide_eq_true he0, List.length_set, decide_eq_true (show e < (U.length : Int) by omega), getD_set_ _ _ _ _ (by omega), if_pos rfl, decide_eq_true (by omega)]
      rfl
    rw [hcl]
    conv => whnf
    refine ⟨e.toNat, by omega, by omega, ?_⟩
    conv => whnf
    obtain ⟨b1, b2⟩ := put8 bx e.toNat u
    refine ⟨_, _, bx, by rw [ints_length]; show 0 + e.toNat * 1 + 1 ≤ _; omega, ?_⟩
    conv => whnf
    exact ⟨_, Forget.cons rfl (Forget.cons rfl (Forget.cons rfl (Forget.cons rfl (Forget.cons rfl (Forget.cons rfl (Forget.nil _)))))), ⟨j + 1, _, U.set e.toNat u, hd, succ_i64 hd (by omega), gU.set (.inr hu2) _, by rw [List.length_set]; exact hUl, sp.get b2 (fun i h1 h2 => hap i h1 h2), b1, ro.get b2, rfl⟩, mu_lt hd (by omega)⟩
  conv => whnf
  clear hd ro
  refine ⟨fun env hh => ∃ (now : Int) (U : List Int), 1 ≤ now ∧ now ≤ ticks + 1 ∧ Gt now U ∧ U.length = 8 ∧ St hh g p U ∧ hh.obj a = some (.row true 8 (ints .i64 U)) ∧ env = [(14, i64 now), (7, .ptr (some (g, 0))), (8, .ptr (some (a, 0))), (1, i64 ticks), (2, i64 opn)],
    fun env _ => match get env 14 with
      | .int _ z => (ticks + 1 - z).toNat
      | _ => 0, ⟨_, Forget.cons rfl (Forget.cons rfl (Forget.cons rfl (Forget.cons rfl (Forget.cons rfl (Forget.nil _))))), 1, U, by decide, by omega, gU, hUl, sp, bx, rfl⟩, ?_⟩
  clear sp bx gU hUl
  rintro _ hh2 ⟨now, U, hn1, hn2, gU, hUl, sp, bx, rfl⟩
  conv => whnf
  refine br_mk (fun hd => ?_) (fun hd => ?_)
  · conv => whnf
    have hd : now ≤ ticks := by simpa using hd
    refine br_mk (fun ho => ?_) (fun ho => ?_)
    · conv => whnf
      have he0 : 0 ≤ now.tmod 8 := Int.tmod_nonneg _ (by omega)
      have he1 : now.tmod 8 < 8 := Int.tmod_lt_of_pos _ (by decide)
      refine ⟨by decide, ?_⟩
      conv => whnf
      obtain ⟨e, hee⟩ : ∃ e, e = now.tmod 8 := ⟨_, rfl⟩
      rw [← hee] at he0 he1 ⊢
      obtain ⟨lr, nr⟩ := laid_row hh2 [e]
      refine (open48r (sp.old nr (fun _ _ k => k)) lr (by simp) (by omega)).mono (fun r h4 c => ?_)
      obtain ⟨q4, rfl, r4, sp, m4⟩ := c.val true (outV U 0 [e]) (U.set e.toNat 0) (in1 he0 (by omega)) rfl (set1 he0 (by omega))
      clear c
      have bx := m4.get (nr.get bx (.inl (fun k => k))) (.inl (fun k => hap _ (.inr k) rfl))
      conv => whnf
      refine ⟨_, rfl, ?_⟩
      conv => whnf
      refine ⟨_, rfl, ?_⟩
      conv => whnf
      refine ⟨by decide, ?_⟩
      conv => whnf
      have hen : e.toNat < 8 := by omega
      refine ⟨e.toNat, by omega, hen, ?_⟩
      conv => whnf
      have ce : (ints .i64 U)[0 + e.toNat * 1]? = some (i64 (U.getD e.toNat 0)) := by
        rw [show 0 + e.toNat * 1 = e.toNat by omega]
        exact ints_get (by omega)
      refine ⟨_, Cell.mk bx ce, ?_⟩
      conv => whnf
      refine br_mk (fun hz => ?_) (fun hz => ?_)
      · rw [out1_len he0 (by omega), turns_open] at hz
        exact absurd hz (by simp)
      clear hz
      conv => whnf
      refine ⟨by decide, ?_⟩
      conv => whnf
      refine ⟨e.toNat, by omega, hen, ?_⟩
      conv => whnf
      obtain ⟨b1, b2⟩ := put8 bx e.toNat 0
      refine ⟨_, _, bx, by rw [ints_length]; show 0 + e.toNat * 1 + 1 ≤ _; omega, ?_⟩
      have sp := sp.get b2 (fun i h1 h2 => hap i h1 h2)
      have bx := b1
      have gv := gU.set (v := 0) (.inl rfl) e.toNat
      obtain ⟨V, hVe⟩ : ∃ V, V = U.set e.toNat 0 := ⟨_, rfl⟩
      have hVl : V.length = 8 := by rw [hVe, List.length_set]; exact hUl
      rw [← hVe] at sp bx gv
      conv => whnf
      refine (lapse50r sp (by omega) now).mono (fun r hL c => ?_)
      obtain ⟨ql, rfl, rl, sp, ml⟩ := c.val (pl V.length (atB V now)) (setV V 0 (pl V.length (atB V now))) (lapse_at gv hn1) rfl
      clear c
      have bx := ml.get bx (.inl (fun k => hap _ (.inr k) rfl))
      conv => whnf
      refine ⟨fun env hk => ∃ (k : Nat) (zk zn : Int), k ≤ 8 ∧ zk = k ∧ zn = (pl k (atB V now)).length ∧ St hk g p (setV V 0 (pl V.length (atB V now))) ∧ RoSl hk ql (pl V.length (atB V now)).length 1 (ints .i64 (pl V.length (atB V now))) ∧ hk.obj a = some (.row true 8 (ints .i64 (stepW V now k))) ∧ env = [(19, i64 zk), (18, i64 zn), (17, .sl ql (pl V.length (atB V now)).length), (14, i64 now), (7, .ptr (some (g, 0))), (8, .ptr (some (a, 0))), (1, i64 ticks), (2, i64 opn)],
        fun env _ => match get env 19 with
          | .int _ z => ((8 : Nat) - z).toNat
          | _ => 0, ⟨_, Forget.cons rfl (Forget.cons rfl (Forget.cons rfl (Forget.cons rfl (Forget.cons rfl (Forget.cons rfl (Forget.cons rfl (Forget.cons rfl (Forget.nil _)))))))), 0, _, _, Nat.zero_le _, rfl, rfl, sp, rl, by rw [stepW_zero]; exact bx, rfl⟩, ?_⟩
      clear sp bx rl ml
      rintro _ hK ⟨k, zk, zn, hk, rfl, rfl, sp, rl, bx, rfl⟩
      conv => whnf
      refine br_mk (fun hy => ?_) (fun hy => ?_)
      · conv => whnf
        have hy : k < 8 := by
          have : (k : Int) < 8 := by simpa using hy
          omega
        have hyV : k < V.length := by omega
        have hwl := stepW_len V now k
        refine ⟨k, rfl, hy, ?_⟩
        conv => whnf
        have ck0 : (ints .i64 (stepW V now k))[0 + k * 1]? = some (i64 ((stepW V now k).getD k 0)) := by
          rw [show 0 + k * 1 = k by omega]
          exact ints_get (by omega)
        refine ⟨_, Cell.mk bx ck0, ?_⟩
        conv => whnf
        have wk : (stepW V now k).getD k 0 = V.getD k 0 := by rw [stepW_get V now k hyV, if_neg (by omega)]
        rw [wk]
        have hcl := closed_at gv hn1 hyV
        refine br_mk (fun hz => ?_) (fun hz => ?_)
        · conv => whnf
          have hz : V.getD k 0 = now := by simpa using hz
          have hF : atB V now k = true := by rw [atB, hz]; simp
          obtain ⟨pa1, pa2⟩ := pl_at (n := V.length) hyV hF
          refine br_mk (fun hx => ?_) (fun hx => ?_)
          · exact absurd hx (by simp; omega)
          clear hx
          conv => whnf
          obtain ⟨i3, c3, v1, v2⟩ := slo_get rl.is pa2
          rw [pa1] at v2
          refine ⟨i3, c3, (pl k (atB V now)).length, v1, rfl, pa2, ?_⟩
          conv => whnf
          refine ⟨_, v2, ?_⟩
          conv => whnf
          refine br_mk (fun hx => ?_) (fun hx => ?_)
          · exact absurd hx (by simp)
          clear hx
          conv => whnf
          refine ⟨k, rfl, hy, ?_⟩
          conv => whnf
          obtain ⟨b1, b2⟩ := put8 bx k 0
          refine ⟨_, _, bx, by rw [ints_length]; show 0 + k * 1 + 1 ≤ _; omega, ?_⟩
          conv => whnf
          have es : (stepW V now k).set k 0 = stepW V now (k + 1) := by rw [stepW_succ hyV, if_pos hz]
          rw [es] at b1
          have ec : (pl (k + 1) (atB V now)).length = (pl k (atB V now)).length + 1 := by rw [pl_succ, if_pos hF]; simp
          have sp := sp.get b2 (fun i h1 h2 => hap i h1 h2)
          have rl := rl.get b2
          have hcnt : IntKind.i64.wrap (((pl k (atB V now)).length : Int) + 1) = ((pl (k + 1) (atB V now)).length : Int) := by
            have := pl_le k (atB V now)
            rw [ec, wrap_i64 (by omega) (by omega)]
            omega
          rw [hcnt]
          refine ⟨[0, 1, 3, 4, 5, 6, 7, 2, 8], [0, 0, 3, 0, 8, 24, 0, 120, 255], by kernel_rfl, ?_⟩
          conv => whnf
          refine ⟨k, rfl, hy, ?_⟩
          conv => whnf
          have ck : (ints .i64 (stepW V now (k + 1)))[0 + k * 1]? = some (i64 ((stepW V now (k + 1)).getD k 0)) := by
            rw [show 0 + k * 1 = k by omega]
            exact ints_get (by rw [stepW_len]; omega)
          refine ⟨_, Cell.mk b1 ck, ?_⟩
          conv => whnf
          refine (closed57 sp k).mono ?_
          rintro _ hK2 ⟨eh, rfl⟩
          subst eh
          rw [clB_nat (by rw [setV_length]; exact hyV), hcl]
          conv => whnf
          refine ⟨⟨_, Cell.mk b1 ck, rfl⟩, ?_⟩
          conv => whnf
          refine br_mk (fun hx => ?_) (fun hx => ?_)
          · exact absurd hx (by simp)
          clear hx
          conv => whnf
          exact ⟨_, Forget.cons rfl (Forget.cons rfl (Forget.cons rfl (Forget.cons rfl (Forget.cons rfl (Forget.cons rfl (Forget.cons rfl (Forget.cons rfl (Forget.nil _)))))))), ⟨k + 1, _, _, hy, succ_i64 hy (by omega), rfl, sp, rl, b1, rfl⟩, mu_lt (m := 8) hy (by omega)⟩
        · conv => whnf
          have hz : ¬ V.getD k 0 = now := by
            intro e
            rw [e] at hz
            simp at hz
          have es : stepW V now k = stepW V now (k + 1) := by rw [stepW_succ hyV, if_neg hz]
          have ec : (pl k (atB V now)).length = (pl (k + 1) (atB V now)).length := by rw [pl_succ, if_neg (by simp [atB]; exact hz), List.append_nil]
          have b1 := bx
          rw [es] at b1
          rw [ec]
          refine ⟨[0, 1, 3, 4, 5, 6, 7, 2, 8], [0, 0, 3, 0, 8, 24, 0, 120, 255], by kernel_rfl, ?_⟩
          conv => whnf
          refine ⟨k, rfl, hy, ?_⟩
          conv => whnf
          have ck : (ints .i64 (stepW V now (k + 1)))[0 + k * 1]? = some (i64 ((stepW V now (k + 1)).getD k 0)) := by
            rw [show 0 + k * 1 = k by omega]
            exact ints_get (by rw [stepW_len]; omega)
          refine ⟨_, Cell.mk b1 ck, ?_⟩
          conv => whnf
          refine (closed57 sp k).mono ?_
          rintro _ hK2 ⟨eh, rfl⟩
          subst eh
          rw [clB_nat (by rw [setV_length]; exact hyV), hcl]
          conv => whnf
          refine ⟨⟨_, Cell.mk b1 ck, rfl⟩, ?_⟩
          conv => whnf
          refine br_mk (fun hx => ?_) (fun hx => ?_)
          · exact absurd hx (by simp)
          clear hx
          conv => whnf
          exact ⟨_, Forget.cons rfl (Forget.cons rfl (Forget.cons rfl (Forget.cons rfl (Forget.cons rfl (Forget.cons rfl (Forget.cons rfl (Forget.cons rfl (Forget.nil _)))))))), ⟨k + 1, _, _, hy, succ_i64 hy (by omega), rfl, sp, rl, b1, rfl⟩, mu_lt (m := 8) hy (by omega)⟩
      · conv => whnf
        have hy : k = 8 := by
          have : ¬ (k : Int) < 8 := by simpa using hy
          omega
        subst hy
        rw [show V.length = 8 from hVl]
        refine br_mk (fun hx => ?_) (fun hx => ?_)
        · exact absurd hx (by simp)
        clear hx
        conv => whnf
        have e1 : IntKind.i64.wrap (now + 1) = now + 1 := wrap_i64 (by omega) (by omega)
        rw [e1]
        refine ⟨_, Forget.cons rfl (Forget.cons rfl (Forget.cons rfl (Forget.cons rfl (Forget.cons rfl (Forget.nil _))))), ⟨now + 1, stepW V now V.length, by omega, by omega, gv.next, by rw [stepW_len]; exact hVl, sp, by rw [hVl]; exact bx, rfl⟩, ?_⟩
        show (ticks + 1 - (now + 1)).toNat < (ticks + 1 - now).toNat
        omega
    · conv => whnf
      have gv := gU
      obtain ⟨V, hVe⟩ : ∃ V, V = U := ⟨_, rfl⟩
      have hVl : V.length = 8 := by rw [hVe]; exact hUl
      rw [← hVe] at sp bx gv
      conv => whnf
      refine (lapse50r sp (by omega) now).mono (fun r hL c => ?_)
      obtain ⟨ql, rfl, rl, sp, ml⟩ := c.val (pl V.length (atB V now)) (setV V 0 (pl V.length (atB V now))) (lapse_at gv hn1) rfl
      clear c
      have bx := ml.get bx (.inl (fun k => hap _ (.inr k) rfl))
      conv => whnf
      refine ⟨fun env hk => ∃ (k : Nat) (zk zn : Int), k ≤ 8 ∧ zk = k ∧ zn = (pl k (atB V now)).length ∧ St hk g p (setV V 0 (pl V.length (atB V now))) ∧ RoSl hk ql (pl V.length (atB V now)).length 1 (ints .i64 (pl V.length (atB V now))) ∧ hk.obj a = some (.row true 8 (ints .i64 (stepW V now k))) ∧ env = [(19, i64 zk), (18, i64 zn), (17, .sl ql (pl V.length (atB V now)).length), (14, i64 now), (7, .ptr (some (g, 0))), (8, .ptr (some (a, 0))), (1, i64 ticks), (2, i64 opn)],
        fun env _ => match get env 19 with
          | .int _ z => ((8 : Nat) - z).toNat
          | _ => 0, ⟨_, Forget.cons rfl (Forget.cons rfl (Forget.cons rfl (Forget.cons rfl (Forget.cons rfl (Forget.cons rfl (Forget.cons rfl (Forget.cons rfl (Forget.nil _)))))))), 0, _, _, Nat.zero_le _, rfl, rfl, sp, rl, by rw [stepW_zero]; exact bx, rfl⟩, ?_⟩
      clear sp bx rl ml
      rintro _ hK ⟨k, zk, zn, hk, rfl, rfl, sp, rl, bx, rfl⟩
      conv => whnf
      refine br_mk (fun hy => ?_) (fun hy => ?_)
      · conv => whnf
        have hy : k < 8 := by
          have : (k : Int) < 8 := by simpa using hy
          omega
        have hyV : k < V.length := by omega
        have hwl := stepW_len V now k
        refine ⟨k, rfl, hy, ?_⟩
        conv => whnf
        have ck0 : (ints .i64 (stepW V now k))[0 + k * 1]? = some (i64 ((stepW V now k).getD k 0)) := by
          rw [show 0 + k * 1 = k by omega]
          exact ints_get (by omega)
        refine ⟨_, Cell.mk bx ck0, ?_⟩
        conv => whnf
        have wk : (stepW V now k).getD k 0 = V.getD k 0 := by rw [stepW_get V now k hyV, if_neg (by omega)]
        rw [wk]
        have hcl := closed_at gv hn1 hyV
        refine br_mk (fun hz => ?_) (fun hz => ?_)
        · conv => whnf
          have hz : V.getD k 0 = now := by simpa using hz
          have hF : atB V now k = true := by rw [atB, hz]; simp
          obtain ⟨pa1, pa2⟩ := pl_at (n := V.length) hyV hF
          refine br_mk (fun hx => ?_) (fun hx => ?_)
          · exact absurd hx (by simp; omega)
          clear hx
          conv => whnf
          obtain ⟨i3, c3, v1, v2⟩ := slo_get rl.is pa2
          rw [pa1] at v2
          refine ⟨i3, c3, (pl k (atB V now)).length, v1, rfl, pa2, ?_⟩
          conv => whnf
          refine ⟨_, v2, ?_⟩
          conv => whnf
          refine br_mk (fun hx => ?_) (fun hx => ?_)
          · exact absurd hx (by simp)
          clear hx
          conv => whnf
          refine ⟨k, rfl, hy, ?_⟩
          conv => whnf
          obtain ⟨b1, b2⟩ := put8 bx k 0
          refine ⟨_, _, bx, by rw [ints_length]; show 0 + k * 1 + 1 ≤ _; omega, ?_⟩
          conv => whnf
          have es : (stepW V now k).set k 0 = stepW V now (k + 1) := by rw [stepW_succ hyV, if_pos hz]
          rw [es] at b1
          have ec : (pl (k + 1) (atB V now)).length = (pl k (atB V now)).length + 1 := by rw [pl_succ, if_pos hF]; simp
          have sp := sp.get b2 (fun i h1 h2 => hap i h1 h2)
          have rl := rl.get b2
          have hcnt : IntKind.i64.wrap (((pl k (atB V now)).length : Int) + 1) = ((pl (k + 1) (atB V now)).length : Int) := by
            have := pl_le k (atB V now)
            rw [ec, wrap_i64 (by omega) (by omega)]
            omega
          rw [hcnt]
          refine ⟨[0, 1, 3, 4, 5, 6, 7, 2, 8], [0, 0, 3, 0, 8, 24, 0, 120, 255], by kernel_rfl, ?_⟩
          conv => whnf
          refine ⟨k, rfl, hy, ?_⟩
          conv => whnf
          have ck : (ints .i64 (stepW V now (k + 1)))[0 + k * 1]? = some (i64 ((stepW V now (k + 1)).getD k 0)) := by
            rw [show 0 + k * 1 = k by omega]
            exact ints_get (by rw [stepW_len]; omega)
          refine ⟨_, Cell.mk b1 ck, ?_⟩
          conv => whnf
          refine (closed57 sp k).mono ?_
          rintro _ hK2 ⟨eh, rfl⟩
          subst eh
          rw [clB_nat (by rw [setV_length]; exact hyV), hcl]
          conv => whnf
          refine ⟨⟨_, Cell.mk b1 ck, rfl⟩, ?_⟩
          conv => whnf
          refine br_mk (fun hx => ?_) (fun hx => ?_)
          · exact absurd hx (by simp)
          clear hx
          conv => whnf
          exact ⟨_, Forget.cons rfl (Forget.cons rfl (Forget.cons rfl (Forget.cons rfl (Forget.cons rfl (Forget.cons rfl (Forget.cons rfl (Forget.cons rfl (Forget.nil _)))))))), ⟨k + 1, _, _, hy, succ_i64 hy (by omega), rfl, sp, rl, b1, rfl⟩, mu_lt (m := 8) hy (by omega)⟩
        · conv => whnf
          have hz : ¬ V.getD k 0 = now := by
            intro e
            rw [e] at hz
            simp at hz
          have es : stepW V now k = stepW V now (k + 1) := by rw [stepW_succ hyV, if_neg hz]
          have ec : (pl k (atB V now)).length = (pl (k + 1) (atB V now)).length := by rw [pl_succ, if_neg (by simp [atB]; exact hz), List.append_nil]
          have b1 := bx
          rw [es] at b1
          rw [ec]
          refine ⟨[0, 1, 3, 4, 5, 6, 7, 2, 8], [0, 0, 3, 0, 8, 24, 0, 120, 255], by kernel_rfl, ?_⟩
          conv => whnf
          refine ⟨k, rfl, hy, ?_⟩
          conv => whnf
          have ck : (ints .i64 (stepW V now (k + 1)))[0 + k * 1]? = some (i64 ((stepW V now (k + 1)).getD k 0)) := by
            rw [show 0 + k * 1 = k by omega]
            exact ints_get (by rw [stepW_len]; omega)
          refine ⟨_, Cell.mk b1 ck, ?_⟩
          conv => whnf
          refine (closed57 sp k).mono ?_
          rintro _ hK2 ⟨eh, rfl⟩
          subst eh
          rw [clB_nat (by rw [setV_length]; exact hyV), hcl]
          conv => whnf
          refine ⟨⟨_, Cell.mk b1 ck, rfl⟩, ?_⟩
          conv => whnf
          refine br_mk (fun hx => ?_) (fun hx => ?_)
          · exact absurd hx (by simp)
          clear hx
          conv => whnf
          exact ⟨_, Forget.cons rfl (Forget.cons rfl (Forget.cons rfl (Forget.cons rfl (Forget.cons rfl (Forget.cons rfl (Forget.cons rfl (Forget.cons rfl (Forget.nil _)))))))), ⟨k + 1, _, _, hy, succ_i64 hy (by omega), rfl, sp, rl, b1, rfl⟩, mu_lt (m := 8) hy (by omega)⟩
      · conv => whnf
        have hy : k = 8 := by
          have : ¬ (k : Int) < 8 := by simpa using hy
          omega
        subst hy
        rw [show V.length = 8 from hVl]
        refine br_mk (fun hx => ?_) (fun hx => ?_)
        · exact absurd hx (by simp)
        clear hx
        conv => whnf
        have e1 : IntKind.i64.wrap (now + 1) = now + 1 := wrap_i64 (by omega) (by omega)
        rw [e1]
        refine ⟨_, Forget.cons rfl (Forget.cons rfl (Forget.cons rfl (Forget.cons rfl (Forget.cons rfl (Forget.nil _))))), ⟨now + 1, stepW V now V.length, by omega, by omega, gv.next, by rw [stepW_len]; exact hVl, sp, by rw [hVl]; exact bx, rfl⟩, ?_⟩
        show (ticks + 1 - (now + 1)).toNat < (ticks + 1 - now).toNat
        omega
  · conv => whnf
    refine (aw hh2).mono ?_
    rintro _ h3 rfl
    conv => whnf
end Go.Proofs.Ytpefdmidfllhoaa
