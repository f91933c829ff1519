/- Timers: the document's; who is begun, who is stopped. -/
import Derived.Test.YtpefdmidfllhoaaQ25
set_option linter.unusedVariables false
namespace Go.Proofs.Ytpefdmidfllhoaa
open Go Go.Ab
def wC (x : Wt) : List V := [i64 x.1, i64 x.2.1, i64 x.2.2]
theorem wC_len (x : Wt) : (wC x).length = 3 := rfl
structure RSt (h : H) (g : Nat) (B M R : Int) (S : List Wt) : Prop where
  box : ∃ p, h.obj g = some (.row true 4 [i64 B, i64 M, i64 R, .sl p S.length]) ∧ RoSl h p S.length 3 (S.flatMap wC)
theorem RSt.get {Z : Nat → Prop} {h h' : H} {g : Nat} {B M R : Int} {S : List Wt} (s : RSt h g B M R S) (m : Ab.Mod Z h h') (hg : ¬ Z g) : RSt h' g B M R S := by
  obtain ⟨p, h1, h2⟩ := s.box
  exact ⟨p, m.get h1 (.inl hg), h2.get m⟩
theorem RSt.lt {h : H} {g : Nat} {B M R : Int} {S : List Wt} (s : RSt h g B M R S) : g < h.next := by
  obtain ⟨p, h1, h2⟩ := s.box
  exact h.lt _ _ h1
theorem rst_ro {h h' : H} {g : Nat} {B M R : Int} {S : List Wt} {p : Option (Nat × Nat)} (hg : g < h.next) (hb : h'.obj g = some (.row true 4 [i64 B, i64 M, i64 R, .sl p S.length])) (n : NewSl h h' p S.length 3 (S.flatMap wC)) (m : Ab.Mod (one g) h h') :
    ∃ i, h.next ≤ i ∧ RSt (h'.ro i) g B M R S ∧ Ab.Mod (one g) h (h'.ro i) := by
  obtain ⟨i, h1, h2, h3⟩ := n.freeze m
  exact ⟨i, h1, ⟨p, by rw [H.ro_ne _ (by omega), hb], h2⟩, h3⟩
theorem within68 (h : H) (x lo hi : Int) : ACalls Try.prog 68 [i64 x, i64 lo, i64 hi] h (fun r h' => h' = h ∧ r = .bool (inR x lo hi)) := by
  refine call_ Try.func68 rfl rfl (by kernel_rfl) ?_
  conv => whnf
  refine br_mk (fun ha => ?_) (fun ha => ?_)
  · conv => whnf
    have ha : lo ≤ x := by simpa using ha
    exact ⟨rfl, by rw [inR, decide_eq_true ha, Bool.true_and]⟩
  · conv => whnf
    have ha : ¬ lo ≤ x := by simpa using ha
    exact ⟨rfl, by rw [inR, decide_eq_false ha, Bool.false_and]⟩
def NewRQ (B M R : Int) (h : H) (r : V) (h' : H) : Prop :=
  (okT B M R = false ∧ r = .ptr none ∧ h' = h) ∨ (okT B M R = true ∧ ∃ g, r = .ptr (some (g, 0)) ∧ RSt h' g B M R [] ∧ h.next ≤ g ∧ Ab.Mod none_ h h')
theorem okT_inR (B M R : Int) : okT B M R = (inR B 1 1000 && inR M B 1000 && inR R 0 20) := by
  rw [okT, inR, inR, inR]
  simp only [Bool.and_assoc]
theorem new36 (h : H) (B M R : Int) : ACalls Try.prog 36 [i64 B, i64 M, i64 R] h (fun r h' => NewRQ B M R h r h') := by
  refine call_ Try.func36 rfl rfl (by kernel_rfl) ?_
  conv => whnf
  refine (within68 h B 1 1000).mono ?_
  rintro _ h1 ⟨eh, rfl⟩
  subst eh
  conv => whnf
  refine br_mk (fun ha => ?_) (fun ha => ?_)
  · conv => whnf
    have ha : inR B 1 1000 = false := by simpa using ha
    exact .inl ⟨by rw [okT_inR, ha]; rfl, rfl, rfl⟩
  conv => whnf
  have ha : inR B 1 1000 = true := by simpa using ha
  refine (within68 _ M B 1000).mono ?_
  rintro _ h1 ⟨eh, rfl⟩
  subst eh
  conv => whnf
  refine br_mk (fun hb => ?_) (fun hb => ?_)
  · conv => whnf
    have hb : inR M B 1000 = false := by simpa using hb
    exact .inl ⟨by rw [okT_inR, hb, Bool.and_false, Bool.false_and], rfl, rfl⟩
  conv => whnf
  have hb : inR M B 1000 = true := by simpa using hb
  refine (within68 _ R 0 20).mono ?_
  rintro _ h1 ⟨eh, rfl⟩
  subst eh
  conv => whnf
  refine br_mk (fun hc => ?_) (fun hc => ?_)
  · conv => whnf
    have hc : inR R 0 20 = false := by simpa using hc
    exact .inl ⟨by rw [okT_inR, hc, Bool.and_false], rfl, rfl⟩
  conv => whnf
  have hc : inR R 0 20 = true := by simpa using hc
  exact .inr ⟨by rw [okT_inR, ha, hb, hc]; rfl, _, rfl, ⟨none, H.obj_push_new _ _, RoSl.nil _ _ _⟩, Nat.le_refl _, Mod.push none_ _ _⟩
theorem wait38 {h : H} {g : Nat} {B M R : Int} {x : V} (hb : h.obj g = some (.row true 4 [i64 B, i64 M, i64 R, x])) (h1 : 1 ≤ B) (h2 : B ≤ M) (h3 : M ≤ 1000) {n : Int} (hn : n ≤ 9223372036854775807) :
    ACalls Try.prog 38 [.ptr (some (g, 0)), i64 n] h (fun r h' => h' = h ∧ r = i64 (waitV B M n)) := by
  refine call_ Try.func38 rfl rfl (by kernel_rfl) ?_
  conv => whnf
  refine ⟨_, Cell.mk hb rfl, ?_⟩
  conv => whnf
  refine ⟨fun env hh => ∃ (w z : Int), hh = h ∧ 1 ≤ w ∧ w ≤ 2000 ∧ waitW M w (n - z).toNat = waitW M B n.toNat ∧ 0 ≤ z ∧ (z = 0 ∨ z ≤ n) ∧ env = [(6, i64 z), (5, i64 w), (0, .ptr (some (g, 0))), (1, i64 n)],
    fun env _ => match get env 6 with
      | .int _ z => (n - z).toNat
      | _ => 0, ⟨_, Forget.cons rfl (Forget.cons rfl (Forget.cons rfl (Forget.cons rfl (Forget.nil _)))), B, 0, rfl, h1, by omega, by rw [Int.sub_zero], Int.le_refl _, .inl rfl, rfl⟩, ?_⟩
  rintro _ hh ⟨w, z, eh, w1, w2, w3, z1, z2, rfl⟩
  subst eh
  conv => whnf
  have fin : waitW M w (n - z).toNat = w → ∀ x, x = w → (if M < x then M else x) = waitV B M n := fun e x hx => by
    rw [waitV, ← w3, e, hx]
  refine br_mk (fun ha => ?_) (fun ha => ?_)
  · conv => whnf
    have ha : z < n := by simpa using ha
    refine ⟨_, Cell.mk hb rfl, ?_⟩
    conv => whnf
    refine br_mk (fun hc => ?_) (fun hc => ?_)
    · conv => whnf
      have hc : w < M := by simpa using hc
      have e1 : IntKind.i64.wrap (2 * w) = 2 * w := wrap_i64 (by omega) (by omega)
      have e2 : (n - z).toNat = (n - (z + 1)).toNat + 1 := by omega
      have e3 : IntKind.i64.wrap (z + 1) = z + 1 := wrap_i64 (by omega) (by omega)
      rw [e1, e3]
      refine ⟨_, Forget.cons rfl (Forget.cons rfl (Forget.cons rfl (Forget.cons rfl (Forget.nil _)))), ⟨2 * w, z + 1, rfl, by omega, by omega, ?_, by omega, .inr (by omega), rfl⟩, ?_⟩
      · rw [← w3, e2, waitW, if_pos hc]
      · show (n - (z + 1)).toNat < (n - z).toNat
        omega
    · conv => whnf
      have hc : ¬ w < M := by simpa using hc
      refine ⟨_, Cell.mk hb rfl, ?_⟩
      conv => whnf
      exact ⟨rfl, congrArg i64 (fin (waitW_stop hc _) w rfl)⟩
  · conv => whnf
    have ha : ¬ z < n := by simpa using ha
    refine ⟨_, Cell.mk hb rfl, ?_⟩
    conv => whnf
    refine ⟨rfl, congrArg i64 (fin ?_ w rfl)⟩
    rw [show (n - z).toNat = 0 by omega]
    rfl
theorem delS_snoc (S : List Wt) (x : Wt) (id : Int) : delS (S ++ [x]) id = delS S id ++ (if x.1 != id then [x] else []) := filter_snoc _ _ _
theorem delS_le (S : List Wt) (id : Int) : (delS S id).length ≤ S.length := List.length_filter_le _ _
theorem w_len (S : List Wt) : (S.flatMap wC).length = S.length * 3 := flat_length wC_len S
theorem stop41 {h : H} {g : Nat} {B M R : Int} {S : List Wt} (s : RSt h g B M R S) (hS : S.length ≤ 100000) (id : Int) :
    ACalls Try.prog 41 [.ptr (some (g, 0)), i64 id] h (fun r h' => RSt h' g B M R (delS S id) ∧ Ab.Mod (one g) h h') := by
  have hg := s.lt
  refine ACalls.ro (Q := fun r h' => ∃ po, h'.obj g = some (.row true 4 [i64 B, i64 M, i64 R, .sl po (delS S id).length]) ∧ NewSl h h' po (delS S id).length 3 ((delS S id).flatMap wC) ∧ Ab.Mod (one g) h h') ?_ (by
    rintro r h' ⟨po, a, b, c⟩
    obtain ⟨i, _, h1, h2⟩ := rst_ro hg a b c
    exact ⟨i, h1, h2⟩)
  obtain ⟨p, hb, hr⟩ := s.box
  refine call_ Try.func41 rfl rfl (by kernel_rfl) ?_
  conv => whnf
  refine ⟨fun env hh => ∃ (j : Nat) (z : Int) (po : Option (Nat × Nat)), j ≤ S.length ∧ z = j ∧ NewSl h hh po (delS (S.take j) id).length 3 ((delS (S.take j) id).flatMap wC) ∧ Ab.Mod none_ h hh ∧ env = [(5, i64 z), (4, .sl po (delS (S.take j) id).length), (0, .ptr (some (g, 0))), (1, i64 id)],
    fun env _ => match get env 5 with
      | .int _ z => (S.length - z).toNat
      | _ => 0, ⟨_, Forget.cons rfl (Forget.cons rfl (Forget.cons rfl (Forget.cons rfl (Forget.nil _)))), 0, _, none, Nat.zero_le _, rfl, NewSl.nil _ _ _, ⟨Nat.le_refl _, fun _ _ _ => rfl⟩, rfl⟩, ?_⟩
  rintro _ hh ⟨j, z, po, hj, rfl, no, mo, rfl⟩
  conv => whnf
  have bx := mo.get hb (.inl (fun k => k))
  refine ⟨_, Cell.mk bx rfl, ?_⟩
  conv => whnf
  refine br_mk (fun hd => ?_) (fun hd => ?_)
  · conv => whnf
    have hd : j < S.length := by simpa using hd
    have htk : S.take (j + 1) = S.take j ++ [S[j]] := List.take_succ_eq_append_getElem hd
    have hjl : (delS (S.take j) id).length ≤ S.length := by
      have := delS_le (S.take j) id
      rw [List.length_take] at this
      omega
    obtain ⟨i1, c1, f1, f2, f3⟩ := sls_get wC_len (hr.get mo).is rfl hd
    have k0 := f3 0 (i64 S[j].1) rfl
    refine ⟨_, Cell.mk bx rfl, ?_⟩
    conv => whnf
    refine ⟨i1, c1, j, f1, rfl, hd, ?_⟩
    conv => whnf
    refine ⟨_, k0, ?_⟩
    conv => whnf
    refine br_mk (fun hx => ?_) (fun hx => ?_)
    · have e0 : delS (S.take (j + 1)) id = delS (S.take j) id ++ [S[j]] := by rw [htk, delS_snoc, if_pos hx]
      conv => whnf
      refine ⟨_, Cell.mk bx rfl, ?_⟩
      conv => whnf
      refine ⟨i1, c1, j, f1, rfl, hd, ?_⟩
      conv => whnf
      refine ⟨_, f2, ?_⟩
      conv => whnf
      obtain ⟨y1, y2, y3⟩ := app1 no mo (wC S[j]) rfl
      refine ⟨_, _, y1, y2, by rw [show (T.at_ 136).bytes = 24 from rfl]; omega, by omega, fun po2 hY hs hm hf => ?_⟩
      obtain ⟨no2, mo2, my⟩ := y3 po2 hY hs hm hf
      have e6 : (delS (S.take j) id).flatMap wC ++ wC S[j] = (delS (S.take (j + 1)) id).flatMap wC := by rw [e0, List.flatMap_append]; simp
      have e7 : (delS (S.take j) id).length + 1 = (delS (S.take (j + 1)) id).length := by rw [e0]; simp
      rw [e6, e7] at no2
      conv => whnf
      rw [e7]
      exact ⟨_, Forget.cons rfl (Forget.cons rfl (Forget.cons rfl (Forget.cons rfl (Forget.nil _)))), ⟨j + 1, _, po2, hd, succ_i64 hd (by omega), no2, mo2, rfl⟩, mu_lt hd (by omega)⟩
    · have e0 : delS (S.take (j + 1)) id = delS (S.take j) id := by rw [htk, delS_snoc, if_neg (by rw [hx]; simp), List.append_nil]
      conv => whnf
      rw [← e0] at no ⊢
      exact ⟨_, Forget.cons rfl (Forget.cons rfl (Forget.cons rfl (Forget.cons rfl (Forget.nil _)))), ⟨j + 1, _, po, hd, succ_i64 hd (by omega), no, mo, rfl⟩, mu_lt hd (by omega)⟩
  · conv => whnf
    have hd : ¬ j < S.length := by simpa using hd
    obtain rfl : j = S.length := by omega
    rw [List.take_length] at no ⊢
    refine ⟨_, _, bx, Nat.le_of_ble_eq_true rfl, ?_⟩
    conv => whnf
    have mS : Ab.Mod (one g) hh (hh.set g (.row true 4 [i64 B, i64 M, i64 R, .sl po (delS S id).length])) := Mod.set rfl bx rfl
    exact ⟨po, H.obj_set_same bx, NewSl.keep no mS (fun i hi => by
      have : i = g := hi
      omega), mo.trans' mS (fun _ _ k => k.elim) (fun _ _ k => k)⟩
end Go.Proofs.Ytpefdmidfllhoaa
