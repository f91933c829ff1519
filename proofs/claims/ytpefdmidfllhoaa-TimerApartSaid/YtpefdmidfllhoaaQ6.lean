/- Closing, opening, lapsing, asking: the program's set. -/
import Derived.Test.YtpefdmidfllhoaaQ5
set_option linter.unusedVariables false
namespace Go.Proofs.Ytpefdmidfllhoaa
open Go Go.Ab
/-- what Close and Open answer -/
def ClQ (h : H) (g : Nat) (p : Option (Nat × Nat)) (U : List Int) (ok : Bool) (u : Int) (E : List Int) (r : V) (h' : H) : Prop :=
  (ok = false ∧ r = .tup [.sl none 0, i64 1] ∧ St h' g p U ∧ Ab.Mod (inSl p) h h') ∨
  (ok = true ∧ ∃ q, r = .tup [.sl q (outV U u E).length, i64 0] ∧ NewSl h h' q (outV U u E).length 1 (ints .i64 (outV U u E)) ∧ St h' g p (setV U u E) ∧ Ab.Mod (inSl p) h h')
def okC (n : Nat) (u : Int) (E : List Int) : Bool := inR u 1 1099511627776 && inE n E
theorem close46 {h : H} {g : Nat} {p q : Option (Nat × Nat)} {U E : List Int} (s : St h g p U) {m : Nat} (nm : SlIs h q m false 1 (ints .i64 E)) (hm : m ≤ 100000) (hU : U.length ≤ 512) (u : Int) :
    ACalls Try.prog 46 [.ptr (some (g, 0)), i64 u, .sl q m] h (ClQ h g p U (okC U.length u E) u E) := by
  refine call_ Try.func46 rfl rfl (by kernel_rfl) ?_
  conv => whnf
  refine br_mk (fun ha => ?_) (fun ha => ?_)
  · conv => whnf
    have ha : u < 1 := by simpa using ha
    exact .inl ⟨by rw [okC, inR, decide_eq_false (by omega)]; rfl, rfl, s, ⟨Nat.le_refl _, fun _ _ _ => rfl⟩⟩
  conv => whnf
  have ha : ¬ u < 1 := by simpa using ha
  refine br_mk (fun hb => ?_) (fun hb => ?_)
  · conv => whnf
    have hb : u > 1099511627776 := by simpa using hb
    exact .inl ⟨by rw [okC, inR, decide_eq_false (show ¬ u ≤ 1099511627776 by omega), Bool.and_false]; rfl, rfl, s, ⟨Nat.le_refl _, fun _ _ _ => rfl⟩⟩
  conv => whnf
  have hb : ¬ u > 1099511627776 := by simpa using hb
  have hr : inR u 1 1099511627776 = true := by rw [inR, decide_eq_true (show (1 : Int) ≤ u by omega), decide_eq_true (show u ≤ 1099511627776 by omega)]; rfl
  refine (may71 s nm (by omega)).mono ?_
  rintro _ h1 ⟨rfl, m1⟩
  conv => whnf
  refine br_mk (fun hc => ?_) (fun hc => ?_)
  · conv => whnf
    have hc : inE U.length E = false := by simpa using hc
    exact .inl ⟨by rw [okC, hc, Bool.and_false], rfl, s.old m1 (fun _ _ k => k), m1.mono (fun _ _ k => k.elim)⟩
  conv => whnf
  have hc : inE U.length E = true := by simpa using hc
  refine (set72 (s.old m1 (fun _ _ k => k)) (SlIs.old nm m1 (fun _ _ k => k)) hm hU hc u).mono ?_
  rintro _ h2 ⟨q2, rfl, n2, s2, m2⟩
  conv => whnf
  exact .inr ⟨by rw [okC, hr, hc]; rfl, q2, rfl, ⟨n2.1, fun i o e => Nat.le_trans m1.next (n2.2 i o e)⟩, s2, m1.trans' m2 (fun _ _ k => k.elim) (fun _ _ k => k)⟩
theorem close46n (h : H) (q : Option (Nat × Nat)) (m : Nat) (u : Int) : ACalls Try.prog 46 [.ptr none, i64 u, .sl q m] h (fun r h' => r = .tup [.sl none 0, i64 1] ∧ Ab.Mod none_ h h') := by
  refine call_ Try.func46 rfl rfl (by kernel_rfl) ?_
  conv => whnf
  refine br_mk (fun ha => ?_) (fun ha => ?_)
  · conv => whnf
    exact ⟨rfl, ⟨Nat.le_refl _, fun _ _ _ => rfl⟩⟩
  conv => whnf
  refine br_mk (fun hb => ?_) (fun hb => ?_)
  · conv => whnf
    exact ⟨rfl, ⟨Nat.le_refl _, fun _ _ _ => rfl⟩⟩
  conv => whnf
  refine (may71n h q m).mono ?_
  rintro _ h1 ⟨rfl, m1⟩
  conv => whnf
  exact ⟨rfl, m1⟩
theorem open48 {h : H} {g : Nat} {p q : Option (Nat × Nat)} {U E : List Int} (s : St h g p U) {m : Nat} (nm : SlIs h q m false 1 (ints .i64 E)) (hm : m ≤ 100000) (hU : U.length ≤ 512) :
    ACalls Try.prog 48 [.ptr (some (g, 0)), .sl q m] h (ClQ h g p U (inE U.length E) 0 E) := by
  refine call_ Try.func48 rfl rfl (by kernel_rfl) ?_
  conv => whnf
  refine (may71 s nm (by omega)).mono ?_
  rintro _ h1 ⟨rfl, m1⟩
  conv => whnf
  refine br_mk (fun hc => ?_) (fun hc => ?_)
  · conv => whnf
    have hc : inE U.length E = false := by simpa using hc
    exact .inl ⟨hc, rfl, s.old m1 (fun _ _ k => k), m1.mono (fun _ _ k => k.elim)⟩
  conv => whnf
  have hc : inE U.length E = true := by simpa using hc
  refine (set72 (s.old m1 (fun _ _ k => k)) (SlIs.old nm m1 (fun _ _ k => k)) hm hU hc 0).mono ?_
  rintro _ h2 ⟨q2, rfl, n2, s2, m2⟩
  conv => whnf
  exact .inr ⟨hc, q2, rfl, ⟨n2.1, fun i o e => Nat.le_trans m1.next (n2.2 i o e)⟩, s2, m1.trans' m2 (fun _ _ k => k.elim) (fun _ _ k => k)⟩
theorem closed57 {h : H} {g : Nat} {p : Option (Nat × Nat)} {U : List Int} (s : St h g p U) (e : Int) : ACalls Try.prog 57 [.ptr (some (g, 0)), i64 e] h (fun r h' => h' = h ∧ r = .bool (clB U e)) := by
  refine call_ Try.func57 rfl rfl (by kernel_rfl) ?_
  conv => whnf
  refine br_mk (fun ha => ?_) (fun ha => ?_)
  · conv => whnf
    have ha : 0 ≤ e := by simpa using ha
    refine ⟨_, Cell.mk s.box rfl, ?_⟩
    conv => whnf
    refine br_mk (fun hb => ?_) (fun hb => ?_)
    · conv => whnf
      have hb : e < (U.length : Int) := by simpa using hb
      refine ⟨_, Cell.mk s.box rfl, ?_⟩
      conv => whnf
      obtain ⟨i, c, k1, k2⟩ := s.cell (j := e.toNat) (by omega)
      refine ⟨i, c, e.toNat, k1, by omega, by omega, ?_⟩
      conv => whnf
      refine ⟨_, k2, ?_⟩
      conv => whnf
      refine ⟨rfl, ?_⟩
      rw [clB, decide_eq_true ha, decide_eq_true hb]
      rfl
    · conv => whnf
      have hb : ¬ e < (U.length : Int) := by simpa using hb
      exact ⟨rfl, by rw [clB, decide_eq_false hb, Bool.and_false, Bool.false_and]⟩
  · conv => whnf
    have ha : ¬ 0 ≤ e := by simpa using ha
    exact ⟨rfl, by rw [clB, decide_eq_false ha, Bool.false_and, Bool.false_and]⟩
theorem closed57n (h : H) (e : Int) : ACalls Try.prog 57 [.ptr none, i64 e] h (fun r h' => h' = h ∧ r = .bool false) := by
  refine call_ Try.func57 rfl rfl (by kernel_rfl) ?_
  conv => whnf
  exact ⟨rfl, rfl⟩
/-- all that is closed -/
def shC (x : Int × Int) : List V := [i64 x.1, i64 x.2]
theorem shC_len (x : Int × Int) : (shC x).length = 2 := rfl
def allJ (U : List Int) (j : Nat) : List (Int × Int) := ((List.range j).filter fun (k : Nat) => decide (0 < U.getD k 0)).map fun (k : Nat) => ((k : Int), U.getD k 0)
theorem allJ_succ (U : List Int) (j : Nat) : allJ U (j + 1) = allJ U j ++ (if decide (0 < U.getD j 0) then [((j : Int), U.getD j 0)] else []) := by
  rw [allJ, List.range_succ, List.filter_append, List.map_append, allJ]
  congr 1
  by_cases h : 0 < U.getD j 0
  · rw [if_pos (by simpa using h), List.filter_cons_of_pos (by simpa using h)]
    rfl
  · rw [if_neg (by simpa using h), List.filter_cons_of_neg (by simpa using h)]
    rfl
theorem allJ_le (U : List Int) (j : Nat) : (allJ U j).length ≤ j := by
  rw [allJ, List.length_map]
  exact Nat.le_trans (List.length_filter_le _ _) (by simp)
theorem allJ_all (U : List Int) : allJ U U.length = allV U := rfl
theorem sh_len (l : List (Int × Int)) : (l.flatMap shC).length = l.length * 2 := flat_length shC_len l
def AllQ (h : H) (U : List Int) (r : V) (h' : H) : Prop := ∃ q, r = .sl q (allV U).length ∧ NewSl h h' q (allV U).length 2 ((allV U).flatMap shC) ∧ Ab.Mod none_ h h'
theorem all55 {h : H} {g : Nat} {p : Option (Nat × Nat)} {U : List Int} (s : St h g p U) (hU : U.length ≤ 512) : ACalls Try.prog 55 [.ptr (some (g, 0))] h (AllQ h U) := by
  refine call_ Try.func55 rfl rfl (by kernel_rfl) ?_
  conv => whnf
  refine ⟨_, Cell.mk s.box rfl, ?_⟩
  conv => whnf
  refine ⟨fun env hh => ∃ (j : Nat) (z : Int) (po : Option (Nat × Nat)), j ≤ U.length ∧ z = j ∧ NewSl h hh po (allJ U j).length 2 ((allJ U j).flatMap shC) ∧ Ab.Mod none_ h hh ∧
      env = [(12, i64 z), (2, .sl po (allJ U j).length), (11, i64 U.length), (10, .sl p U.length)],
    fun env _ => match get env 12 with
      | .int _ z => (U.length - z).toNat
      | _ => 0, ⟨_, Forget.cons rfl (Forget.cons rfl (Forget.cons rfl (Forget.cons rfl (Forget.nil _)))), 0, _, none, Nat.zero_le _, rfl, NewSl.nil _ _ _, ⟨Nat.le_refl _, fun _ _ _ => rfl⟩, rfl⟩, ?_⟩
  rintro _ hh ⟨j, z, po, hj, rfl, no, mo, rfl⟩
  conv => whnf
  refine br_mk (fun hd => ?_) (fun hd => ?_)
  · conv => whnf
    have hd : j < U.length := by simpa using hd
    have st := s.old mo (fun _ _ k => k)
    obtain ⟨i1, c1, f1, f2⟩ := st.cell hd
    refine ⟨i1, c1, j, f1, rfl, hd, ?_⟩
    conv => whnf
    refine ⟨_, f2, ?_⟩
    conv => whnf
    have hjl := allJ_le U j
    refine br_mk (fun hb => ?_) (fun hb => ?_)
    · have e0 : allJ U (j + 1) = allJ U j ++ [((j : Int), U.getD j 0)] := by rw [allJ_succ, if_pos hb]
      conv => whnf
      have mP := Mod.push none_ hh (.row true 2 (shC ((j : Int), U.getD j 0)))
      have gP : (hh.push (.row true 2 (shC ((j : Int), U.getD j 0)))).obj hh.next = some (.row true 2 (shC ((j : Int), U.getD j 0))) := H.obj_push_new _ _
      have nP := NewSl.kept no mP
      refine ⟨_, _, nP.1, (SlIs.row (n := 1) gP rfl).weak, by rw [show (T.at_ 108).bytes = 16 from rfl]; omega, by omega, fun po2 h4 hs hm4 hf => ?_⟩
      have no2 := NewSl.app nP hs hf (Nat.le_trans mo.next mP.next)
      have mo2 := NewSl.mod nP (mod_none mo mP) hm4
      conv => whnf
      have e6 : (allJ U j).flatMap shC ++ shC ((j : Int), U.getD j 0) = (allJ U (j + 1)).flatMap shC := by rw [e0, List.flatMap_append]; simp
      have e7 : (allJ U j).length + 1 = (allJ U (j + 1)).length := by rw [e0]; simp
      rw [e6, e7] at no2
      rw [e7]
      refine ⟨_, Forget.cons rfl (Forget.cons rfl (Forget.cons rfl (Forget.cons rfl (Forget.nil _)))), ⟨j + 1, _, po2, hd, succ_i64 hd (by omega), no2, mo2, rfl⟩, ?_⟩
      exact mu_lt hd (by omega)
    · have e0 : allJ U (j + 1) = allJ U j := by rw [allJ_succ, if_neg (by rw [show decide (0 < U.getD j 0) = false from hb]; simp), List.append_nil]
      conv => whnf
      rw [← e0] at no ⊢
      refine ⟨_, Forget.cons rfl (Forget.cons rfl (Forget.cons rfl (Forget.cons rfl (Forget.nil _)))), ⟨j + 1, _, po, hd, succ_i64 hd (by omega), no, mo, rfl⟩, ?_⟩
      exact mu_lt hd (by omega)
  · conv => whnf
    have hd : ¬ j < U.length := by simpa using hd
    obtain rfl : j = U.length := by omega
    rw [allJ_all] at no ⊢
    exact ⟨po, rfl, no, mo⟩
def bools (l : List Bool) : List V := l.map V.bool
theorem bools_length (l : List Bool) : (bools l).length = l.length := by simp [bools]
def maskJ (U : List Int) (j : Nat) : List Bool := (List.range j).map fun (k : Nat) => decide (0 < U.getD k 0)
theorem maskJ_succ (U : List Int) (j : Nat) : maskJ U (j + 1) = maskJ U j ++ [decide (0 < U.getD j 0)] := by simp [maskJ, List.range_succ]
theorem maskJ_len (U : List Int) (j : Nat) : (maskJ U j).length = j := by simp [maskJ]
def MaskQ (h : H) (U : List Int) (r : V) (h' : H) : Prop := ∃ q, r = .sl q U.length ∧ NewSl h h' q U.length 1 (bools (maskV U)) ∧ Ab.Mod none_ h h'
theorem mask52 {h : H} {g : Nat} {p : Option (Nat × Nat)} {U : List Int} (s : St h g p U) (hU : U.length ≤ 512) : ACalls Try.prog 52 [.ptr (some (g, 0))] h (MaskQ h U) := by
  refine call_ Try.func52 rfl rfl (by kernel_rfl) ?_
  conv => whnf
  refine ⟨_, Cell.mk s.box rfl, ?_⟩
  conv => whnf
  refine ⟨fun env hh => ∃ (j : Nat) (z : Int) (po : Option (Nat × Nat)), j ≤ U.length ∧ z = j ∧ NewSl h hh po j 1 (bools (maskJ U j)) ∧ Ab.Mod none_ h hh ∧
      env = [(11, i64 z), (2, .sl po j), (10, i64 U.length), (0, .ptr (some (g, 0)))],
    fun env _ => match get env 11 with
      | .int _ z => (U.length - z).toNat
      | _ => 0, ⟨_, Forget.cons rfl (Forget.cons rfl (Forget.cons rfl (Forget.cons rfl (Forget.nil _)))), 0, _, none, Nat.zero_le _, rfl, NewSl.nil _ _ _, ⟨Nat.le_refl _, fun _ _ _ => rfl⟩, rfl⟩, ?_⟩
  rintro _ hh ⟨j, z, po, hj, rfl, no, mo, rfl⟩
  conv => whnf
  refine br_mk (fun hd => ?_) (fun hd => ?_)
  · conv => whnf
    have hd : j < U.length := by simpa using hd
    have st := s.old mo (fun _ _ k => k)
    refine (closed57 st j).mono ?_
    rintro _ h3 ⟨e3, rfl⟩
    subst e3
    have ec : clB U j = decide (0 < U.getD j 0) := by
      rw [clB, decide_eq_true (by omega), decide_eq_true (show (j : Int) < (U.length : Int) by omega)]
      rfl
    rw [ec]
    conv => whnf
    have mP := Mod.push none_ h3 (.row true 1 [.bool (decide (0 < U.getD j 0))])
    have gP : (h3.push (.row true 1 [.bool (decide (0 < U.getD j 0))])).obj h3.next = some (.row true 1 [.bool (decide (0 < U.getD j 0))]) := H.obj_push_new _ _
    have nP := NewSl.kept no mP
    refine ⟨_, _, nP.1, (SlIs.row (n := 1) gP rfl).weak, by rw [show (T.at_ 4).bytes = 1 from rfl]; omega, by omega, fun po2 h4 hs hm4 hf => ?_⟩
    have no2 := NewSl.app nP hs hf (Nat.le_trans mo.next mP.next)
    have mo2 := NewSl.mod nP (mod_none mo mP) hm4
    conv => whnf
    have e6 : bools (maskJ U j) ++ [V.bool (decide (0 < U.getD j 0))] = bools (maskJ U (j + 1)) := by rw [maskJ_succ, bools, bools, List.map_append]; rfl
    rw [e6] at no2
    refine ⟨_, Forget.cons rfl (Forget.cons rfl (Forget.cons rfl (Forget.cons rfl (Forget.nil _)))), ⟨j + 1, _, po2, hd, succ_i64 hd (by omega), no2, mo2, rfl⟩, ?_⟩
    exact mu_lt hd (by omega)
  · conv => whnf
    have hd : ¬ j < U.length := by simpa using hd
    obtain rfl : j = U.length := by omega
    exact ⟨po, rfl, no, mo⟩
end Go.Proofs.Ytpefdmidfllhoaa
