/- The set's calls, what they hand back being read alone from then on; the words that the document fixes. -/
import Derived.Test.YtpefdmidfllhoaaQ10
set_option linter.unusedVariables false
namespace Go.Proofs.Ytpefdmidfllhoaa
open Go Go.Ab
theorem St.ro {h : H} {g : Nat} {p : Option (Nat × Nat)} {U : List Int} (s : St h g p U) {i : Nat} (hi : ∀ j, foot g p j → j ≠ i) : St (h.ro i) g p U :=
  ⟨by rw [H.ro_ne _ (hi g (.inl rfl))]; exact s.box, SlIs.ro_ne s.row (fun j o e => hi j (.inr ⟨o, e⟩)), s.sep⟩
theorem fz {S : Nat → Prop} {h h' : H} {q : Option (Nat × Nat)} {n sz : Nat} {cs : List V} {g : Nat} {p : Option (Nat × Nat)} {U U' : List Int} (s : St h g p U) (nq : NewSl h h' q n sz cs) (s' : St h' g p U') (m : Ab.Mod S h h') :
    ∃ i, RoSl (h'.ro i) q n sz cs ∧ St (h'.ro i) g p U' ∧ Ab.Mod S h (h'.ro i) := by
  obtain ⟨i, h1, h2, h3⟩ := nq.freeze m
  exact ⟨i, h2, St.ro s' (fun j hj => by
    have := s.lt j hj
    omega), h3⟩
def clO (U : List Int) (ok : Bool) (u : Int) (E : List Int) : List Int := if ok then outV U u E else []
def clU (U : List Int) (ok : Bool) (u : Int) (E : List Int) : List Int := if ok then setV U u E else U
def ClR (h : H) (g : Nat) (p : Option (Nat × Nat)) (U : List Int) (ok : Bool) (u : Int) (E : List Int) (r : V) (h' : H) : Prop :=
  ∃ q, r = .tup [.sl q (clO U ok u E).length, i64 (if ok then 0 else 1)] ∧ RoSl h' q (clO U ok u E).length 1 (ints .i64 (clO U ok u E)) ∧ St h' g p (clU U ok u E) ∧ Ab.Mod (inSl p) h h'
theorem clQ_ro {h : H} {g : Nat} {p : Option (Nat × Nat)} {U : List Int} (s : St h g p U) {ok : Bool} {u : Int} {E : List Int} (r : V) (h' : H) (q : ClQ h g p U ok u E r h') : ∃ i, ClR h g p U ok u E r (h'.ro i) := by
  rcases q with ⟨rfl, rfl, a, b⟩ | ⟨rfl, q, rfl, a, b, c⟩
  · obtain ⟨i, h1, h2, h3⟩ := fz s (NewSl.nil h h' 1) a b
    exact ⟨i, none, rfl, h1, h2, h3⟩
  · obtain ⟨i, h1, h2, h3⟩ := fz s a b c
    exact ⟨i, q, rfl, h1, h2, h3⟩
theorem close46r {h : H} {g : Nat} {p q : Option (Nat × Nat)} {U E : List Int} (s : St h g p U) {m : Nat} (nm : SlIs h q m false 1 (ints .i64 E)) (hm : m ≤ 100000) (hU : U.length ≤ 512) (u : Int) :
    ACalls Try.prog 46 [.ptr (some (g, 0)), i64 u, .sl q m] h (ClR h g p U (okC U.length u E) u E) := (close46 s nm hm hU u).ro (clQ_ro s)
theorem open48r {h : H} {g : Nat} {p q : Option (Nat × Nat)} {U E : List Int} (s : St h g p U) {m : Nat} (nm : SlIs h q m false 1 (ints .i64 E)) (hm : m ≤ 100000) (hU : U.length ≤ 512) :
    ACalls Try.prog 48 [.ptr (some (g, 0)), .sl q m] h (ClR h g p U (inE U.length E) 0 E) := (open48 s nm hm hU).ro (clQ_ro s)
theorem close47r {h : H} {g : Nat} {p q : Option (Nat × Nat)} {U E : List Int} (s : St h g p U) {m : Nat} (nm : Nums (inSl p) h q m E) (hm : m ≤ 100000) (hU : U.length ≤ 512) (hp : Pos U) (u : Int) :
    ACalls Try.prog 47 [.ptr (some (g, 0)), i64 u, .sl q m] h (ClR h g p U (okC U.length u E) u E) := (close47 s nm hm hU hp u).ro (clQ_ro s)
theorem open49r {h : H} {g : Nat} {p q : Option (Nat × Nat)} {U E : List Int} (s : St h g p U) {m : Nat} (nm : Nums (inSl p) h q m E) (hm : m ≤ 100000) (hU : U.length ≤ 512) (hp : Pos U) :
    ACalls Try.prog 49 [.ptr (some (g, 0)), .sl q m] h (ClR h g p U (inE U.length E) 0 E) := (open49 s nm hm hU hp).ro (clQ_ro s)
def LapseR (h : H) (g : Nat) (p : Option (Nat × Nat)) (U : List Int) (now : Int) (r : V) (h' : H) : Prop :=
  ∃ q, r = .sl q (lapseV U now).length ∧ RoSl h' q (lapseV U now).length 1 (ints .i64 (lapseV U now)) ∧ St h' g p (setV U 0 (lapseV U now)) ∧ Ab.Mod (inSl p) h h'
theorem lapseQ_ro {h : H} {g : Nat} {p : Option (Nat × Nat)} {U : List Int} (s : St h g p U) {now : Int} (r : V) (h' : H) (q : LapseQ h g p U now r h') : ∃ i, LapseR h g p U now r (h'.ro i) := by
  obtain ⟨q, rfl, a, b, c⟩ := q
  obtain ⟨i, h1, h2, h3⟩ := fz s a b c
  exact ⟨i, q, rfl, h1, h2, h3⟩
theorem lapse50r {h : H} {g : Nat} {p : Option (Nat × Nat)} {U : List Int} (s : St h g p U) (hU : U.length ≤ 512) (now : Int) : ACalls Try.prog 50 [.ptr (some (g, 0)), i64 now] h (LapseR h g p U now) := (lapse50 s hU now).ro (lapseQ_ro s)
theorem lapse51r {h : H} {g : Nat} {p : Option (Nat × Nat)} {U : List Int} (s : St h g p U) (hU : U.length ≤ 512) (hp : Pos U) (now : Int) : ACalls Try.prog 51 [.ptr (some (g, 0)), i64 now] h (LapseR h g p U now) := (lapse51 s hU hp now).ro (lapseQ_ro s)
def AllR (h : H) (U : List Int) (r : V) (h' : H) : Prop := ∃ q, r = .sl q (allV U).length ∧ RoSl h' q (allV U).length 2 ((allV U).flatMap shC) ∧ Ab.Mod none_ h h'
theorem allQ_ro {h : H} {U : List Int} (r : V) (h' : H) (q : AllQ h U r h') : ∃ i, AllR h U r (h'.ro i) := by
  obtain ⟨q, rfl, a, b⟩ := q
  obtain ⟨i, h1, h2, h3⟩ := a.freeze b
  exact ⟨i, q, rfl, h2, h3⟩
theorem all55r {h : H} {g : Nat} {p : Option (Nat × Nat)} {U : List Int} (s : St h g p U) (hU : U.length ≤ 512) : ACalls Try.prog 55 [.ptr (some (g, 0))] h (AllR h U) := (all55 s hU).ro allQ_ro
theorem all56r {h : H} {g : Nat} {p : Option (Nat × Nat)} {U : List Int} (s : St h g p U) (hU : U.length ≤ 512) (hp : Pos U) : ACalls Try.prog 56 [.ptr (some (g, 0))] h (AllR h U) := (all56 s hU hp).ro allQ_ro
def MaskR (h : H) (U : List Int) (r : V) (h' : H) : Prop := ∃ q, r = .sl q U.length ∧ RoSl h' q U.length 1 (bools (maskV U)) ∧ Ab.Mod none_ h h'
theorem maskQ_ro {h : H} {U : List Int} (r : V) (h' : H) (q : MaskQ h U r h') : ∃ i, MaskR h U r (h'.ro i) := by
  obtain ⟨q, rfl, a, b⟩ := q
  obtain ⟨i, h1, h2, h3⟩ := a.freeze b
  exact ⟨i, q, rfl, h2, h3⟩
theorem mask52r {h : H} {g : Nat} {p : Option (Nat × Nat)} {U : List Int} (s : St h g p U) (hU : U.length ≤ 512) : ACalls Try.prog 52 [.ptr (some (g, 0))] h (MaskR h U) := (mask52 s hU).ro maskQ_ro
theorem mask53r {h : H} {g : Nat} {p : Option (Nat × Nat)} {U : List Int} (s : St h g p U) (hU : U.length ≤ 512) (hp : Pos U) : ACalls Try.prog 53 [.ptr (some (g, 0))] h (MaskR h U) := (mask53 s hU hp).ro maskQ_ro
theorem new_yes {n : Int} {h h' : H} {r : V} (q : NewQ n h r h') (hn : inR n 0 512 = true) : ∃ g p, r = .ptr (some (g, 0)) ∧ St h' g p (List.replicate n.toNat 0) ∧ (∀ i, foot g p i → h.next ≤ i) ∧ Ab.Mod none_ h h' := by
  rcases q with ⟨e, _⟩ | ⟨_, q⟩
  · rw [hn] at e
    cases e
  · exact q
theorem new_no {n : Int} {h h' : H} {r : V} (q : NewQ n h r h') (hn : inR n 0 512 = false) : r = .ptr none ∧ Ab.Mod none_ h h' := by
  rcases q with ⟨_, q⟩ | ⟨e, _⟩
  · exact q
  · rw [hn] at e
    cases e
/-- a row that is laid, of numbers -/
theorem laid_row (h : H) (zs : List Int) : SlIs (h.push (.row true 1 (ints .i64 zs))) (some (h.next, 0)) zs.length false 1 (ints .i64 zs) ∧ Ab.Mod none_ h (h.push (.row true 1 (ints .i64 zs))) :=
  ⟨(SlIs.row (n := zs.length) (H.obj_push_new _ _) (by rw [ints_length, Nat.mul_one])).weak, Mod.push none_ h _⟩
theorem ClR.val {h : H} {g : Nat} {p : Option (Nat × Nat)} {U : List Int} {ok : Bool} {u : Int} {E : List Int} {r : V} {h' : H} (c : ClR h g p U ok u E r h') (b : Bool) (out U' : List Int) (hb : ok = b) (ho : clO U b u E = out) (hU : clU U b u E = U') :
    ∃ q, r = .tup [.sl q out.length, i64 (if b then 0 else 1)] ∧ RoSl h' q out.length 1 (ints .i64 out) ∧ St h' g p U' ∧ Ab.Mod (inSl p) h h' := by
  subst hb ho hU
  exact c
theorem LapseR.val {h : H} {g : Nat} {p : Option (Nat × Nat)} {U : List Int} {now : Int} {r : V} {h' : H} (c : LapseR h g p U now r h') (out U' : List Int) (ho : lapseV U now = out) (hU : setV U 0 out = U') :
    ∃ q, r = .sl q out.length ∧ RoSl h' q out.length 1 (ints .i64 out) ∧ St h' g p U' ∧ Ab.Mod (inSl p) h h' := by
  subst ho hU
  exact c
def nuls : Nat → List Int := fun n => List.replicate n 0
theorem awake43 (h : H) : ACalls Try.prog 43 [] h (fun r h' => r = .bool true) := by
  refine call_ Try.func43 rfl rfl (by kernel_rfl) ?_
  conv => whnf
  refine (new44 h 3).mono ?_
  rintro _ h1 q
  obtain ⟨g, p, rfl, s1, _, m1⟩ := new_yes q rfl
  clear q
  have s1 : St h1 g p [0, 0, 0] := s1
  conv => whnf
  -- Close(5, 2, 1, 2)
  obtain ⟨l1, n1⟩ := laid_row h1 [2, 1, 2]
  refine (close46r (s1.old n1 (fun _ _ k => k)) l1 (by decide) (by decide) 5).mono (fun r h2 c => ?_)
  obtain ⟨q1, rfl, r1, s2, m2⟩ := c.val true [1, 2] [0, 5, 5] (by decide) (by decide) (by decide)
  clear c
  conv => whnf
  refine ⟨_, rfl, ?_⟩
  conv => whnf
  refine ⟨_, rfl, ?_⟩
  conv => whnf
  -- Close(5, 3)
  obtain ⟨l2, n2⟩ := laid_row h2 [3]
  have r1a := r1.get n2
  refine (close46r (s2.old n2 (fun _ _ k => k)) l2 (by decide) (by decide) 5).mono (fun r h3 c => ?_)
  obtain ⟨q2, rfl, r2, s3, m3⟩ := c.val false [] [0, 5, 5] (by decide) (by decide) (by decide)
  clear c
  have r1b := r1a.get m3
  conv => whnf
  refine ⟨_, rfl, ?_⟩
  conv => whnf
  refine ⟨_, rfl, ?_⟩
  conv => whnf
  -- Close(7, 2)
  obtain ⟨l3, n3⟩ := laid_row h3 [2]
  refine (close46r (s3.old n3 (fun _ _ k => k)) l3 (by decide) (by decide) 7).mono (fun r h4 c => ?_)
  obtain ⟨q3, rfl, r3, s4, m4⟩ := c.val true [] [0, 5, 7] (by decide) (by decide) (by decide)
  clear c
  have r1c := (r1b.get n3).get m4
  conv => whnf
  refine ⟨_, rfl, ?_⟩
  conv => whnf
  refine ⟨_, rfl, ?_⟩
  conv => whnf
  -- Lapse(4), Lapse(5)
  refine (lapse50r s4 (by decide) 4).mono (fun r h5 c => ?_)
  obtain ⟨q4, rfl, r4, s5, m5⟩ := c.val [] [0, 5, 7] (by decide) (by decide)
  clear c
  conv => whnf
  refine (lapse50r s5 (by decide) 5).mono (fun r h6 c => ?_)
  obtain ⟨q5, rfl, r5, s6, m6⟩ := c.val [1] [0, 0, 7] (by decide) (by decide)
  clear c
  conv => whnf
  -- Mask
  refine (mask52r s6 (by decide)).mono ?_
  rintro _ h7 ⟨q6, rfl, r6, m7⟩
  have r6 : RoSl h7 q6 3 1 (bools [false, false, true]) := r6
  conv => whnf
  -- Open(0, 2)
  have s7 := s6.old m7 (fun _ _ k => k)
  obtain ⟨l4, n4⟩ := laid_row h7 [0, 2]
  refine (open48r (s7.old n4 (fun _ _ k => k)) l4 (by decide) (by decide)).mono (fun r h8 c => ?_)
  obtain ⟨q7, rfl, r7, s8, m8⟩ := c.val true [2] [0, 0, 0] (by decide) (by decide) (by decide)
  clear c
  conv => whnf
  refine ⟨_, rfl, ?_⟩
  conv => whnf
  refine ⟨_, rfl, ?_⟩
  conv => whnf
  -- a set that is none
  refine (close46n h8 none 0 1).mono ?_
  rintro _ h9 ⟨rfl, m9⟩
  conv => whnf
  refine ⟨_, rfl, ?_⟩
  conv => whnf
  refine ⟨_, rfl, ?_⟩
  conv => whnf
  have r1d := (((((r1c.get m5).get m6).get m7).get n4).get m8).get m9
  have r5d := (((r5.get m7).get n4).get m8).get m9
  have r6d := ((r6.get n4).get m8).get m9
  have r7d := r7.get m9
  have s9 := s8.old m9 (fun _ _ k => k)
  obtain ⟨l5, n5⟩ := laid_row h9 [1, 2]
  refine (ints33 (r1d.get n5).is l5 (by decide)).mono ?_
  rintro _ h10 ⟨eh, rfl⟩
  subst eh
  conv => whnf
  obtain ⟨l6, n6⟩ := laid_row (h9.push (.row true 1 (ints .i64 [1, 2]))) [1]
  refine (ints33 ((r5d.get n5).get n6).is l6 (by decide)).mono ?_
  rintro _ h11 ⟨eh, rfl⟩
  subst eh
  conv => whnf
  have r6e := (r6d.get n5).get n6
  obtain ⟨i1, c1, f1, f2⟩ := slb_get (l := [false, false, true]) r6e.is rfl (j := 2) (by decide)
  refine ⟨i1, c1, 2, f1, rfl, by decide, ?_⟩
  conv => whnf
  refine ⟨_, f2, ?_⟩
  conv => whnf
  obtain ⟨i2, c2, k1, k2⟩ := slb_get (l := [false, false, true]) r6e.is rfl (j := 1) (by decide)
  refine ⟨i2, c2, 1, k1, rfl, by decide, ?_⟩
  conv => whnf
  refine ⟨_, k2, ?_⟩
  conv => whnf
  have r7e := (r7d.get n5).get n6
  have s9e := (s9.old n5 (fun _ _ k => k)).old n6 (fun _ _ k => k)
  obtain ⟨l7, n7⟩ := laid_row ((h9.push (.row true 1 (ints .i64 [1, 2]))).push (.row true 1 (ints .i64 [1]))) [2]
  refine (ints33 (r7e.get n7).is l7 (by decide)).mono ?_
  rintro _ h12 ⟨eh, rfl⟩
  subst eh
  conv => whnf
  have s10 := s9e.old n7 (fun _ _ k => k)
  refine (closed57 s10 2).mono ?_
  rintro _ h13 ⟨eh, rfl⟩
  subst eh
  conv => whnf
  refine (all55r s10 (by decide)).mono ?_
  rintro _ h14 ⟨q8, rfl, r8, m14⟩
  conv => whnf
  refine (new44 h14 (-1)).mono ?_
  rintro _ h15 q
  obtain ⟨rfl, m15⟩ := new_no q rfl
  conv => whnf
  refine (closed57n h15 0).mono ?_
  rintro _ h16 ⟨eh, rfl⟩
  subst eh
  conv => whnf
  rfl
end Go.Proofs.Ytpefdmidfllhoaa
