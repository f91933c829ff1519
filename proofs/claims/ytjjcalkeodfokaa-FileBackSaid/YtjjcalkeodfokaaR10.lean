/- Files: what is known of bytes that are read; graphs that are built up. -/
import Derived.Test.YtjjcalkeodfokaaR9
set_option linter.unusedVariables false
namespace Go.Proofs.Ytjjcalkeodfokaa
open Go Go.Ab
def gra0 : Gra := ⟨none, [], none, [], none, []⟩
structure EncF (b : List Int) (g : Gra) : Prop where
  ok : mayG g = true
  is : bodyF g ++ sum4 (sumV (bodyF g)) = b
def eqG (g g1 : Gra) : Prop := g1.ns = g.ns ∧ g1.es = g.es ∧ g1.bs = g.bs
theorem eqG.form {g g1 : Gra} (e : eqG g g1) : g1 = ⟨g1.np, g.ns, g1.ep, g.es, g1.bp, g.bs⟩ := by
  obtain ⟨h1, h2, h3⟩ := e
  cases g1
  simp only at h1 h2 h3
  subst h1 h2 h3
  rfl
theorem eqG.may {g g1 : Gra} (e : eqG g g1) : mayG g1 = mayG g := by
  rw [e.form]
  rfl
theorem eqG.body {g g1 : Gra} (e : eqG g g1) : bodyF g1 = bodyF g := by
  rw [e.form]
  rfl
theorem eqG.enc {g g1 : Gra} (e : eqG g g1) : encF g1 = encF g := by
  rw [encF, encF, e.may, e.body]
theorem bodyF_bts (g : Gra) : Bts (bodyF g) := by
  refine Bts.append (fun x hx => ?_) (flatB_bts 2 _)
  simp only [mile, List.mem_cons, List.not_mem_nil, or_false] at hx
  omega
theorem encF_bts (g : Gra) : Bts (encF g) := by
  rw [encF]
  split
  · exact Bts.append (bodyF_bts g) (sum4_bts _)
  · intro x hx
    cases hx
theorem EncF.enc {b : List Int} {g : Gra} (e : EncF b g) : encF g = b := by
  rw [encF, e.ok, if_pos rfl, e.is]
theorem encF_iff {b : List Int} {g : Gra} (h : mayG g = true) (e : encF g = b) : EncF b g := by
  refine ⟨h, ?_⟩
  rw [encF, h, if_pos rfl] at e
  exact e
def DecFA (b : List Int) (g1 : Gra) (ok : Bool) : Prop := (ok = true ∧ EncF b g1 ∧ ∀ g, EncF b g → eqG g g1) ∨ (ok = false ∧ g1 = gra0 ∧ ∀ g, ¬ EncF b g)
theorem decFA_no {b : List Int} (h : ∀ g, ¬ EncF b g) : DecFA b gra0 false := .inr ⟨rfl, rfl, h⟩
theorem decFA_yes {b : List Int} {g1 : Gra} (h : mayG g1 = true) (e : encF g1 = b) (hk : ∀ g, EncF b g → eqG g g1) : DecFA b g1 true := .inl ⟨rfl, encF_iff h e, hk⟩
theorem encF_not {b : List Int} {g1 : Gra} (hk : ∀ g, EncF b g → eqG g g1) (h : mayG g1 = false ∨ encF g1 ≠ b) : ∀ g, ¬ EncF b g := fun g e => by
  have k := hk g e
  rcases h with h | h
  · rw [k.may, e.ok] at h
    cases h
  · exact h (by rw [k.enc, e.enc])
structure KnF (b xs : List Int) (sp : Bool) (R : Gra → List Int) : Prop where
  bts : Bts xs
  kn : ∀ g, EncF b g → sp = false ∧ xs = flatB 2 (R g) ++ sum4 (sumV (bodyF g)) ∧ Fit 2 (R g)
theorem KnF.cast {b xs : List Int} {sp : Bool} {R R' : Gra → List Int} (k : KnF b xs sp R) (h : ∀ g, EncF b g → R g = R' g) : KnF b xs sp R' :=
  ⟨k.bts, fun g e => by rw [← h g e]; exact k.kn g e⟩
theorem KnF.num {b xs : List Int} {sp : Bool} {R : Gra → List Int} (kr : KnF b xs sp R) (val : Gra → Int) (R' : Gra → List Int) (hR : ∀ m, EncF b m → R m = val m :: R' m) {g : Nat} {h h' : H} {v : V} (q : NumQ g xs sp 2 h v h') :
    ∃ (n : Int) (xs' : List Int) (sp' : Bool), v = i64 n ∧ (∀ m, EncF b m → n = val m) ∧ (0 ≤ n ∧ n < 65536) ∧ Rdr h' g xs' sp' ∧ KnF b xs' sp' R' ∧ xs'.length ≤ xs.length ∧ Ab.Mod (one g) h h' := by
  have q : NumQ' g xs sp ((2 : Nat) : Int) h v h' := q
  obtain ⟨e, r, m⟩ := q
  obtain ⟨l1, l2, l3, l4⟩ := rawV_len (xs := xs) (sp := sp) (k := 2)
  have hp2 : 256 ^ (rawV xs sp ((2 : Nat) : Int)).length ≤ 256 ^ 2 := Nat.pow_le_pow_right (by decide) l1
  have h256 : (256 : Nat) ^ 2 = 65536 := by decide
  obtain ⟨n, f1, f2⟩ := fold_bound (rawV xs sp ((2 : Nat) : Int)) 0 (l2 kr.bts) (by omega)
  have f1 : (rawV xs sp ((2 : Nat) : Int)).foldl shOr 0 = (n : Int) := f1
  have key : ∀ m, EncF b m → sp = false ∧ xs = be (val m) 2 ++ (flatB 2 (R' m) ++ sum4 (sumV (bodyF m))) ∧ (0 ≤ val m ∧ val m < 2 ^ (8 * 2)) ∧ Fit 2 (R' m) := fun m hm => by
    obtain ⟨s, x, f⟩ := kr.kn m hm
    rw [hR m hm] at x f
    refine ⟨s, ?_, f _ (List.mem_cons_self ..), fun y hy => f y (List.mem_cons_of_mem _ hy)⟩
    rw [x, ← List.append_assoc]
    rfl
  refine ⟨_, _, _, e, fun m hm => ?_, ?_, r, ⟨l3 kr.bts, fun m hm => ?_⟩, l4, m⟩
  · obtain ⟨s, x, f, _⟩ := key m hm
    subst x
    subst s
    exact (read_num (k := 2) (by decide) (by decide) f.1 f.2 _).2.2
  · rw [f1]
    omega
  · obtain ⟨s, x, f, f'⟩ := key m hm
    subst x
    subst s
    obtain ⟨t1, t2, _⟩ := read_num (k := 2) (by decide) (by decide) f.1 f.2 (flatB 2 (R' m) ++ sum4 (sumV (bodyF m)))
    have t1 : rawOk (be (val m) 2 ++ (flatB 2 (R' m) ++ sum4 (sumV (bodyF m)))) false ((2 : Nat) : Int) = true := t1
    have t2 : rawX (be (val m) 2 ++ (flatB 2 (R' m) ++ sum4 (sumV (bodyF m)))) false ((2 : Nat) : Int) = _ := t2
    exact ⟨by rw [t1]; rfl, t2, f'⟩
theorem fit_nums {g : Gra} (h : mayG g = true) : Fit 2 (numsF g) := by
  intro v hv
  simp only [numsF, List.mem_append, List.mem_flatMap] at hv
  rcases hv with ((hv | ⟨a, ha, hv⟩) | ⟨a, ha, hv⟩) | ⟨a, ha, hv⟩
  · exact fit_head h v hv
  · obtain ⟨j, hj, rfl⟩ := List.getElem_of_mem ha
    exact fit_node h hj v hv
  · obtain ⟨j, hj, rfl⟩ := List.getElem_of_mem ha
    exact fit_edge h hj v hv
  · obtain ⟨j, hj, rfl⟩ := List.getElem_of_mem ha
    exact fit_ban h hj v hv
theorem EncF.split {b : List Int} {g : Gra} (e : EncF b g) : b = mile ++ (flatB 2 (numsF g) ++ sum4 (sumV (bodyF g))) := by
  have := e.is
  rw [← this, bodyF, List.append_assoc]
theorem EncF.raw {b : List Int} {g : Gra} (e : EncF b g) : rawOk b false 4 = true ∧ rawV b false 4 = mile ∧ rawX b false 4 = flatB 2 (numsF g) ++ sum4 (sumV (bodyF g)) := by
  have h := e.split
  have hl : b.length = 4 + (flatB 2 (numsF g) ++ sum4 (sumV (bodyF g))).length := by
    rw [h, List.length_append]
    rfl
  have ho : rawOk b false 4 = true := by
    simp [rawOk]
    omega
  refine ⟨ho, ?_, ?_⟩
  · rw [rawV, ho, if_pos rfl, h]
    exact List.take_left' rfl
  · rw [rawX, ho, if_pos rfl, h]
    exact List.drop_left' rfl
theorem KnF.start {b : List Int} (hb : Bts b) : KnF b (rawX b false 4) (!rawOk b false 4) numsF := by
  obtain ⟨l1, l2, l3, l4⟩ := rawV_len (xs := b) (sp := false) (k := 4)
  refine ⟨l3 hb, fun g e => ?_⟩
  obtain ⟨h1, h2, h3⟩ := e.raw
  exact ⟨by rw [h1]; rfl, h3, fit_nums e.ok⟩
theorem KnF.left {b xs : List Int} {sp : Bool} {R : Gra → List Int} (kr : KnF b xs sp R) (h : ¬ 0 < leftV xs sp) : ∀ g, ¬ EncF b g := fun g e => by
  obtain ⟨s, x, _⟩ := kr.kn g e
  apply h
  rw [leftV, s, if_neg (by decide), x, List.length_append, sum4_length]
  omega
def Rn (j : Nat) (g : Gra) : List Int := ((g.ns.drop j).flatMap pN ++ g.es.flatMap eN) ++ g.bs.flatMap pN
def Re (j : Nat) (g : Gra) : List Int := (g.es.drop j).flatMap eN ++ g.bs.flatMap pN
def Rb (j : Nat) (g : Gra) : List Int := (g.bs.drop j).flatMap pN
def nAt (g : Gra) (j : Nat) : Int × Int := g.ns.getD j (0, 0)
def eAt (g : Gra) (j : Nat) : Int × Int × Int := g.es.getD j (0, 0, 0)
def bAt (g : Gra) (j : Nat) : Int × Int := g.bs.getD j (0, 0)
theorem drop_cons' {α : Type} {l : List α} {j : Nat} (d : α) (h : j < l.length) : l.drop j = l.getD j d :: l.drop (j + 1) := by
  rw [List.drop_eq_getElem_cons h, List.getD_eq_getElem?_getD, List.getElem?_eq_getElem h]
  rfl
theorem take_snoc' {α : Type} {l : List α} {j : Nat} (d : α) (h : j < l.length) : l.take (j + 1) = l.take j ++ [l.getD j d] := by
  rw [List.take_add_one, List.getElem?_eq_getElem h, List.getD_eq_getElem?_getD, List.getElem?_eq_getElem h]
  rfl
theorem Rn_cons {g : Gra} {j : Nat} (h : j < g.ns.length) : Rn j g = (nAt g j).1 :: (nAt g j).2 :: Rn (j + 1) g := by
  rw [Rn, drop_cons' (0, 0) h]
  rfl
theorem Re_cons {g : Gra} {j : Nat} (h : j < g.es.length) : Re j g = (eAt g j).1 :: (eAt g j).2.1 :: (eAt g j).2.2 :: Re (j + 1) g := by
  rw [Re, drop_cons' (0, 0, 0) h]
  rfl
theorem Rb_cons {g : Gra} {j : Nat} (h : j < g.bs.length) : Rb j g = (bAt g j).1 :: (bAt g j).2 :: Rb (j + 1) g := by
  rw [Rb, drop_cons' (0, 0) h]
  rfl
theorem numsF_eq (g : Gra) : numsF g = (g.ns.length : Int) :: (g.es.length : Int) :: (g.bs.length : Int) :: Rn 0 g := rfl
theorem Rn_end {g : Gra} {j : Nat} (h : j = g.ns.length) : Rn j g = Re 0 g := by
  rw [Rn, h, List.drop_length]
  rfl
theorem Re_end {g : Gra} {j : Nat} (h : j = g.es.length) : Re j g = Rb 0 g := by
  rw [Re, h, List.drop_length]
  rfl
theorem Rb_end {g : Gra} {j : Nat} (h : j = g.bs.length) : Rb j g = [] := by
  rw [Rb, h, List.drop_length]
  rfl
/-- a graph that is built up: its cells, the reader, the row that grows -/
def two (a b : Nat) : Nat → Prop := fun i => i = a ∨ i = b
structure Bld (hb hh : H) (gc gr : Nat) (row : List V) (p : Option (Nat × Nat)) (n sz : Nat) (cs : List V) (xs : List Int) (sp : Bool) : Prop where
  ob : hh.obj gc = some (.row true 3 row)
  rd : Rdr hh gr xs sp
  sl : SlIs hh p n true sz cs
  fr : ∀ i o, p = some (i, o) → hb.next ≤ i
  m : Ab.Mod (two gc gr) hb hh
  l1 : gc < hb.next
  l2 : gr < hb.next
  ne : gc ≠ gr
theorem Bld.num {hb hh h' : H} {gc gr : Nat} {row : List V} {p : Option (Nat × Nat)} {n sz : Nat} {cs : List V} {xs xs' : List Int} {sp sp' : Bool} (w : Bld hb hh gc gr row p n sz cs xs sp) (r : Rdr h' gr xs' sp') (m : Ab.Mod (one gr) hh h') : Bld hb h' gc gr row p n sz cs xs' sp' :=
  ⟨m.get w.ob (.inl w.ne), r, w.sl.get m (fun i o e => .inl (fun k => by
    have := w.fr i o e
    have := w.l2
    unfold one at k
    omega)), w.fr, w.m.trans' m (fun _ _ k => k) (fun _ _ k => .inr k), w.l1, w.l2, w.ne⟩
theorem Bld.keep {hb hh h' : H} {gc gr : Nat} {row : List V} {p : Option (Nat × Nat)} {n sz : Nat} {cs : List V} {xs : List Int} {sp : Bool} (w : Bld hb hh gc gr row p n sz cs xs sp) (m : Ab.Mod none_ hh h') : Bld hb h' gc gr row p n sz cs xs sp :=
  ⟨m.get w.ob (.inl (fun k => k)), w.rd.get m (fun k => k), SlIs.old w.sl m (fun _ _ k => k), w.fr, w.m.trans' m (fun _ _ k => k) (fun _ _ k => k.elim), w.l1, w.l2, w.ne⟩
theorem Bld.app {hb hh h' : H} {gc gr : Nat} {row : List V} {p p' : Option (Nat × Nat)} {n k sz : Nat} {cs ys : List V} {xs : List Int} {sp : Bool} (w : Bld hb hh gc gr row p n sz cs xs sp) (s : SlIs h' p' (n + k) true sz (cs ++ ys)) (m : Ab.Mod (inSl p) hh h') (f : isFresh hh p p') : Bld hb h' gc gr row p' (n + k) sz (cs ++ ys) xs sp := by
  have hs : ∀ i, i < hb.next → ¬ inSl p i := fun i hi ⟨o, e⟩ => by
    have := w.fr i o e
    omega
  refine ⟨m.get w.ob (.inl (hs _ w.l1)), w.rd.get m (hs _ w.l2), s, fun i o e => ?_, w.m.trans' m (fun _ _ k => k) (fun i hi k => absurd k (hs i hi)), w.l1, w.l2, w.ne⟩
  rcases f i o e with k | k
  · exact w.fr i o (by rw [← k, e])
  · exact Nat.le_trans w.m.next k
theorem Bld.put {hb hh : H} {gc gr : Nat} {row : List V} {p : Option (Nat × Nat)} {n sz : Nat} {cs : List V} {xs : List Int} {sp : Bool} (w : Bld hb hh gc gr row p n sz cs xs sp) (row' : List V) : Bld hb (hh.set gc (.row true 3 row')) gc gr row' p n sz cs xs sp := by
  have ms : Ab.Mod (one gc) hh (hh.set gc (.row true 3 row')) := Mod.set rfl w.ob rfl
  exact ⟨H.obj_set_same w.ob, w.rd.get ms (fun k => w.ne k.symm), w.sl.get ms (fun i o e => .inl (fun k => by
    have := w.fr i o e
    have := w.l1
    unfold one at k
    omega)), w.fr, w.m.trans' ms (fun _ _ k => k) (fun _ _ k => .inl k), w.l1, w.l2, w.ne⟩
end Go.Proofs.Ytjjcalkeodfokaa
