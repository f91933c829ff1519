/- Towns: what a town's lists are, step by step. -/
import Derived.Test.YtjjcalkeodfokaaR15
set_option linter.unusedVariables false
namespace Go.Proofs.Ytjjcalkeodfokaa
open Go Go.Ab
def cf (v : Int) (es : List (Int × Int × Int)) : Nat := es.countP fun e => e.1 == v
theorem cf_snoc (v : Int) (es : List (Int × Int × Int)) (e : Int × Int × Int) : cf v (es ++ [e]) = cf v es + (if e.1 = v then 1 else 0) := by
  rw [cf, cf, List.countP_append, List.countP_cons, List.countP_nil]
  simp
theorem cf_take {es : List (Int × Int × Int)} {b : Nat} (hb : b < es.length) (v : Int) : cf v (es.take (b + 1)) = cf v (es.take b) + (if es[b].1 = v then 1 else 0) := by
  rw [List.take_add_one, List.getElem?_eq_getElem hb]
  exact cf_snoc v (es.take b) es[b]
def Qn (W i k : Nat) (v : Int) : Nat := (if v < i then 2 else 0) + (if v < i + 1 then 1 else 0) + (if v < i + W then 1 else 0) + (if v = i then k else 0) + (if 1 ≤ k ∧ v = i + 1 then 1 else 0) + (if 2 ≤ k ∧ v = i + W then 1 else 0)
structure Eo (N W i k : Nat) (es : List (Int × Int × Int)) : Prop where
  ok : ∀ e ∈ es, edgeOk (N - 1) e = true
  cnt : ∀ v, cf v es ≤ Qn W i k v
  len : es.length ≤ 4 * i + 2 * k
def nxt (W i k : Nat) : Nat := if k = 0 then i + 1 else i + W
theorem Qn_step {W i k : Nat} (hk : k < 2) (v : Int) : Qn W i (k + 1) v = Qn W i k v + (if (i : Int) = v then 1 else 0) + (if (nxt W i k : Int) = v then 1 else 0) := by
  unfold Qn nxt
  obtain rfl | rfl : k = 0 ∨ k = 1 := by omega
  · have e1 : ((i : Int) = v) = (v = i) := propext eq_comm
    have e2 : (((i + 1 : Nat) : Int) = v) = (v = i + 1) := by
      rw [Int.natCast_add]
      exact propext eq_comm
    simp only [if_pos, e1, e2]
    by_cases h1 : v = i <;> by_cases h2 : v = i + 1 <;> simp [h1, h2] <;> (repeat' split) <;> omega
  · have e1 : ((i : Int) = v) = (v = i) := propext eq_comm
    have e2 : (((i + W : Nat) : Int) = v) = (v = i + W) := by
      rw [Int.natCast_add]
      exact propext eq_comm
    simp only [e1, e2, if_neg (show ¬ (1 : Nat) = 0 by decide)]
    by_cases h1 : v = i <;> by_cases h2 : v = i + 1 <;> by_cases h3 : v = i + W <;> simp [h1, h2, h3] <;> (repeat' split) <;> omega
theorem Eo.skip {N W i k : Nat} {es : List (Int × Int × Int)} (o : Eo N W i k es) (hk : k < 2) : Eo N W i (k + 1) es := by
  refine ⟨o.ok, fun v => Nat.le_trans (o.cnt v) ?_, by have := o.len; omega⟩
  rw [Qn_step hk]
  omega
theorem Eo.step {N W i k : Nat} {es : List (Int × Int × Int)} (o : Eo N W i k es) (hk : k < 2) (hi : i < N) (hx : nxt W i k < N) (u w : Nat) (hu : u < 9) (hw : w < 9) (a b : Bool) :
    Eo N W i (k + 1) (es ++ (if a then [((i : Int), (nxt W i k : Int), 1 + (u : Int))] else []) ++ (if b then [((nxt W i k : Int), (i : Int), 1 + (w : Int))] else [])) := by
  have e1 : edgeOk (N - 1) ((i : Int), (nxt W i k : Int), 1 + (u : Int)) = true := by
    simp [edgeOk, inB]
    omega
  have e2 : edgeOk (N - 1) ((nxt W i k : Int), (i : Int), 1 + (w : Int)) = true := by
    simp [edgeOk, inB]
    omega
  have hl := o.len
  refine ⟨fun e he => ?_, fun v => ?_, ?_⟩
  · simp only [List.mem_append] at he
    rcases he with (he | he) | he
    · exact o.ok e he
    · cases a with
      | false => cases he
      | true =>
        obtain rfl := List.mem_singleton.1 he
        exact e1
    · cases b with
      | false => cases he
      | true =>
        obtain rfl := List.mem_singleton.1 he
        exact e2
  · rw [Qn_step hk]
    have hc := o.cnt v
    cases a <;> cases b <;> simp only [Bool.false_eq_true, if_false, if_true, List.append_nil, cf_snoc] <;> omega
  · cases a <;> cases b <;> simp <;> omega
theorem Eo.next {N W i : Nat} {es : List (Int × Int × Int)} (o : Eo N W i 2 es) : Eo N W (i + 1) 0 es := by
  refine ⟨o.ok, fun v => Nat.le_trans (o.cnt v) ?_, by have := o.len; omega⟩
  unfold Qn
  rw [Int.natCast_add]
  by_cases h1 : v = i
  · subst h1
    simp
    (repeat' split) <;> omega
  · by_cases h2 : v = i + 1 <;> by_cases h3 : v = i + W <;> simp [h1, h2, h3] <;> (repeat' split) <;> omega
structure Ex (N j : Nat) (es : List (Int × Int × Int)) : Prop where
  ok : ∀ e ∈ es, edgeOk (N - 1) e = true
  cnt : ∀ v, cf v es ≤ 4 + j
  len : es.length ≤ 64 + j
theorem Eo.ex {N W : Nat} {es : List (Int × Int × Int)} (o : Eo N W N 0 es) (hN : N ≤ 16) : Ex N 0 es := by
  refine ⟨o.ok, fun v => Nat.le_trans (o.cnt v) ?_, by have := o.len; omega⟩
  unfold Qn
  simp
  repeat' split
  all_goals omega
theorem Ex.add {N j : Nat} {es : List (Int × Int × Int)} (o : Ex N j es) {x y w : Nat} (hx : x < N) (hy : y < N) (hw : w < 40) : Ex N (j + 1) (es ++ [((x : Int), (y : Int), 1 + (w : Int))]) := by
  have e1 : edgeOk (N - 1) ((x : Int), (y : Int), 1 + (w : Int)) = true := by
    simp [edgeOk, inB]
    omega
  refine ⟨fun e he => ?_, fun v => ?_, ?_⟩
  · rcases List.mem_append.1 he with he | he
    · exact o.ok e he
    · obtain rfl := List.mem_singleton.1 he
      exact e1
  · rw [cf_snoc]
    have := o.cnt v
    split <;> omega
  · have := o.len
    simp
    omega
theorem Ex.one {N : Nat} (hN : 1 ≤ N) : Ex N 3 [(0, 0, 3)] := by
  refine ⟨fun e he => ?_, fun v => ?_, by decide⟩
  · obtain rfl := List.mem_singleton.1 he
    simp [edgeOk, inB]
    omega
  · have := List.countP_le_length (p := fun e : Int × Int × Int => e.1 == v) (l := [(0, 0, 3)])
    exact Nat.le_trans this (by decide)
theorem Ex.mono {N i j : Nat} {es : List (Int × Int × Int)} (o : Ex N i es) (h : i ≤ j) : Ex N j es := ⟨o.ok, fun v => Nat.le_trans (o.cnt v) (by omega), Nat.le_trans o.len (by omega)⟩
def toOf (es : List (Int × Int × Int)) (a : Nat) : Int := (es.getD a (0, 0, 0)).2.1
def frOf (es : List (Int × Int × Int)) (a : Nat) : Int := (es.getD a (0, 0, 0)).1
def lexlt (p q : Int × Int) : Prop := p.1 < q.1 ∨ (p.1 = q.1 ∧ p.2 < q.2)
structure Bo (es : List (Int × Int × Int)) (a b : Nat) (bs : List (Int × Int)) : Prop where
  ok : ∀ x ∈ bs, ∃ c d : Nat, x = ((c : Int), (d : Int)) ∧ c < es.length ∧ d < es.length ∧ toOf es c = frOf es d
  lt : ∀ x ∈ bs, lexlt x ((a : Int), (b : Int))
  ch : ∀ j, j + 1 < bs.length → lexlt (bs.getD j (0, 0)) (bs.getD (j + 1) (0, 0))
  len : bs.length ≤ 7 * a + cf (toOf es a) (es.take b)
theorem Bo.nil (es : List (Int × Int × Int)) : Bo es 0 0 [] := ⟨fun x h => (by cases h), fun x h => (by cases h), fun j h => (by simp at h), Nat.zero_le _⟩
theorem Bo.skip {es : List (Int × Int × Int)} {a b : Nat} {bs : List (Int × Int)} (o : Bo es a b bs) (hb : b < es.length) : Bo es a (b + 1) bs := by
  refine ⟨o.ok, fun x hx => ?_, o.ch, ?_⟩
  · have := o.lt x hx
    unfold lexlt at *
    simp only at *
    omega
  · have := o.len
    rw [cf_take hb]
    omega
theorem frOf_get {es : List (Int × Int × Int)} {b : Nat} (hb : b < es.length) : frOf es b = es[b].1 := by
  rw [frOf, List.getD_eq_getElem?_getD, List.getElem?_eq_getElem hb]
  rfl
theorem toOf_get {es : List (Int × Int × Int)} {b : Nat} (hb : b < es.length) : toOf es b = es[b].2.1 := by
  rw [toOf, List.getD_eq_getElem?_getD, List.getElem?_eq_getElem hb]
  rfl
theorem app_left {xs ys : List (Int × Int)} {j : Nat} (h : j < xs.length) : (xs ++ ys).getD j (0, 0) = xs.getD j (0, 0) := by
  rw [List.getD_eq_getElem?_getD, List.getElem?_append_left h, List.getD_eq_getElem?_getD]
theorem app_last {xs : List (Int × Int)} {y : Int × Int} : (xs ++ [y]).getD xs.length (0, 0) = y := by
  rw [List.getD_eq_getElem?_getD, List.getElem?_append_right (Nat.le_refl _), Nat.sub_self]
  rfl
theorem Bo.add {es : List (Int × Int × Int)} {a b : Nat} {bs : List (Int × Int)} (o : Bo es a b bs) (ha : a < es.length) (hb : b < es.length) (he : es[a].2.1 = es[b].1) : Bo es a (b + 1) (bs ++ [((a : Int), (b : Int))]) := by
  have he' : toOf es a = frOf es b := by rw [toOf_get ha, frOf_get hb, he]
  refine ⟨fun x hx => ?_, fun x hx => ?_, fun j hj => ?_, ?_⟩
  · rcases List.mem_append.1 hx with hx | hx
    · exact o.ok x hx
    · obtain rfl := List.mem_singleton.1 hx
      exact ⟨a, b, rfl, ha, hb, he'⟩
  · rcases List.mem_append.1 hx with hx | hx
    · have := o.lt x hx
      unfold lexlt at *
      simp only at *
      omega
    · obtain rfl := List.mem_singleton.1 hx
      refine .inr ⟨rfl, ?_⟩
      show (b : Int) < ((b + 1 : Nat) : Int)
      omega
  · rw [List.length_append] at hj
    have hj : j < bs.length := by simpa using hj
    rcases Nat.lt_or_ge (j + 1) bs.length with q | q
    · rw [app_left hj, app_left q]
      exact o.ch j q
    · have e : j + 1 = bs.length := by omega
      rw [app_left hj, e, app_last]
      have : bs.getD j (0, 0) ∈ bs := by
        rw [List.getD_eq_getElem?_getD, List.getElem?_eq_getElem hj]
        exact List.getElem_mem hj
      exact o.lt _ this
  · have := o.len
    rw [cf_take hb, List.length_append, toOf_get ha, if_pos he.symm]
    rw [toOf_get ha] at this
    simp
    omega
theorem Bo.next {es : List (Int × Int × Int)} {a : Nat} {bs : List (Int × Int)} (o : Bo es a es.length bs) (h : ∀ v, cf v es ≤ 7) : Bo es (a + 1) 0 bs := by
  refine ⟨o.ok, fun x hx => ?_, o.ch, ?_⟩
  · obtain ⟨c, d, rfl, _⟩ := o.ok x hx
    have := o.lt _ hx
    unfold lexlt at *
    simp only at *
    omega
  · have := o.len
    rw [List.take_length] at this
    have := h (toOf es a)
    omega
theorem may_town {g : Gra} (h1 : 1 ≤ g.ns.length) (h2 : g.ns.length ≤ 16) (hn : ∀ x ∈ g.ns, nodeOk x = true) (he : Ex g.ns.length 3 g.es) (hb : Bo g.es g.es.length 0 g.bs) : mayG g = true := by
  have hl := he.len
  have hbl := hb.len
  have e0 : cf (toOf g.es g.es.length) (g.es.take 0) = 0 := rfl
  rw [e0] at hbl
  have s1 : sizesOk g = true := by
    simp [sizesOk, inB]
    omega
  have s2 : g.ns.all nodeOk = true := List.all_eq_true.2 hn
  have s3 : g.es.all (edgeOk (g.ns.length - 1)) = true := List.all_eq_true.2 he.ok
  have s4 : (List.range g.bs.length).all (banOk g) = true := range_yes fun j hj => by
    have em : banAt g j ∈ g.bs := by
      rw [banAt, List.getD_eq_getElem?_getD, List.getElem?_eq_getElem hj]
      exact List.getElem_mem hj
    obtain ⟨c, d, e, hc, hd, ht⟩ := hb.ok _ em
    have hch : j == 0 || decide (ordI (banAt g (j - 1)) (banAt g j) < 0) := by
      cases j with
      | zero => rfl
      | succ j =>
        have := hb.ch j hj
        have : ordI (banAt g (j + 1 - 1)) (banAt g (j + 1)) < 0 := by
          rw [ordI_neg]
          unfold lexlt at this
          show ¬ ((banAt g j).1 > (banAt g (j + 1)).1 ∨ (banAt g j).1 = (banAt g (j + 1)).1 ∧ (banAt g j).2 ≥ (banAt g (j + 1)).2)
          unfold banAt
          omega
        rw [decide_eq_true this, Bool.or_true]
    have i1 : inB (c : Int) 0 (g.es.length - 1) = true := by
      simp [inB]
      omega
    have i2 : inB (d : Int) 0 (g.es.length - 1) = true := by
      simp [inB]
      omega
    have i3 : ((edgeAt g (c : Int)).2.1 == (edgeAt g (d : Int)).1) = true := by
      rw [beq_iff_eq]
      exact ht
    rw [banOk, hch, Bool.and_true, e, i1, i2, i3]
    rfl
  rw [mayG, s1, s2, s3, s4]
  rfl
theorem town_node {W Hh j v : Nat} (hW : 1 ≤ W) (hW4 : W ≤ 4) (hH4 : Hh ≤ 4) (hj : j < W * Hh) (hv : v < 30) : nodeOk (IntKind.i64.wrap (100 * (j : Int).tmod (W : Int)), IntKind.i64.wrap (IntKind.i64.wrap (100 * IntKind.i64.wrap ((j : Int).tdiv (W : Int))) + (v : Int))) = true := by
  have e1 : (j : Int).tmod (W : Int) = ((j % W : Nat) : Int) := rfl
  have e2 : (j : Int).tdiv (W : Int) = ((j / W : Nat) : Int) := rfl
  have h1 := Nat.mod_lt j hW
  have h2 : j / W < Hh := Nat.div_lt_of_lt_mul hj
  rw [e1, e2]
  generalize j / W = q at *
  generalize j % W = r at *
  rw [wrap_i64 (x := (q : Int)) (by omega) (by omega), wrap_i64 (x := 100 * (q : Int)) (by omega) (by omega), wrap_i64 (by omega) (by omega), wrap_i64 (by omega) (by omega)]
  simp [nodeOk, inB]
  omega
end Go.Proofs.Ytjjcalkeodfokaa
