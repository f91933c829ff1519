/- What data tell of graphs. -/
import Derived.Test.YtjjcalkeodfokaaR14
import Derived.Test.YtjjcalkeodfokaaAb19
set_option linter.unusedVariables false
namespace Go.Proofs.Ytjjcalkeodfokaa
open Go Go.Ab
theorem rd_parts {D : Type} {h : H} {n e : Nat} {α : Type} {f : α → List V} (he : ∀ (d : DataW D) (c : List V), RD T h n e d c → ∃ a, c = f a) : ∀ {ds : List (DataW D)} {css : List (List V)}, RDs (RD T h n e) ds css → ∃ l : List α, css.flatten = l.flatMap f ∧ l.length = ds.length
  | [], [], _ => ⟨[], rfl, rfl⟩
  | d :: ds, c :: cs, r => by
    obtain ⟨l, h1, h2⟩ := rd_parts he r.2
    obtain ⟨a, rfl⟩ := he _ _ r.1
    exact ⟨a :: l, by rw [List.flatten_cons, h1]; rfl, by simp [h2]⟩
  | [], _ :: _, r => r.elim
  | _ :: _, [], r => r.elim
theorem rd_rows {D : Type} {h : H} {n t e sz : Nat} {α : Type} {f : α → List V} (hf : ∀ a, (f a).length = sz) (ht : (T.at_ t).d = .sl e) (hs : (T.at_ e).size = sz) (he : ∀ (d : DataW D) (c : List V), RD T h n e d c → ∃ a, c = f a) {d : DataW D} {c : List V} (r : RD T h (n + 1) t d c) :
    ∃ (p : Option (Nat × Nat)) (l : List α), c = [.sl p l.length] ∧ RoSl h p l.length sz (l.flatMap f) := by
  obtain ⟨p, ds, css, rfl, h1, h2, h3⟩ := rd_slice ht r
  obtain ⟨l, e1, e2⟩ := rd_parts he h3
  rw [hs, e1] at h2
  refine ⟨p, l, by rw [e2], by rw [flat_length hf], ?_⟩
  rcases h2 with h2 | ⟨i, rfl, h2⟩
  · exact .inl (by omega)
  · exact .inr ⟨i, 0, _, rfl, h2, by rw [flat_length hf]; omega, by rw [List.drop_zero, ← flat_length hf, List.take_length]⟩
theorem rd_node {D : Type} {h : H} {n : Nat} (d : DataW D) (c : List V) (r : RD T h (n + 2) 50 d c) : ∃ a, c = pC a := by
  obtain ⟨ds, css, rfl, q⟩ := rd_st (T := T) (n := n + 1) (fs := [(3, 0), (3, 1)]) rfl r
  obtain ⟨d1, c1, _, _, rfl, r1, q⟩ := rdf_cons q
  obtain ⟨d2, c2, _, _, rfl, r2, q⟩ := rdf_cons q
  obtain rfl := rdf_nil q
  obtain ⟨x1, rfl, _⟩ := rd_int (T := T) (n := n) (k := .i64) rfl r1
  obtain ⟨x2, rfl, _⟩ := rd_int (T := T) (n := n) (k := .i64) rfl r2
  exact ⟨(x1, x2), rfl⟩
theorem rd_ban {D : Type} {h : H} {n : Nat} (d : DataW D) (c : List V) (r : RD T h (n + 2) 63 d c) : ∃ a, c = pC a := by
  obtain ⟨ds, css, rfl, q⟩ := rd_st (T := T) (n := n + 1) (fs := [(3, 0), (3, 1)]) rfl r
  obtain ⟨d1, c1, _, _, rfl, r1, q⟩ := rdf_cons q
  obtain ⟨d2, c2, _, _, rfl, r2, q⟩ := rdf_cons q
  obtain rfl := rdf_nil q
  obtain ⟨x1, rfl, _⟩ := rd_int (T := T) (n := n) (k := .i64) rfl r1
  obtain ⟨x2, rfl, _⟩ := rd_int (T := T) (n := n) (k := .i64) rfl r2
  exact ⟨(x1, x2), rfl⟩
theorem rd_edge {D : Type} {h : H} {n : Nat} (d : DataW D) (c : List V) (r : RD T h (n + 2) 52 d c) : ∃ a, c = eC a := by
  obtain ⟨ds, css, rfl, q⟩ := rd_st (T := T) (n := n + 1) (fs := [(3, 0), (3, 1), (3, 2)]) rfl r
  obtain ⟨d1, c1, _, _, rfl, r1, q⟩ := rdf_cons q
  obtain ⟨d2, c2, _, _, rfl, r2, q⟩ := rdf_cons q
  obtain ⟨d3, c3, _, _, rfl, r3, q⟩ := rdf_cons q
  obtain rfl := rdf_nil q
  obtain ⟨x1, rfl, _⟩ := rd_int (T := T) (n := n) (k := .i64) rfl r1
  obtain ⟨x2, rfl, _⟩ := rd_int (T := T) (n := n) (k := .i64) rfl r2
  obtain ⟨x3, rfl, _⟩ := rd_int (T := T) (n := n) (k := .i64) rfl r3
  exact ⟨(x1, x2, x3), rfl⟩
theorem rd_gra {D : Type} {h : H} {d : DataW D} {c : List V} (r : RD T h 21 26 d c) : ∃ g : Gra, c = g.cells ∧ RoSl h g.np g.ns.length 2 (g.ns.flatMap pC) ∧ RoSl h g.ep g.es.length 3 (g.es.flatMap eC) ∧ RoSl h g.bp g.bs.length 2 (g.bs.flatMap pC) := by
  obtain ⟨ds, css, rfl, q⟩ := rd_st (T := T) (n := 20) (fs := [(22, 0), (23, 1), (24, 2)]) rfl r
  obtain ⟨d1, c1, _, _, rfl, r1, q⟩ := rdf_cons q
  obtain ⟨d2, c2, _, _, rfl, r2, q⟩ := rdf_cons q
  obtain ⟨d3, c3, _, _, rfl, r3, q⟩ := rdf_cons q
  obtain rfl := rdf_nil q
  obtain ⟨p1, l1, rfl, o1⟩ := rd_rows (n := 19) (e := 50) (f := pC) pC_len rfl rfl (rd_node (n := 17)) r1
  obtain ⟨p2, l2, rfl, o2⟩ := rd_rows (n := 19) (e := 52) (f := eC) eC_len rfl rfl (rd_edge (n := 17)) r2
  obtain ⟨p3, l3, rfl, o3⟩ := rd_rows (n := 19) (e := 63) (f := pC) pC_len rfl rfl (rd_ban (n := 17)) r3
  exact ⟨⟨p1, l1, p2, l2, p3, l3⟩, rfl, o1, o2, o3⟩
end Go.Proofs.Ytjjcalkeodfokaa
