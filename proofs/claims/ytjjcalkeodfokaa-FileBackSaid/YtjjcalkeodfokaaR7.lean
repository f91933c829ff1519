/- Files: what a graph's bytes are. -/
import Derived.Test.YtjjcalkeodfokaaR6
set_option linter.unusedVariables false
namespace Go.Proofs.Ytjjcalkeodfokaa
open Go Go.Ab
def mile : List Int := [77, 73, 76, 69]
def pN (p : Int × Int) : List Int := [p.1, p.2]
def eN (e : Int × Int × Int) : List Int := [e.1, e.2.1, e.2.2]
def headN (g : Gra) : List Int := [(g.ns.length : Int), (g.es.length : Int), (g.bs.length : Int)]
def numsF (g : Gra) : List Int := ((headN g ++ g.ns.flatMap pN) ++ g.es.flatMap eN) ++ g.bs.flatMap pN
def bodyF (g : Gra) : List Int := mile ++ flatB 2 (numsF g)
def encF (g : Gra) : List Int := if mayG g then bodyF g ++ sum4 (sumV (bodyF g)) else []
def EncFQ (g : Gra) (h : H) (r : V) (h' : H) : Prop := ∃ q, r = .tup [.sl q (encF g).length, i64 (if mayG g then 0 else 1)] ∧ Oct h' q (encF g).length (encF g) ∧ Ab.Mod none_ h h'
theorem two16 : (2 : Int) ^ (8 * 2) = 65536 := rfl
theorem fit_list {vs : List Int} (h : ∀ v ∈ vs, 0 ≤ v ∧ v < 65536) : Fit 2 vs := fun v hv => by
  rw [two16]
  exact h v hv
theorem fit_head {g : Gra} (h : mayG g = true) : Fit 2 (headN g) := fit_list fun v hv => by
  have := mayG_size h
  simp only [headN, List.mem_cons, List.not_mem_nil, or_false] at hv
  omega
theorem fit_edge {g : Gra} (h : mayG g = true) {j : Nat} (hj : j < g.es.length) : Fit 2 (eN g.es[j]) := fit_list fun v hv => by
  have := mayG_edge h hj
  have := mayG_size h
  simp only [eN, List.mem_cons, List.not_mem_nil, or_false] at hv
  omega
theorem mayG_node {g : Gra} (h : mayG g = true) {j : Nat} (hj : j < g.ns.length) : 0 ≤ g.ns[j].1 ∧ g.ns[j].1 ≤ 4095 ∧ 0 ≤ g.ns[j].2 ∧ g.ns[j].2 ≤ 4095 := by
  simp only [mayG, Bool.and_eq_true, List.all_eq_true] at h
  have := h.2.1 _ (List.getElem_mem hj)
  simp only [nodeOk, Bool.and_eq_true] at this
  have h1 := inB_true this.1
  have h2 := inB_true this.2
  exact ⟨h1.1, h1.2, h2.1, h2.2⟩
theorem fit_node {g : Gra} (h : mayG g = true) {j : Nat} (hj : j < g.ns.length) : Fit 2 (pN g.ns[j]) := fit_list fun v hv => by
  have := mayG_node h hj
  simp only [pN, List.mem_cons, List.not_mem_nil, or_false] at hv
  omega
theorem mayG_ban {g : Gra} (h : mayG g = true) {j : Nat} (hj : j < g.bs.length) : 0 ≤ g.bs[j].1 ∧ g.bs[j].1 ≤ g.es.length - 1 ∧ 0 ≤ g.bs[j].2 ∧ g.bs[j].2 ≤ g.es.length - 1 := by
  simp only [mayG, Bool.and_eq_true, List.all_eq_true] at h
  have := h.2.2.2 j (List.mem_range.2 hj)
  simp only [banOk, Bool.and_eq_true] at this
  have e : banAt g j = g.bs[j] := by
    rw [banAt, List.getD_eq_getElem?_getD, List.getElem?_eq_getElem hj]
    rfl
  rw [e] at this
  have h1 := inB_true this.1
  have h2 := inB_true this.2.1
  exact ⟨h1.1, h1.2, h2.1, h2.2⟩
theorem fit_ban {g : Gra} (h : mayG g = true) {j : Nat} (hj : j < g.bs.length) : Fit 2 (pN g.bs[j]) := fit_list fun v hv => by
  have := mayG_ban h hj
  have := mayG_size h
  simp only [pN, List.mem_cons, List.not_mem_nil, or_false] at hv
  omega
theorem flatMap_take {α β : Type} {f : α → List β} {l : List α} {j : Nat} (hj : j < l.length) : (l.take (j + 1)).flatMap f = (l.take j).flatMap f ++ f l[j] := by
  rw [List.take_add_one, List.getElem?_eq_getElem hj, List.flatMap_append]
  simp
theorem pN_len (l : List (Int × Int)) : (l.flatMap pN).length = 2 * l.length := by
  induction l with
  | nil => rfl
  | cons a l ih =>
    rw [List.flatMap_cons, List.length_append, ih, List.length_cons]
    show 2 + _ = _
    omega
theorem eN_len (l : List (Int × Int × Int)) : (l.flatMap eN).length = 3 * l.length := by
  induction l with
  | nil => rfl
  | cons a l ih =>
    rw [List.flatMap_cons, List.length_append, ih, List.length_cons]
    show 3 + _ = _
    omega
theorem lenn {g : Gra} (h : mayG g = true) (j : Nat) : (headN g ++ (g.ns.take j).flatMap pN).length ≤ 10000 := by
  have := mayG_size h
  have e : (headN g).length = 3 := rfl
  rw [List.length_append, pN_len, e, List.length_take]
  omega
theorem lene {g : Gra} (h : mayG g = true) (j : Nat) : (headN g ++ g.ns.flatMap pN ++ (g.es.take j).flatMap eN).length ≤ 10000 := by
  have := mayG_size h
  have e : (headN g).length = 3 := rfl
  rw [List.length_append, List.length_append, pN_len, eN_len, e, List.length_take]
  omega
theorem lenb {g : Gra} (h : mayG g = true) (j : Nat) : (headN g ++ g.ns.flatMap pN ++ g.es.flatMap eN ++ (g.bs.take j).flatMap pN).length ≤ 10000 := by
  have := mayG_size h
  have e : (headN g).length = 3 := rfl
  rw [List.length_append, List.length_append, List.length_append, pN_len, eN_len, pN_len, e, List.length_take]
  omega
theorem bodyF_length (g : Gra) : (bodyF g).length = 10 + 4 * g.ns.length + 6 * g.es.length + 4 * g.bs.length := by
  have e : (headN g).length = 3 := rfl
  have e' : mile.length = 4 := rfl
  rw [bodyF, numsF, List.length_append, flatB_length, List.length_append, List.length_append, List.length_append, pN_len, eN_len, pN_len, e, e']
  omega
theorem bodyF_len {g : Gra} (h : mayG g = true) : (bodyF g).length ≤ 10000 := by
  have := mayG_size h
  rw [bodyF_length]
  omega
theorem encF_len (g : Gra) : (encF g).length ≤ 20000 := by
  rw [encF]
  split
  · rename_i h
    have := bodyF_len h
    rw [List.length_append, sum4_length]
    omega
  · exact Nat.zero_le _
theorem twoP (p : Int × Int) : Obj.row true (T.at_ 3).size (splice (splice (zerosV 2 (vcells (T.at_ 3).zero)) (0 * (T.at_ 3).size) (vcells (V.int .i64 p.1))) (1 * (T.at_ 3).size) (vcells (V.int .i64 p.2))) = .row true 1 (ints .i64 (pN p)) := rfl
theorem threeE (p : Int × Int × Int) : Obj.row true (T.at_ 3).size (splice (splice (splice (zerosV 3 (vcells (T.at_ 3).zero)) (0 * (T.at_ 3).size) (vcells (V.int .i64 p.1))) (1 * (T.at_ 3).size) (vcells (V.int .i64 p.2.1))) (2 * (T.at_ 3).size) (vcells (V.int .i64 p.2.2))) = .row true 1 (ints .i64 (eN p)) := rfl
end Go.Proofs.Ytjjcalkeodfokaa
