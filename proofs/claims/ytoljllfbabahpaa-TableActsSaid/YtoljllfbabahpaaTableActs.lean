/- The law TableActs returns true at every input, and what it is handed reads as it did. No condition. -/
import Derived.Test.YtoljllfbabahpaaRows
import Derived.Test.YtoljllfbabahpaaV5
import Derived.WalkKit
import Derived.ProofKit
import Derived.OpenShut
set_option linter.unusedVariables false
namespace Go.Proofs.Ytoljllfbabahpaa.tableActs
open Go.ChangeShapes Go.WideShapes Go.ChangeAt Go.RowKit Go.Ab
theorem own : ownKnob Try.prog.godebug = none := by kernel_rfl
theorem rd_w {D : Type} {h : H} (d : DataW D) (c : List V) (r : RD T h 20 56 d c) : ∃ x : Wt, c = wC x := by
  obtain ⟨ds, css, rfl, q⟩ := rd_st (T := T) (n := 19) (fs := [(3, 0), (3, 1), (3, 2)]) rfl r
  obtain ⟨d1, c1, _, _, rfl, r1, q⟩ := rdf_cons q
  obtain ⟨d2, c2, _, _, rfl, r2, q⟩ := rdf_cons q
  obtain ⟨d3, c3, _, _, rfl, r3, q⟩ := rdf_cons q
  obtain rfl := rdf_nil q
  obtain ⟨x1, rfl, _⟩ := rd_int (T := T) (n := 18) (k := .i64) rfl r1
  obtain ⟨x2, rfl, u1, u2⟩ := rd_int (T := T) (n := 18) (k := .i64) rfl r2
  obtain ⟨x3, rfl, _⟩ := rd_int (T := T) (n := 18) (k := .i64) rfl r3
  exact ⟨(x1, x2, x3), rfl⟩
theorem law {D : Type} (h : H) (ds : List (DataW D)) (vs : List V) (r : ArgsRD T h 21 [3, 42] ds vs) : ACalls Try.prog 4 vs h fun r _ => r = .bool true := by
  obtain ⟨d1, c1, _, _, rfl, r1, r⟩ := args_cons r
  obtain ⟨d2, c2, _, _, rfl, r2, r⟩ := args_cons r
  obtain rfl := args_nil r
  obtain ⟨x, rfl, _⟩ := rd_int (T := T) (n := 20) (k := .i64) rfl r1
  obtain ⟨p, l, rfl, o⟩ := rd_rows (n := 20) (e := 56) (sz := 3) wC_len rfl rfl rd_w r2
  exact acts4 o x
set_option maxRecDepth 100000 in
theorem lifted (os : Os) (started : os.Started) (H : Type) (enc : TypeId × Value → H) :
    ReturnsInHanded {} Try.checked os 4 .any (Rows.tableActsSpec.pre6 enc Try.prog Try.f4 Rows.tableActsRow.domain false) (Rows.tableActsSpec.post enc Try.prog Try.f4 false true false false) := by
  refine returnsInHanded_of_change (C := Try.checked) own started (by kernel_rfl) Try.func4
    (ChangeSpec.witness6 (enc := enc) (C := Try.checked) false ⟨#[], #[.int .i64 0, .slice none 0 0], []⟩ 8 (by kernel_rfl) (by kernel_rfl) (by kernel_rfl) (by kernel_rfl)) ?_
  intro W base args ds gs before hval hW hcnd _
  exact law_contract (D := H) hT (f := 4) (tb := 4) (s := Rows.tableActsSpec) (fn := Try.f4) (by kernel_rfl) rfl rfl rfl (by kernel_rfl) (by kernel_rfl)
    (fun ds hd => match ds, hd with
      | [d1, d2], _ => rfl) (fun h ds vs _ r => law h ds vs r) args ds gs before (fun j t v h1 h2 => ⟨base, hval j t v h1 h2⟩) hW
theorem over : Rows.tableActsRow.holds Try.pinned (OpenSpec.ofChange Rows.tableActsSpec) :=
  OpenClaim.holds_of_wide 4 Try.f4 rfl rfl rfl rfl rfl rfl rfl ⟨rfl, rfl, rfl, rfl, rfl⟩ rfl rfl rfl rfl rfl (by kernel_rfl) Try.func4 (by kernel_rfl)
    (of_decide_eq_true (by kernel_rfl)) (by unfold Func.isWrapper; first | (rw [if_pos (by decide +kernel)]; kernel_rfl) | (rw [if_neg (by decide +kernel)]; exact ⟨rfl, rfl⟩))
    (fun os started H enc _ => lifted os started H enc)
theorem proved : Rows.TableActsSaid :=
  over
end Go.Proofs.Ytoljllfbabahpaa.tableActs
