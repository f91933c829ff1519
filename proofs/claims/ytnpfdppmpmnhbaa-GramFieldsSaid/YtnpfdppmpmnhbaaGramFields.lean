/- The law GramFields returns true at every input, and what it is handed reads as it did. No condition. -/
import Derived.Test.YtnpfdppmpmnhbaaRows
import Derived.Test.YtnpfdppmpmnhbaaS49
import Derived.WalkKit
import Derived.ProofKit
import Derived.OpenShut
set_option linter.unusedVariables false
namespace Go.Proofs.Ytnpfdppmpmnhbaa.gramFields
open Go.ChangeShapes Go.WideShapes Go.ChangeAt Go.RowKit Go.Ab
theorem own : ownKnob Try.prog.godebug = none := by kernel_rfl
theorem law {D : Type} (h : H) (ds : List (DataW D)) (vs : List V) (r : ArgsRD T h 21 [87, 87] ds vs) : ACalls Try.prog 16 vs h fun r _ => r = .bool true := by
  obtain ⟨d1, c1, _, _, rfl, r1, r⟩ := args_cons r
  obtain ⟨d2, c2, _, _, rfl, r2, r⟩ := args_cons r
  obtain rfl := args_nil r
  obtain ⟨m, rfl, sm, bm⟩ := rd_grm r1
  obtain ⟨o, rfl, so, bo⟩ := rd_grm r2
  exact gfields16 m o sm.is bm so.is bo
set_option maxRecDepth 100000 in
theorem lifted (os : Os) (started : os.Started) (H : Type) (enc : TypeId × Value → H) :
    ReturnsInHanded {} Try.checked os 16 .any (Rows.gramFieldsSpec.pre6 enc Try.prog Try.f16 Rows.gramFieldsRow.domain false) (Rows.gramFieldsSpec.post enc Try.prog Try.f16 false true false false) := by
  refine returnsInHanded_of_change (C := Try.checked) own started (by kernel_rfl) Try.func16
    (ChangeSpec.witness6 (enc := enc) (C := Try.checked) false ⟨#[], #[.agg #[.int .i64 0, .int .i64 0, .int .i64 0, .int .i64 0, .int .i64 0, .slice none 0 0], .agg #[.int .i64 0, .int .i64 0, .int .i64 0, .int .i64 0, .int .i64 0, .slice none 0 0]], []⟩ 8 (by kernel_rfl) (by kernel_rfl) (by kernel_rfl) (by kernel_rfl)) ?_
  intro W base args ds gs before hval hW hcnd _
  exact law_contract (D := H) hT (f := 16) (tb := 4) (s := Rows.gramFieldsSpec) (fn := Try.f16) (by kernel_rfl) rfl rfl rfl (by kernel_rfl) (by kernel_rfl)
    (fun ds hd => match ds, hd with
      | [d1, d2], _ => rfl) (fun h ds vs _ r => law h ds vs r) args ds gs before (fun j t v h1 h2 => ⟨base, hval j t v h1 h2⟩) hW
theorem over : Rows.gramFieldsRow.holds Try.pinned (OpenSpec.ofChange Rows.gramFieldsSpec) :=
  OpenClaim.holds_of_wide 16 Try.f16 rfl rfl rfl rfl rfl rfl rfl ⟨rfl, rfl, rfl, rfl, rfl⟩ rfl rfl rfl rfl rfl (by kernel_rfl) Try.func16 (by kernel_rfl)
    (of_decide_eq_true (by kernel_rfl)) (by unfold Func.isWrapper; first | (rw [if_pos (by decide +kernel)]; kernel_rfl) | (rw [if_neg (by decide +kernel)]; exact ⟨rfl, rfl⟩))
    (fun os started H enc _ => lifted os started H enc)
theorem proved : Rows.GramFieldsSaid :=
  over
end Go.Proofs.Ytnpfdppmpmnhbaa.gramFields
