/- The law GramBack returns true at every input, and what it is handed reads as it did. No condition. -/
import Derived.Test.YtnpfdppmpmnhbaaRows
import Derived.Test.YtnpfdppmpmnhbaaS48
import Derived.WalkKit
import Derived.ProofKit
import Derived.OpenShut
set_option linter.unusedVariables false
namespace Go.Proofs.Ytnpfdppmpmnhbaa.gramBack
open Go.ChangeShapes Go.WideShapes Go.ChangeAt Go.RowKit Go.Ab
theorem own : ownKnob Try.prog.godebug = none := by kernel_rfl
theorem law {D : Type} (h : H) (ds : List (DataW D)) (vs : List V) (r : ArgsRD T h 21 [87, 68] ds vs) : ACalls Try.prog 15 vs h fun r _ => r = .bool true := by
  obtain ⟨d1, c1, _, _, rfl, r1, r⟩ := args_cons r
  obtain ⟨d2, c2, _, _, rfl, r2, r⟩ := args_cons r
  obtain rfl := args_nil r
  obtain ⟨m, rfl, sm, bm⟩ := rd_grm r1
  obtain ⟨ls, rfl, hl, _⟩ := rd_arr_ints (T := T) (n := 19) (m := 3) (e := 3) (k := .i64) rfl rfl r2
  match ls, hl with
  | [l0, l1, l2], _ => exact gback15 m sm.is bm l0 l1 l2
set_option maxRecDepth 100000 in
theorem lifted (os : Os) (started : os.Started) (H : Type) (enc : TypeId × Value → H) :
    ReturnsInHanded {} Try.checked os 15 .any (Rows.gramBackSpec.pre6 enc Try.prog Try.f15 Rows.gramBackRow.domain false) (Rows.gramBackSpec.post enc Try.prog Try.f15 false true false false) := by
  refine returnsInHanded_of_change (C := Try.checked) own started (by kernel_rfl) Try.func15
    (ChangeSpec.witness6 (enc := enc) (C := Try.checked) false ⟨#[], #[.agg #[.int .i64 0, .int .i64 0, .int .i64 0, .int .i64 0, .int .i64 0, .slice none 0 0], .agg #[.int .i64 0, .int .i64 0, .int .i64 0]], []⟩ 8 (by kernel_rfl) (by kernel_rfl) (by kernel_rfl) (by kernel_rfl)) ?_
  intro W base args ds gs before hval hW hcnd _
  exact law_contract (D := H) hT (f := 15) (tb := 4) (s := Rows.gramBackSpec) (fn := Try.f15) (by kernel_rfl) rfl rfl rfl (by kernel_rfl) (by kernel_rfl)
    (fun ds hd => match ds, hd with
      | [d1, d2], _ => rfl) (fun h ds vs _ r => law h ds vs r) args ds gs before (fun j t v h1 h2 => ⟨base, hval j t v h1 h2⟩) hW
theorem over : Rows.gramBackRow.holds Try.pinned (OpenSpec.ofChange Rows.gramBackSpec) :=
  OpenClaim.holds_of_wide 15 Try.f15 rfl rfl rfl rfl rfl rfl rfl ⟨rfl, rfl, rfl, rfl, rfl⟩ rfl rfl rfl rfl rfl (by kernel_rfl) Try.func15 (by kernel_rfl)
    (of_decide_eq_true (by kernel_rfl)) (by unfold Func.isWrapper; first | (rw [if_pos (by decide +kernel)]; kernel_rfl) | (rw [if_neg (by decide +kernel)]; exact ⟨rfl, rfl⟩))
    (fun os started H enc _ => lifted os started H enc)
theorem proved : Rows.GramBackSaid :=
  over
end Go.Proofs.Ytnpfdppmpmnhbaa.gramBack
