/- The law DriverConns returns true at every input, and what it is handed reads as it did. No condition. -/
import Derived.Test.YtmififfaljihgaaRows
import Derived.Test.YtmififfaljihgaaD22
import Derived.WalkKit
import Derived.ProofKit
import Derived.OpenShut
set_option linter.unusedVariables false
namespace Go.Proofs.Ytmififfaljihgaa.driverConns
open Go.ChangeShapes Go.WideShapes Go.ChangeAt Go.RowKit Go.Ab
theorem own : ownKnob Try.prog.godebug = none := by kernel_rfl
theorem law {D : Type} (h : H) (ds : List (DataW D)) (vs : List V) (r : ArgsRD T h 21 [22, 3, 3] ds vs) : ACalls Try.prog 3 vs h fun r _ => r = .bool true := by
  obtain ⟨d1, c1, _, _, rfl, r1, r⟩ := args_cons r
  obtain ⟨d2, c2, _, _, rfl, r2, r⟩ := args_cons r
  obtain ⟨d3, c3, _, _, rfl, r3, r⟩ := args_cons r
  obtain rfl := args_nil r
  obtain ⟨p, m, xs, rfl, _, o, b⟩ := rd_slice_ints (T := T) (n := 19) (e := 3) (k := .i64) rfl rfl rfl r1
  obtain ⟨y, rfl, _⟩ := rd_int (T := T) (n := 20) (k := .i64) rfl r2
  obtain ⟨z, rfl, _⟩ := rd_int (T := T) (n := 20) (k := .i64) rfl r3
  exact conns3 o y z
set_option maxRecDepth 100000 in
theorem lifted (os : Os) (started : os.Started) (H : Type) (enc : TypeId × Value → H) :
    ReturnsInHanded {} Try.checked os 3 .any (Rows.driverConnsSpec.pre6 enc Try.prog Try.f3 Rows.driverConnsRow.domain false) (Rows.driverConnsSpec.post enc Try.prog Try.f3 false true false false) := by
  refine returnsInHanded_of_change (C := Try.checked) own started (by kernel_rfl) Try.func3
    (ChangeSpec.witness6 (enc := enc) (C := Try.checked) false ⟨#[], #[.slice none 0 0, .int .i64 0, .int .i64 0], []⟩ 8 (by kernel_rfl) (by kernel_rfl) (by kernel_rfl) (by kernel_rfl)) ?_
  intro W base args ds gs before hval hW hcnd _
  exact law_contract (D := H) hT (f := 3) (tb := 4) (s := Rows.driverConnsSpec) (fn := Try.f3) (by kernel_rfl) rfl rfl rfl (by kernel_rfl) (by kernel_rfl)
    (fun ds hd => match ds, hd with
      | [d1, d2, d3], _ => rfl) (fun h ds vs _ r => law h ds vs r) args ds gs before (fun j t v h1 h2 => ⟨base, hval j t v h1 h2⟩) hW
theorem over : Rows.driverConnsRow.holds Try.pinned (OpenSpec.ofChange Rows.driverConnsSpec) :=
  OpenClaim.holds_of_wide 3 Try.f3 rfl rfl rfl rfl rfl rfl rfl ⟨rfl, rfl, rfl, rfl, rfl⟩ rfl rfl rfl rfl rfl (by kernel_rfl) Try.func3 (by kernel_rfl)
    (of_decide_eq_true (by kernel_rfl)) (by unfold Func.isWrapper; first | (rw [if_pos (by decide +kernel)]; kernel_rfl) | (rw [if_neg (by decide +kernel)]; exact ⟨rfl, rfl⟩))
    (fun os started H enc _ => lifted os started H enc)
theorem proved : Rows.DriverConnsSaid :=
  over
end Go.Proofs.Ytmififfaljihgaa.driverConns
