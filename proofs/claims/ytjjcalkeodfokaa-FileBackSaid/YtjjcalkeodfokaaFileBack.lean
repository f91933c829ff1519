/- The law FileBack returns true at every input, and what it is handed reads as it did. No condition. -/
import Derived.Test.YtjjcalkeodfokaaRows
import Derived.Test.YtjjcalkeodfokaaR19
import Derived.WalkKit
import Derived.ProofKit
import Derived.OpenShut
set_option linter.unusedVariables false
namespace Go.Proofs.Ytjjcalkeodfokaa.fileBack
open Go.ChangeShapes Go.WideShapes Go.ChangeAt Go.RowKit Go.Ab
theorem own : ownKnob Try.prog.godebug = none := by kernel_rfl
theorem law {D : Type} (h : H) (ds : List (DataW D)) (vs : List V) (r : ArgsRD T h 21 [44, 3, 5, 45] ds vs) : ACalls Try.prog 4 vs h fun r _ => r = .bool true := by
  obtain ⟨d1, c1, _, _, rfl, r1, r⟩ := args_cons r
  obtain ⟨d2, c2, _, _, rfl, r2, r⟩ := args_cons r
  obtain ⟨d3, c3, _, _, rfl, r3, r⟩ := args_cons r
  obtain ⟨d4, c4, _, _, rfl, r4, r⟩ := args_cons r
  obtain rfl := args_nil r
  obtain ⟨q1, n, xs, rfl, _, o1, _⟩ := rd_slice_ints (T := T) (n := 19) (e := 3) (k := .i64) rfl rfl rfl r1
  obtain ⟨x2, rfl, _⟩ := rd_int (T := T) (n := 20) (k := .i64) rfl r2
  obtain ⟨x3, rfl, b3⟩ := rd_int (T := T) (n := 20) (k := .u8) rfl r3
  obtain ⟨ls, rfl, hl, _⟩ := rd_arr_ints (T := T) (n := 19) (m := 3) (e := 3) (k := .i64) rfl rfl r4
  have hb : 0 ≤ x3 ∧ x3 < 256 := by
    simp [IntKind.min, IntKind.max, IntKind.signed, IntKind.bits] at b3
    omega
  match ls, hl with
  | [l0, l1, l2], _ => exact fback4 o1 x2 x3 l0 l1 l2 hb.1 hb.2
set_option maxRecDepth 100000 in
theorem lifted (os : Os) (started : os.Started) (H : Type) (enc : TypeId × Value → H) :
    ReturnsInHanded {} Try.checked os 4 .any (Rows.fileBackSpec.pre6 enc Try.prog Try.f4 Rows.fileBackRow.domain false) (Rows.fileBackSpec.post enc Try.prog Try.f4 false true false false) := by
  refine returnsInHanded_of_change (C := Try.checked) own started (by kernel_rfl) Try.func4
    (ChangeSpec.witness6 (enc := enc) (C := Try.checked) false ⟨#[], #[.slice none 0 0, .int .i64 0, .int .u8 0, .agg #[.int .i64 0, .int .i64 0, .int .i64 0]], []⟩ 8 (by kernel_rfl) (by kernel_rfl) (by kernel_rfl) (by kernel_rfl)) ?_
  intro W base args ds gs before hval hW hcnd _
  exact law_contract (D := H) hT (f := 4) (tb := 4) (s := Rows.fileBackSpec) (fn := Try.f4) (by kernel_rfl) rfl rfl rfl (by kernel_rfl) (by kernel_rfl)
    (fun ds hd => match ds, hd with
      | [d1, d2, d3, d4], _ => rfl) (fun h ds vs _ r => law h ds vs r) args ds gs before (fun j t v h1 h2 => ⟨base, hval j t v h1 h2⟩) hW
theorem over : Rows.fileBackRow.holds Try.pinned (OpenSpec.ofChange Rows.fileBackSpec) :=
  OpenClaim.holds_of_wide 4 Try.f4 rfl rfl rfl rfl rfl rfl rfl ⟨rfl, rfl, rfl, rfl, rfl⟩ rfl rfl rfl rfl rfl (by kernel_rfl) Try.func4 (by kernel_rfl)
    (of_decide_eq_true (by kernel_rfl)) (by unfold Func.isWrapper; first | (rw [if_pos (by decide +kernel)]; kernel_rfl) | (rw [if_neg (by decide +kernel)]; exact ⟨rfl, rfl⟩))
    (fun os started H enc _ => lifted os started H enc)
theorem proved : Rows.FileBackSaid :=
  over
end Go.Proofs.Ytjjcalkeodfokaa.fileBack
