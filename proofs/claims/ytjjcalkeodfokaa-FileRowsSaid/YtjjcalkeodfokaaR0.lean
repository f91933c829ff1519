/- The types of the seat, as a table of one's own; calls. -/
import Derived.Test.YtjjcalkeodfokaaChecked
import Derived.Test.YtjjcalkeodfokaaAb18
set_option linter.unusedVariables false
namespace Go.Proofs.Ytjjcalkeodfokaa
open Go Go.Ab
def T : TT := [
  (2, ⟨.int .i64, 1, 8, .int .i64 0⟩),
  (3, ⟨.int .i64, 1, 8, .int .i64 0⟩),
  (4, ⟨.bool, 1, 1, .bool false⟩),
  (5, ⟨.int .u8, 1, 1, .int .u8 0⟩),
  (6, ⟨.int .u8, 1, 1, .int .u8 0⟩),
  (7, ⟨.st [(2, 0), (3, 1), (4, 2), (6, 3)], 4, 24, .agg [.int .i64 0, .int .i64 0, .bool false, .int .u8 0]⟩),
  (8, ⟨.st [(2, 0), (3, 1), (4, 2), (6, 3)], 4, 24, .agg [.int .i64 0, .int .i64 0, .bool false, .int .u8 0]⟩),
  (9, ⟨.str, 1, 16, .str []⟩),
  (10, ⟨.str, 1, 16, .str []⟩),
  (11, ⟨.str, 1, 16, .str []⟩),
  (12, ⟨.int .u64, 1, 8, .int .u64 0⟩),
  (13, ⟨.st [(9, 0), (12, 1)], 2, 24, .agg [.str [], .int .u64 0]⟩),
  (14, ⟨.st [(9, 0), (12, 1)], 2, 24, .agg [.str [], .int .u64 0]⟩),
  (21, ⟨.int .i32, 1, 4, .int .i32 0⟩),
  (22, ⟨.sl 50, 1, 24, .sl none 0⟩),
  (23, ⟨.sl 52, 1, 24, .sl none 0⟩),
  (24, ⟨.sl 63, 1, 24, .sl none 0⟩),
  (25, ⟨.st [(22, 0), (23, 1), (24, 2)], 3, 72, .agg [.sl none 0, .sl none 0, .sl none 0]⟩),
  (26, ⟨.st [(22, 0), (23, 1), (24, 2)], 3, 72, .agg [.sl none 0, .sl none 0, .sl none 0]⟩),
  (27, ⟨.sl 5, 1, 24, .sl none 0⟩),
  (30, ⟨.int .u32, 1, 4, .int .u32 0⟩),
  (32, ⟨.int .u64, 1, 8, .int .u64 0⟩),
  (33, ⟨.int .i64, 1, 8, .int .i64 0⟩),
  (44, ⟨.sl 3, 1, 24, .sl none 0⟩),
  (45, ⟨.arr 3 3, 3, 24, .agg [.int .i64 0, .int .i64 0, .int .i64 0]⟩),
  (49, ⟨.st [(3, 0), (3, 1)], 2, 16, .agg [.int .i64 0, .int .i64 0]⟩),
  (50, ⟨.st [(3, 0), (3, 1)], 2, 16, .agg [.int .i64 0, .int .i64 0]⟩),
  (51, ⟨.st [(3, 0), (3, 1), (3, 2)], 3, 24, .agg [.int .i64 0, .int .i64 0, .int .i64 0]⟩),
  (52, ⟨.st [(3, 0), (3, 1), (3, 2)], 3, 24, .agg [.int .i64 0, .int .i64 0, .int .i64 0]⟩),
  (54, ⟨.ptr 85, 1, 8, .ptr none⟩),
  (57, ⟨.ptr 59, 1, 8, .ptr none⟩),
  (58, ⟨.st [(27, 0), (4, 1)], 2, 32, .agg [.sl none 0, .bool false]⟩),
  (59, ⟨.st [(27, 0), (4, 1)], 2, 32, .agg [.sl none 0, .bool false]⟩),
  (62, ⟨.st [(3, 0), (3, 1)], 2, 16, .agg [.int .i64 0, .int .i64 0]⟩),
  (63, ⟨.st [(3, 0), (3, 1)], 2, 16, .agg [.int .i64 0, .int .i64 0]⟩),
  (66, ⟨.ptr 68, 1, 8, .ptr none⟩),
  (67, ⟨.st [(27, 0), (4, 1)], 2, 32, .agg [.sl none 0, .bool false]⟩),
  (68, ⟨.st [(27, 0), (4, 1)], 2, 32, .agg [.sl none 0, .bool false]⟩),
  (71, ⟨.ptr 92, 1, 8, .ptr none⟩),
  (77, ⟨.ptr 78, 1, 8, .ptr none⟩),
  (78, ⟨.st [(27, 0), (4, 1)], 2, 32, .agg [.sl none 0, .bool false]⟩),
  (80, ⟨.arr 2 3, 2, 16, .agg [.int .i64 0, .int .i64 0]⟩),
  (84, ⟨.st [(26, 0), (44, 3), (44, 4), (44, 5), (44, 6)], 7, 168, .agg [.sl none 0, .sl none 0, .sl none 0, .sl none 0, .sl none 0, .sl none 0, .sl none 0]⟩),
  (85, ⟨.st [(26, 0), (44, 3), (44, 4), (44, 5), (44, 6)], 7, 168, .agg [.sl none 0, .sl none 0, .sl none 0, .sl none 0, .sl none 0, .sl none 0, .sl none 0]⟩),
  (89, ⟨.sl 27, 1, 24, .sl none 0⟩),
  (92, ⟨.st [(27, 0), (4, 1)], 2, 32, .agg [.sl none 0, .bool false]⟩)]
theorem T_chk : tchk Try.prog T = true := by kernel_rfl
theorem hT : TOk Try.prog T := tchk_ok T_chk
theorem hE : EqOk Try.prog T := tchk_eq T_chk
theorem hm : Try.prog.follows .mixedOrders = true := by kernel_rfl
theorem call_ {f : Nat} {fn : Func} {c : Code} {args : List V} {h : H} {Q : V → H → Prop} (hf : Try.prog.funcs[f]? = some fn) (hb : fn.body = some c) (hname : (fn.name == "runtime.NumGoroutine") = false)
    (hok : (codeOk fn.ntmps c && Nat.ble args.length fn.ntmps) = true) (hw : wpC' Try.prog T c (bodyX T fn.results.toList Q) (argsE 0 args) h) : ACalls Try.prog f args h Q :=
  acalls_of' hT hE hm hf hb hname hok hw
end Go.Proofs.Ytjjcalkeodfokaa
