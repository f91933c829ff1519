/- The types of the seat, as a table of one's own; calls. -/
import Derived.Test.YtnpfdppmpmnhbaaChecked
import Derived.Test.YtnpfdppmpmnhbaaAb18
set_option linter.unusedVariables false
namespace Go.Proofs.Ytnpfdppmpmnhbaa
open Go Go.Ab
def T : TT := [
  (3, ⟨.int .i64, 1, 8, .int .i64 0⟩),
  (26, ⟨.sl 5, 1, 24, .sl none 0⟩),
  (5, ⟨.int .u8, 1, 1, .int .u8 0⟩),
  (4, ⟨.bool, 1, 1, .bool false⟩),
  (98, ⟨.st [(26, 0), (4, 1)], 2, 32, .agg [.sl none 0, .bool false]⟩),
  (46, ⟨.st [(26, 0), (4, 1)], 2, 32, .agg [.sl none 0, .bool false]⟩),
  (28, ⟨.st [(26, 0), (4, 1)], 2, 32, .agg [.sl none 0, .bool false]⟩),
  (31, ⟨.st [(26, 0), (4, 1)], 2, 32, .agg [.sl none 0, .bool false]⟩),
  (32, ⟨.sl 3, 1, 24, .sl none 0⟩),
  (43, ⟨.ptr 98, 1, 8, .ptr none⟩),
  (45, ⟨.ptr 46, 1, 8, .ptr none⟩),
  (25, ⟨.ptr 28, 1, 8, .ptr none⟩),
  (29, ⟨.ptr 31, 1, 8, .ptr none⟩),
  (2, ⟨.int .i64, 1, 8, .int .i64 0⟩),
  (6, ⟨.int .u8, 1, 1, .int .u8 0⟩),
  (7, ⟨.st [(2, 0), (3, 1), (4, 2), (6, 3)], 4, 24, .agg [.int .i64 0, .int .i64 0, .bool false, .int .u8 0]⟩),
  (8, ⟨.st [(2, 0), (3, 1), (4, 2), (6, 3)], 4, 24, .agg [.int .i64 0, .int .i64 0, .bool false, .int .u8 0]⟩),
  (9, ⟨.str, 1, 16, .str []⟩),
  (10, ⟨.str, 1, 16, .str []⟩),
  (11, ⟨.str, 1, 16, .str []⟩),
  (12, ⟨.int .u64, 1, 8, .int .u64 0⟩),
  (13, ⟨.st [(9, 0), (12, 1)], 2, 24, .agg [.str [], .int .u64 0]⟩),
  (14, ⟨.st [(9, 0), (12, 1)], 2, 24, .agg [.str [], .int .u64 0]⟩),
  (21, ⟨.int .i32, 1, 4, .int .i32 0⟩),
  (22, ⟨.sl 34, 1, 24, .sl none 0⟩),
  (27, ⟨.st [(26, 0), (4, 1)], 2, 32, .agg [.sl none 0, .bool false]⟩),
  (30, ⟨.st [(26, 0), (4, 1)], 2, 32, .agg [.sl none 0, .bool false]⟩),
  (33, ⟨.st [(3, 0), (3, 1), (32, 2), (26, 3)], 4, 64, .agg [.int .i64 0, .int .i64 0, .sl none 0, .sl none 0]⟩),
  (34, ⟨.st [(3, 0), (3, 1), (32, 2), (26, 3)], 4, 64, .agg [.int .i64 0, .int .i64 0, .sl none 0, .sl none 0]⟩),
  (39, ⟨.int .i64, 1, 8, .int .i64 0⟩),
  (42, ⟨.sl 47, 1, 24, .sl none 0⟩),
  (47, ⟨.arr 2 3, 2, 16, .agg [.int .i64 0, .int .i64 0]⟩),
  (56, ⟨.int .u32, 1, 4, .int .u32 0⟩),
  (58, ⟨.int .u64, 1, 8, .int .u64 0⟩),
  (68, ⟨.arr 3 3, 3, 24, .agg [.int .i64 0, .int .i64 0, .int .i64 0]⟩),
  (71, ⟨.st [(3, 0), (3, 1), (3, 2), (3, 3)], 4, 32, .agg [.int .i64 0, .int .i64 0, .int .i64 0, .int .i64 0]⟩),
  (72, ⟨.st [(3, 0), (3, 1), (3, 2), (3, 3)], 4, 32, .agg [.int .i64 0, .int .i64 0, .int .i64 0, .int .i64 0]⟩),
  (73, ⟨.st [(3, 0), (3, 1), (3, 2), (32, 3), (3, 4), (72, 5)], 9, 88, .agg [.int .i64 0, .int .i64 0, .int .i64 0, .sl none 0, .int .i64 0, .int .i64 0, .int .i64 0, .int .i64 0, .int .i64 0]⟩),
  (74, ⟨.st [(3, 0), (3, 1), (3, 2), (32, 3), (3, 4), (72, 5)], 9, 88, .agg [.int .i64 0, .int .i64 0, .int .i64 0, .sl none 0, .int .i64 0, .int .i64 0, .int .i64 0, .int .i64 0, .int .i64 0]⟩),
  (86, ⟨.st [(3, 0), (3, 1), (3, 2), (3, 3), (3, 4), (26, 5)], 6, 64, .agg [.int .i64 0, .int .i64 0, .int .i64 0, .int .i64 0, .int .i64 0, .sl none 0]⟩),
  (87, ⟨.st [(3, 0), (3, 1), (3, 2), (3, 3), (3, 4), (26, 5)], 6, 64, .agg [.int .i64 0, .int .i64 0, .int .i64 0, .int .i64 0, .int .i64 0, .sl none 0]⟩),
  (102, ⟨.sl 26, 1, 24, .sl none 0⟩)]
theorem T_chk : tchk Try.prog T = true := by kernel_rfl
theorem hT : TOk Try.prog T := tchk_ok T_chk
theorem hE : EqOk Try.prog T := tchk_eq T_chk
theorem hm : Try.prog.follows .mixedOrders = true := by kernel_rfl
theorem call_ {f : Nat} {fn : Func} {c : Code} {args : List V} {h : H} {Q : V → H → Prop} (hf : Try.prog.funcs[f]? = some fn) (hb : fn.body = some c) (hname : (fn.name == "runtime.NumGoroutine") = false)
    (hok : (codeOk fn.ntmps c && Nat.ble args.length fn.ntmps) = true) (hw : wpC' Try.prog T c (bodyX T fn.results.toList Q) (argsE 0 args) h) : ACalls Try.prog f args h Q :=
  acalls_of' hT hE hm hf hb hname hok hw
end Go.Proofs.Ytnpfdppmpmnhbaa
