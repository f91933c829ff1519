/- The types of the seat, as a table of one's own; calls. -/
import Derived.Test.YtmififfaljihgaaChecked
import Derived.Test.YtmififfaljihgaaAb18
import Derived.Test.YtmififfaljihgaaAb19
import Derived.Test.YtmififfaljihgaaAb21
set_option linter.unusedVariables false
namespace Go.Proofs.Ytmififfaljihgaa
open Go Go.Ab
def T : TT := [
  (2, ⟨.int .i64, 1, 8, .int .i64 0⟩),
  (3, ⟨.int .i64, 1, 8, .int .i64 0⟩),
  (4, ⟨.bool, 1, 1, .bool false⟩),
  (5, ⟨.int .u8, 1, 1, .int .u8 0⟩),
  (6, ⟨.int .u8, 1, 1, .int .u8 0⟩),
  (7, ⟨.st [(2, 0), (3, 1), (4, 2), (6, 3)], 4, 24, .agg [.int .i64 0, .int .i64 0, .bool false, .int .u8 0]⟩),
  (8, ⟨.st [(2, 0), (3, 1), (4, 2), (6, 3)], 4, 24, .agg [.int .i64 0, .int .i64 0, .bool false, .int .u8 0]⟩),
  (9, ⟨.str, 1, 16, .str []⟩),
  (10, ⟨.str, 1, 16, .str []⟩),
  (11, ⟨.str, 1, 16, .str []⟩),
  (12, ⟨.int .u64, 1, 8, .int .u64 0⟩),
  (13, ⟨.st [(9, 0), (12, 1)], 2, 24, .agg [.str [], .int .u64 0]⟩),
  (14, ⟨.st [(9, 0), (12, 1)], 2, 24, .agg [.str [], .int .u64 0]⟩),
  (15, ⟨.ptr 181, 1, 8, .ptr none⟩),
  (16, ⟨.ptr 184, 1, 8, .ptr none⟩),
  (17, ⟨.ptr 192, 1, 8, .ptr none⟩),
  (18, ⟨.st [(17, 0)], 1, 8, .agg [.ptr none]⟩),
  (19, ⟨.st [(17, 0)], 1, 8, .agg [.ptr none]⟩),
  (21, ⟨.int .i32, 1, 4, .int .i32 0⟩),
  (22, ⟨.sl 3, 1, 24, .sl none 0⟩),
  (24, ⟨.ptr 66, 1, 8, .ptr none⟩),
  (25, ⟨.int .i64, 1, 8, .int .i64 0⟩),
  (28, ⟨.st [(3, 0), (3, 1), (3, 2), (3, 3), (3, 4), (3, 5)], 6, 48, .agg [.int .i64 0, .int .i64 0, .int .i64 0, .int .i64 0, .int .i64 0, .int .i64 0]⟩),
  (29, ⟨.st [(3, 0), (3, 1), (3, 2), (3, 3), (3, 4), (3, 5)], 6, 48, .agg [.int .i64 0, .int .i64 0, .int .i64 0, .int .i64 0, .int .i64 0, .int .i64 0]⟩),
  (32, ⟨.sl 36, 1, 24, .sl none 0⟩),
  (36, ⟨.sl 5, 1, 24, .sl none 0⟩),
  (37, ⟨.st [(3, 0), (3, 1), (3, 2), (3, 3), (3, 4), (36, 5)], 6, 64, .agg [.int .i64 0, .int .i64 0, .int .i64 0, .int .i64 0, .int .i64 0, .sl none 0]⟩),
  (38, ⟨.st [(3, 0), (3, 1), (3, 2), (3, 3), (3, 4), (36, 5)], 6, 64, .agg [.int .i64 0, .int .i64 0, .int .i64 0, .int .i64 0, .int .i64 0, .sl none 0]⟩),
  (41, ⟨.st [(3, 0), (3, 1), (3, 2), (3, 3)], 4, 32, .agg [.int .i64 0, .int .i64 0, .int .i64 0, .int .i64 0]⟩),
  (42, ⟨.st [(3, 0), (3, 1), (3, 2), (3, 3)], 4, 32, .agg [.int .i64 0, .int .i64 0, .int .i64 0, .int .i64 0]⟩),
  (43, ⟨.st [(3, 0), (3, 1), (3, 2), (22, 3), (3, 4), (42, 5)], 9, 88, .agg [.int .i64 0, .int .i64 0, .int .i64 0, .sl none 0, .int .i64 0, .int .i64 0, .int .i64 0, .int .i64 0, .int .i64 0]⟩),
  (44, ⟨.st [(3, 0), (3, 1), (3, 2), (22, 3), (3, 4), (42, 5)], 9, 88, .agg [.int .i64 0, .int .i64 0, .int .i64 0, .sl none 0, .int .i64 0, .int .i64 0, .int .i64 0, .int .i64 0, .int .i64 0]⟩),
  (49, ⟨.sl 44, 1, 24, .sl none 0⟩),
  (64, ⟨.ptr 105, 1, 8, .ptr none⟩),
  (65, ⟨.st [(29, 0), (64, 6), (3, 7), (4, 8), (3, 9), (3, 10), (22, 11), (4, 12)], 13, 120, .agg [.int .i64 0, .int .i64 0, .int .i64 0, .int .i64 0, .int .i64 0, .int .i64 0, .ptr none, .int .i64 0, .bool false, .int .i64 0, .int .i64 0, .sl none 0, .bool false]⟩),
  (66, ⟨.st [(29, 0), (64, 6), (3, 7), (4, 8), (3, 9), (3, 10), (22, 11), (4, 12)], 13, 120, .agg [.int .i64 0, .int .i64 0, .int .i64 0, .int .i64 0, .int .i64 0, .int .i64 0, .ptr none, .int .i64 0, .bool false, .int .i64 0, .int .i64 0, .sl none 0, .bool false]⟩),
  (74, ⟨.ptr 76, 1, 8, .ptr none⟩),
  (75, ⟨.st [(36, 0), (4, 1)], 2, 32, .agg [.sl none 0, .bool false]⟩),
  (76, ⟨.st [(36, 0), (4, 1)], 2, 32, .agg [.sl none 0, .bool false]⟩),
  (79, ⟨.ptr 80, 1, 8, .ptr none⟩),
  (80, ⟨.st [(36, 0), (4, 1)], 2, 32, .agg [.sl none 0, .bool false]⟩),
  (85, ⟨.sl 38, 1, 24, .sl none 0⟩),
  (95, ⟨.ptr 125, 1, 8, .ptr none⟩),
  (98, ⟨.ptr 128, 1, 8, .ptr none⟩),
  (101, ⟨.ptr 130, 1, 8, .ptr none⟩),
  (104, ⟨.st [(98, 0), (3, 1), (101, 2), (32, 3)], 4, 48, .agg [.ptr none, .int .i64 0, .ptr none, .sl none 0]⟩),
  (105, ⟨.st [(98, 0), (3, 1), (101, 2), (32, 3)], 4, 48, .agg [.ptr none, .int .i64 0, .ptr none, .sl none 0]⟩),
  (109, ⟨.int .u64, 1, 8, .int .u64 0⟩),
  (113, ⟨.ptr 139, 1, 8, .ptr none⟩),
  (123, ⟨.mp 3 154, 1, 8, .mp none⟩),
  (124, ⟨.st [(3, 0), (3, 1), (3, 2), (123, 3)], 4, 32, .agg [.int .i64 0, .int .i64 0, .int .i64 0, .mp none]⟩),
  (125, ⟨.st [(3, 0), (3, 1), (3, 2), (123, 3)], 4, 32, .agg [.int .i64 0, .int .i64 0, .int .i64 0, .mp none]⟩),
  (126, ⟨.mp 3 36, 1, 8, .mp none⟩),
  (127, ⟨.st [(95, 0), (3, 1), (3, 2), (126, 3), (4, 4)], 5, 40, .agg [.ptr none, .int .i64 0, .int .i64 0, .mp none, .bool false]⟩),
  (128, ⟨.st [(95, 0), (3, 1), (3, 2), (126, 3), (4, 4)], 5, 40, .agg [.ptr none, .int .i64 0, .int .i64 0, .mp none, .bool false]⟩),
  (129, ⟨.st [(3, 0), (3, 1), (126, 2)], 3, 24, .agg [.int .i64 0, .int .i64 0, .mp none]⟩),
  (130, ⟨.st [(3, 0), (3, 1), (126, 2)], 3, 24, .agg [.int .i64 0, .int .i64 0, .mp none]⟩),
  (131, ⟨.ptr 133, 1, 8, .ptr none⟩),
  (132, ⟨.st [(36, 0), (4, 1)], 2, 32, .agg [.sl none 0, .bool false]⟩),
  (133, ⟨.st [(36, 0), (4, 1)], 2, 32, .agg [.sl none 0, .bool false]⟩),
  (136, ⟨.int .u32, 1, 4, .int .u32 0⟩),
  (139, ⟨.st [(36, 0), (4, 1)], 2, 32, .agg [.sl none 0, .bool false]⟩),
  (153, ⟨.st [(3, 0), (3, 1)], 2, 16, .agg [.int .i64 0, .int .i64 0]⟩),
  (154, ⟨.st [(3, 0), (3, 1)], 2, 16, .agg [.int .i64 0, .int .i64 0]⟩),
  (160, ⟨.int .i64, 1, 8, .int .i64 0⟩),
  (169, ⟨.int .u64, 1, 8, .int .u64 0⟩),
  (170, ⟨.int .u64, 1, 8, .int .u64 0⟩),
  (174, ⟨.ptr 3, 1, 8, .ptr none⟩),
  (176, ⟨.ptr 170, 1, 8, .ptr none⟩),
  (180, ⟨.st [(17, 0), (17, 1), (17, 2), (9, 3)], 4, 40, .agg [.ptr none, .ptr none, .ptr none, .str []]⟩),
  (181, ⟨.st [(17, 0), (17, 1), (17, 2), (9, 3)], 4, 40, .agg [.ptr none, .ptr none, .ptr none, .str []]⟩),
  (185, ⟨.int .u8, 1, 1, .int .u8 0⟩),
  (186, ⟨.int .u8, 1, 1, .int .u8 0⟩),
  (188, ⟨.ptr 5, 1, 8, .ptr none⟩),
  (189, ⟨.int .i32, 1, 4, .int .i32 0⟩),
  (190, ⟨.int .i32, 1, 4, .int .i32 0⟩)]
theorem T_chk : tchk Try.prog T = true := by kernel_rfl
theorem hT : TOk Try.prog T := tchk_ok T_chk
theorem hE : EqOk Try.prog T := tchk_eq T_chk
theorem hm : Try.prog.follows .mixedOrders = true := by kernel_rfl
theorem call_ {f : Nat} {fn : Func} {c : Code} {args : List V} {h : H} {Q : V → H → Prop} (hf : Try.prog.funcs[f]? = some fn) (hb : fn.body = some c) (hname : (fn.name == "runtime.NumGoroutine") = false)
    (hok : (codeOk fn.ntmps c && Nat.ble args.length fn.ntmps) = true) (hw : wpC' Try.prog T c (bodyX T fn.results.toList Q) (argsE 0 args) h) : ACalls Try.prog f args h Q :=
  acalls_of' hT hE hm hf hb hname hok hw
end Go.Proofs.Ytmififfaljihgaa
