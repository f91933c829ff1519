/- Two numbers in a row. -/
import Derived.Test.YteapijoibimfnaaGreatH1
set_option linter.unusedVariables false
namespace Go.Proofs.YteapijoibimfnaaGreat
open Go Go.Ab
theorem twoNum (v u : Int) : Obj.row true (T.at_ 3).size (splice (splice (zerosV 2 (vcells (T.at_ 3).zero)) (0 * (T.at_ 3).size) (vcells (V.int .i64 v))) (1 * (T.at_ 3).size) (vcells (V.int .i64 u))) = .row true 1 (ints .i64 [v, u]) := rfl
end Go.Proofs.YteapijoibimfnaaGreat
