/-
  No cell of these rows narrows 'for every input' (looked for: loops, veiled, ifaces, maps, wideKeys, modest, calm, conditions, laid).
  DERIVED. THE GIVEN ROWS OF THIS SEAT. 3 by the template 'for every input the law returns true; each argument reads behind the call as it read before'; 0 by the template 'total and deterministic' (their statements: YtmififfaljihgaaTotals.lean).
  GIVEN WITH THE SEED: the statements are not yours to turn. If you find one false, say at which input.
  Laid BY PROGRAM, IN A SANDBOX (cutbox-rows.mjs): the forced cells as the released guide's own fill.sh prints them over the translation 7b00380d6353e902… (all of the seat's roots in one cut). By AI agents, Wed Nov 11 2026. No macro, syntax, notation, axiom, sorry.
-/
import Derived.Test.YtmififfaljihgaaChecked
import GoSem.Claim
import GoSem.ClaimJoined
import GoSem.ClaimMapViews
import Derived.JoinedTies
import Derived.KernelRfl
namespace Go.Proofs.Ytmififfaljihgaa
/- THE CELL 'sum', in the pinned program and in every row, IS THE sha256 OF THE DUMP (.gsa) THAT YtmififfaljihgaaProg.lean LOADS. Nothing in Lean hashes anything: it is a label: what it is worth is what the hold of that sum in a sandbox is worth. -/
noncomputable def Try.pinned : Pinned := { name := "ytmififfaljihgaa", sum := "7b00380d6353e902ccbc238082b9ae8a143efc22b5316b062b6d25d308ed010e", checked := Try.checked }
namespace Rows
def none {H : Type} : Left H := { results := [], args := [] }

/-- 'milepostlaw31.DriverConns': WHATEVER THE INPUT: true; the input reads as it did. -/
def driverConnsSpec : ChangeSpec := { name := "driverConns", fn := fun _ => fun
  | [d1, d2, d3] => { results := [.lit (.bool true)], args := [d1, d2, d3] }
  | _ => none }
def driverConnsRow : OpenClaim := { program := "ytmififfaljihgaa", sum := "7b00380d6353e902ccbc238082b9ae8a143efc22b5316b062b6d25d308ed010e", func := "milepost/milepostlaw31.DriverConns", spec := "driverConns", apart := false }
def DriverConnsSaid : Prop := driverConnsRow.holds Try.pinned (OpenSpec.ofChange driverConnsSpec)

/-- ITS FALSE NEIGHBOUR: 'it returns false'. Refute it at one input. -/
def driverConnsWrong : ChangeSpec := { name := "driverConns", fn := fun _ => fun
  | [d1, d2, d3] => { results := [.lit (.bool false)], args := [d1, d2, d3] }
  | _ => none }
def DriverConnsWrongFalsely : Prop := driverConnsRow.holds Try.pinned (OpenSpec.ofChange driverConnsWrong)

/-- 'milepostlaw31.DriverWay': WHATEVER THE INPUT: true; the input reads as it did. -/
def driverWaySpec : ChangeSpec := { name := "driverWay", fn := fun _ => fun
  | [d1, d2, d3] => { results := [.lit (.bool true)], args := [d1, d2, d3] }
  | _ => none }
def driverWayRow : OpenClaim := { program := "ytmififfaljihgaa", sum := "7b00380d6353e902ccbc238082b9ae8a143efc22b5316b062b6d25d308ed010e", func := "milepost/milepostlaw31.DriverWay", spec := "driverWay", apart := false }
def DriverWaySaid : Prop := driverWayRow.holds Try.pinned (OpenSpec.ofChange driverWaySpec)

/-- ITS FALSE NEIGHBOUR: 'it returns false'. Refute it at one input. -/
def driverWayWrong : ChangeSpec := { name := "driverWay", fn := fun _ => fun
  | [d1, d2, d3] => { results := [.lit (.bool false)], args := [d1, d2, d3] }
  | _ => none }
def DriverWayWrongFalsely : Prop := driverWayRow.holds Try.pinned (OpenSpec.ofChange driverWayWrong)

/-- 'milepostlaw31.DriverTries': WHATEVER THE INPUT: true; the input reads as it did. -/
def driverTriesSpec : ChangeSpec := { name := "driverTries", fn := fun _ => fun
  | [d1, d2, d3] => { results := [.lit (.bool true)], args := [d1, d2, d3] }
  | _ => none }
def driverTriesRow : OpenClaim := { program := "ytmififfaljihgaa", sum := "7b00380d6353e902ccbc238082b9ae8a143efc22b5316b062b6d25d308ed010e", func := "milepost/milepostlaw31.DriverTries", spec := "driverTries", unfollowed := true, recurses := true, apart := false }
def DriverTriesSaid : Prop := driverTriesRow.holds Try.pinned (OpenSpec.ofChange driverTriesSpec)

/-- ITS FALSE NEIGHBOUR: 'it returns false'. Refute it at one input. -/
def driverTriesWrong : ChangeSpec := { name := "driverTries", fn := fun _ => fun
  | [d1, d2, d3] => { results := [.lit (.bool false)], args := [d1, d2, d3] }
  | _ => none }
def DriverTriesWrongFalsely : Prop := driverTriesRow.holds Try.pinned (OpenSpec.ofChange driverTriesWrong)

/- THE SECOND FORM. 'bulk': how many values and letters a reading holds, each counted each time it is reached (what is shared counts as often as it is met; a slice's spare places count too). A statement '..UptoSaid' is the law's where the arguments, and the package variables that the reading takes, are together of bulk at most 1048576: NARROWER than '..Said'. Prove '..Said' where nothing that the law and all that it calls make is longer than what came in: it says more and counts as full. Else prove '..UptoSaid'. A law counts once. -/
mutual
def uptoBulk {H : Type} : DataW H → Nat
  | .lit (.string bytes) => bytes.length + 1
  | .lit _ => 1
  | .nil => 1
  | .ptr d => uptoBulk d + 1
  | .slice elems spare => uptoBulkAll elems + uptoBulkAll spare + 1
  | .agg parts => uptoBulkAll parts + 1
  | .iface _ d => uptoBulk d + 1
  | .map entries => uptoBulkEntries entries + 1
  | .held _ => 1
def uptoBulkAll {H : Type} : List (DataW H) → Nat
  | [] => 0
  | d :: r => uptoBulk d + uptoBulkAll r
def uptoBulkEntries {H : Type} : List (Lit × DataW H) → Nat
  | [] => 0
  | x :: r => uptoBulkEntry x + uptoBulkEntries r
def uptoBulkEntry {H : Type} : Lit × DataW H → Nat
  | (.string bytes, d) => bytes.length + uptoBulk d + 1
  | (_, d) => uptoBulk d + 1
 end
def uptoSmall : (H : Type) → List (DataW H) → Bool := fun _ ds => decide (uptoBulkAll ds ≤ 1048576)
def OpenSpec.upto (s : _root_.Go.ChangeSpec) : _root_.Go.OpenSpec := { _root_.Go.OpenSpec.ofChange s with cond := some uptoSmall }

/-- 'milepostlaw31.DriverConns', WHERE WHAT IT READS IS OF BULK AT MOST 1048576: true; the input reads as it did. -/
def driverConnsUptoRow : OpenClaim := { program := "ytmififfaljihgaa", sum := "7b00380d6353e902ccbc238082b9ae8a143efc22b5316b062b6d25d308ed010e", func := "milepost/milepostlaw31.DriverConns", spec := "driverConns", apart := false, narrowed := true }
def DriverConnsUptoSaid : Prop := driverConnsUptoRow.holds Try.pinned (OpenSpec.upto driverConnsSpec)

/-- 'milepostlaw31.DriverWay', WHERE WHAT IT READS IS OF BULK AT MOST 1048576: true; the input reads as it did. -/
def driverWayUptoRow : OpenClaim := { program := "ytmififfaljihgaa", sum := "7b00380d6353e902ccbc238082b9ae8a143efc22b5316b062b6d25d308ed010e", func := "milepost/milepostlaw31.DriverWay", spec := "driverWay", apart := false, narrowed := true }
def DriverWayUptoSaid : Prop := driverWayUptoRow.holds Try.pinned (OpenSpec.upto driverWaySpec)

/-- 'milepostlaw31.DriverTries', WHERE WHAT IT READS IS OF BULK AT MOST 1048576: true; the input reads as it did. -/
def driverTriesUptoRow : OpenClaim := { program := "ytmififfaljihgaa", sum := "7b00380d6353e902ccbc238082b9ae8a143efc22b5316b062b6d25d308ed010e", func := "milepost/milepostlaw31.DriverTries", spec := "driverTries", unfollowed := true, recurses := true, apart := false, narrowed := true }
def DriverTriesUptoSaid : Prop := driverTriesUptoRow.holds Try.pinned (OpenSpec.upto driverTriesSpec)

end Rows
end Go.Proofs.Ytmififfaljihgaa
