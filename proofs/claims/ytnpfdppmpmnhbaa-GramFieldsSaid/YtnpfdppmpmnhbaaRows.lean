/-
  No cell of these rows narrows 'for every input' (looked for: loops, veiled, ifaces, maps, wideKeys, modest, calm, conditions, laid).
  DERIVED. THE GIVEN ROWS OF THIS SEAT. 14 by the template 'for every input the law returns true; each argument reads behind the call as it read before'; 0 by the template 'total and deterministic' (their statements: YtnpfdppmpmnhbaaTotals.lean).
  GIVEN WITH THE SEED: the statements are not yours to turn. If you find one false, say at which input.
  Laid BY PROGRAM, IN A SANDBOX (cutbox-rows.mjs): the forced cells as the released guide's own fill.sh prints them over the translation e11a7e26480e2ecd… (all of the seat's roots in one cut). By AI agents, Wed Nov 11 2026. No macro, syntax, notation, axiom, sorry.
-/
import Derived.Test.YtnpfdppmpmnhbaaChecked
import GoSem.Claim
import GoSem.ClaimJoined
import GoSem.ClaimMapViews
import Derived.JoinedTies
import Derived.KernelRfl
namespace Go.Proofs.Ytnpfdppmpmnhbaa
/- THE CELL 'sum', in the pinned program and in every row, IS THE sha256 OF THE DUMP (.gsa) THAT YtnpfdppmpmnhbaaProg.lean LOADS. Nothing in Lean hashes anything: it is a label: what it is worth is what the hold of that sum in a sandbox is worth. -/
noncomputable def Try.pinned : Pinned := { name := "ytnpfdppmpmnhbaa", sum := "e11a7e26480e2ecdbf3bc82c3e90e8e2a66acaa6657ad19f6417d2380f933ce2", checked := Try.checked }
namespace Rows
def none {H : Type} : Left H := { results := [], args := [] }

/-- 'milepostlaw1.OctetsWrite': WHATEVER THE INPUT: true; the input reads as it did. -/
def octetsWriteSpec : ChangeSpec := { name := "octetsWrite", fn := fun _ => fun
  | [d] => { results := [.lit (.bool true)], args := [d] }
  | _ => none }
def octetsWriteRow : OpenClaim := { program := "ytnpfdppmpmnhbaa", sum := "e11a7e26480e2ecdbf3bc82c3e90e8e2a66acaa6657ad19f6417d2380f933ce2", func := "milepost/milepostlaw1.OctetsWrite", spec := "octetsWrite", apart := false }
def OctetsWriteSaid : Prop := octetsWriteRow.holds Try.pinned (OpenSpec.ofChange octetsWriteSpec)

/-- ITS FALSE NEIGHBOUR: 'it returns false'. Refute it at one input. -/
def octetsWriteWrong : ChangeSpec := { name := "octetsWrite", fn := fun _ => fun
  | [d] => { results := [.lit (.bool false)], args := [d] }
  | _ => none }
def OctetsWriteWrongFalsely : Prop := octetsWriteRow.holds Try.pinned (OpenSpec.ofChange octetsWriteWrong)

/-- 'milepostlaw1.OctetsRead': WHATEVER THE INPUT: true; the input reads as it did. -/
def octetsReadSpec : ChangeSpec := { name := "octetsRead", fn := fun _ => fun
  | [d1, d2] => { results := [.lit (.bool true)], args := [d1, d2] }
  | _ => none }
def octetsReadRow : OpenClaim := { program := "ytnpfdppmpmnhbaa", sum := "e11a7e26480e2ecdbf3bc82c3e90e8e2a66acaa6657ad19f6417d2380f933ce2", func := "milepost/milepostlaw1.OctetsRead", spec := "octetsRead", apart := false }
def OctetsReadSaid : Prop := octetsReadRow.holds Try.pinned (OpenSpec.ofChange octetsReadSpec)

/-- ITS FALSE NEIGHBOUR: 'it returns false'. Refute it at one input. -/
def octetsReadWrong : ChangeSpec := { name := "octetsRead", fn := fun _ => fun
  | [d1, d2] => { results := [.lit (.bool false)], args := [d1, d2] }
  | _ => none }
def OctetsReadWrongFalsely : Prop := octetsReadRow.holds Try.pinned (OpenSpec.ofChange octetsReadWrong)

/-- 'milepostlaw1.OctetsBack': WHATEVER THE INPUT: true; the input reads as it did. -/
def octetsBackSpec : ChangeSpec := { name := "octetsBack", fn := fun _ => fun
  | [d1, d2, d3] => { results := [.lit (.bool true)], args := [d1, d2, d3] }
  | _ => none }
def octetsBackRow : OpenClaim := { program := "ytnpfdppmpmnhbaa", sum := "e11a7e26480e2ecdbf3bc82c3e90e8e2a66acaa6657ad19f6417d2380f933ce2", func := "milepost/milepostlaw1.OctetsBack", spec := "octetsBack", apart := false }
def OctetsBackSaid : Prop := octetsBackRow.holds Try.pinned (OpenSpec.ofChange octetsBackSpec)

/-- ITS FALSE NEIGHBOUR: 'it returns false'. Refute it at one input. -/
def octetsBackWrong : ChangeSpec := { name := "octetsBack", fn := fun _ => fun
  | [d1, d2, d3] => { results := [.lit (.bool false)], args := [d1, d2, d3] }
  | _ => none }
def OctetsBackWrongFalsely : Prop := octetsBackRow.holds Try.pinned (OpenSpec.ofChange octetsBackWrong)

/-- 'milepostlaw1.OctetsSpoilt': WHATEVER THE INPUT: true; the input reads as it did. -/
def octetsSpoiltSpec : ChangeSpec := { name := "octetsSpoilt", fn := fun _ => fun
  | [d1, d2, d3, d4] => { results := [.lit (.bool true)], args := [d1, d2, d3, d4] }
  | _ => none }
def octetsSpoiltRow : OpenClaim := { program := "ytnpfdppmpmnhbaa", sum := "e11a7e26480e2ecdbf3bc82c3e90e8e2a66acaa6657ad19f6417d2380f933ce2", func := "milepost/milepostlaw1.OctetsSpoilt", spec := "octetsSpoilt", apart := false }
def OctetsSpoiltSaid : Prop := octetsSpoiltRow.holds Try.pinned (OpenSpec.ofChange octetsSpoiltSpec)

/-- ITS FALSE NEIGHBOUR: 'it returns false'. Refute it at one input. -/
def octetsSpoiltWrong : ChangeSpec := { name := "octetsSpoilt", fn := fun _ => fun
  | [d1, d2, d3, d4] => { results := [.lit (.bool false)], args := [d1, d2, d3, d4] }
  | _ => none }
def OctetsSpoiltWrongFalsely : Prop := octetsSpoiltRow.holds Try.pinned (OpenSpec.ofChange octetsSpoiltWrong)

/-- 'milepostlaw3.FrameTells': WHATEVER THE INPUT: true; the input reads as it did. -/
def frameTellsSpec : ChangeSpec := { name := "frameTells", fn := fun _ => fun
  | [d1, d2, d3, d4] => { results := [.lit (.bool true)], args := [d1, d2, d3, d4] }
  | _ => none }
def frameTellsRow : OpenClaim := { program := "ytnpfdppmpmnhbaa", sum := "e11a7e26480e2ecdbf3bc82c3e90e8e2a66acaa6657ad19f6417d2380f933ce2", func := "milepost/milepostlaw3.FrameTells", spec := "frameTells", apart := false }
def FrameTellsSaid : Prop := frameTellsRow.holds Try.pinned (OpenSpec.ofChange frameTellsSpec)

/-- ITS FALSE NEIGHBOUR: 'it returns false'. Refute it at one input. -/
def frameTellsWrong : ChangeSpec := { name := "frameTells", fn := fun _ => fun
  | [d1, d2, d3, d4] => { results := [.lit (.bool false)], args := [d1, d2, d3, d4] }
  | _ => none }
def FrameTellsWrongFalsely : Prop := frameTellsRow.holds Try.pinned (OpenSpec.ofChange frameTellsWrong)

/-- 'milepostlaw3.FrameBack': WHATEVER THE INPUT: true; the input reads as it did. -/
def frameBackSpec : ChangeSpec := { name := "frameBack", fn := fun _ => fun
  | [d1, d2, d3, d4] => { results := [.lit (.bool true)], args := [d1, d2, d3, d4] }
  | _ => none }
def frameBackRow : OpenClaim := { program := "ytnpfdppmpmnhbaa", sum := "e11a7e26480e2ecdbf3bc82c3e90e8e2a66acaa6657ad19f6417d2380f933ce2", func := "milepost/milepostlaw3.FrameBack", spec := "frameBack", apart := false }
def FrameBackSaid : Prop := frameBackRow.holds Try.pinned (OpenSpec.ofChange frameBackSpec)

/-- ITS FALSE NEIGHBOUR: 'it returns false'. Refute it at one input. -/
def frameBackWrong : ChangeSpec := { name := "frameBack", fn := fun _ => fun
  | [d1, d2, d3, d4] => { results := [.lit (.bool false)], args := [d1, d2, d3, d4] }
  | _ => none }
def FrameBackWrongFalsely : Prop := frameBackRow.holds Try.pinned (OpenSpec.ofChange frameBackWrong)

/-- 'milepostlaw3.FrameTurned': WHATEVER THE INPUT: true; the input reads as it did. -/
def frameTurnedSpec : ChangeSpec := { name := "frameTurned", fn := fun _ => fun
  | [d1, d2, d3] => { results := [.lit (.bool true)], args := [d1, d2, d3] }
  | _ => none }
def frameTurnedRow : OpenClaim := { program := "ytnpfdppmpmnhbaa", sum := "e11a7e26480e2ecdbf3bc82c3e90e8e2a66acaa6657ad19f6417d2380f933ce2", func := "milepost/milepostlaw3.FrameTurned", spec := "frameTurned", apart := false }
def FrameTurnedSaid : Prop := frameTurnedRow.holds Try.pinned (OpenSpec.ofChange frameTurnedSpec)

/-- ITS FALSE NEIGHBOUR: 'it returns false'. Refute it at one input. -/
def frameTurnedWrong : ChangeSpec := { name := "frameTurned", fn := fun _ => fun
  | [d1, d2, d3] => { results := [.lit (.bool false)], args := [d1, d2, d3] }
  | _ => none }
def FrameTurnedWrongFalsely : Prop := frameTurnedRow.holds Try.pinned (OpenSpec.ofChange frameTurnedWrong)

/-- 'milepostlaw3.FrameVersions': WHATEVER THE INPUT: true; the input reads as it did. -/
def frameVersionsSpec : ChangeSpec := { name := "frameVersions", fn := fun _ => fun
  | [d1, d2, d3, d4] => { results := [.lit (.bool true)], args := [d1, d2, d3, d4] }
  | _ => none }
def frameVersionsRow : OpenClaim := { program := "ytnpfdppmpmnhbaa", sum := "e11a7e26480e2ecdbf3bc82c3e90e8e2a66acaa6657ad19f6417d2380f933ce2", func := "milepost/milepostlaw3.FrameVersions", spec := "frameVersions", apart := false }
def FrameVersionsSaid : Prop := frameVersionsRow.holds Try.pinned (OpenSpec.ofChange frameVersionsSpec)

/-- ITS FALSE NEIGHBOUR: 'it returns false'. Refute it at one input. -/
def frameVersionsWrong : ChangeSpec := { name := "frameVersions", fn := fun _ => fun
  | [d1, d2, d3, d4] => { results := [.lit (.bool false)], args := [d1, d2, d3, d4] }
  | _ => none }
def FrameVersionsWrongFalsely : Prop := frameVersionsRow.holds Try.pinned (OpenSpec.ofChange frameVersionsWrong)

/-- 'milepostlaw22.MessageTells': WHATEVER THE INPUT: true; the input reads as it did. -/
def messageTellsSpec : ChangeSpec := { name := "messageTells", fn := fun _ => fun
  | [d1, d2, d3] => { results := [.lit (.bool true)], args := [d1, d2, d3] }
  | _ => none }
def messageTellsRow : OpenClaim := { program := "ytnpfdppmpmnhbaa", sum := "e11a7e26480e2ecdbf3bc82c3e90e8e2a66acaa6657ad19f6417d2380f933ce2", func := "milepost/milepostlaw22.MessageTells", spec := "messageTells", apart := false }
def MessageTellsSaid : Prop := messageTellsRow.holds Try.pinned (OpenSpec.ofChange messageTellsSpec)

/-- ITS FALSE NEIGHBOUR: 'it returns false'. Refute it at one input. -/
def messageTellsWrong : ChangeSpec := { name := "messageTells", fn := fun _ => fun
  | [d1, d2, d3] => { results := [.lit (.bool false)], args := [d1, d2, d3] }
  | _ => none }
def MessageTellsWrongFalsely : Prop := messageTellsRow.holds Try.pinned (OpenSpec.ofChange messageTellsWrong)

/-- 'milepostlaw22.MessageBack': WHATEVER THE INPUT: true; the input reads as it did. -/
def messageBackSpec : ChangeSpec := { name := "messageBack", fn := fun _ => fun
  | [d1, d2, d3] => { results := [.lit (.bool true)], args := [d1, d2, d3] }
  | _ => none }
def messageBackRow : OpenClaim := { program := "ytnpfdppmpmnhbaa", sum := "e11a7e26480e2ecdbf3bc82c3e90e8e2a66acaa6657ad19f6417d2380f933ce2", func := "milepost/milepostlaw22.MessageBack", spec := "messageBack", apart := false }
def MessageBackSaid : Prop := messageBackRow.holds Try.pinned (OpenSpec.ofChange messageBackSpec)

/-- ITS FALSE NEIGHBOUR: 'it returns false'. Refute it at one input. -/
def messageBackWrong : ChangeSpec := { name := "messageBack", fn := fun _ => fun
  | [d1, d2, d3] => { results := [.lit (.bool false)], args := [d1, d2, d3] }
  | _ => none }
def MessageBackWrongFalsely : Prop := messageBackRow.holds Try.pinned (OpenSpec.ofChange messageBackWrong)

/-- 'milepostlaw22.MessageFields': WHATEVER THE INPUT: true; the input reads as it did. -/
def messageFieldsSpec : ChangeSpec := { name := "messageFields", fn := fun _ => fun
  | [d1, d2] => { results := [.lit (.bool true)], args := [d1, d2] }
  | _ => none }
def messageFieldsRow : OpenClaim := { program := "ytnpfdppmpmnhbaa", sum := "e11a7e26480e2ecdbf3bc82c3e90e8e2a66acaa6657ad19f6417d2380f933ce2", func := "milepost/milepostlaw22.MessageFields", spec := "messageFields", apart := false }
def MessageFieldsSaid : Prop := messageFieldsRow.holds Try.pinned (OpenSpec.ofChange messageFieldsSpec)

/-- ITS FALSE NEIGHBOUR: 'it returns false'. Refute it at one input. -/
def messageFieldsWrong : ChangeSpec := { name := "messageFields", fn := fun _ => fun
  | [d1, d2] => { results := [.lit (.bool false)], args := [d1, d2] }
  | _ => none }
def MessageFieldsWrongFalsely : Prop := messageFieldsRow.holds Try.pinned (OpenSpec.ofChange messageFieldsWrong)

/-- 'milepostlaw23.GramTells': WHATEVER THE INPUT: true; the input reads as it did. -/
def gramTellsSpec : ChangeSpec := { name := "gramTells", fn := fun _ => fun
  | [d1, d2, d3, d4] => { results := [.lit (.bool true)], args := [d1, d2, d3, d4] }
  | _ => none }
def gramTellsRow : OpenClaim := { program := "ytnpfdppmpmnhbaa", sum := "e11a7e26480e2ecdbf3bc82c3e90e8e2a66acaa6657ad19f6417d2380f933ce2", func := "milepost/milepostlaw23.GramTells", spec := "gramTells", apart := false }
def GramTellsSaid : Prop := gramTellsRow.holds Try.pinned (OpenSpec.ofChange gramTellsSpec)

/-- ITS FALSE NEIGHBOUR: 'it returns false'. Refute it at one input. -/
def gramTellsWrong : ChangeSpec := { name := "gramTells", fn := fun _ => fun
  | [d1, d2, d3, d4] => { results := [.lit (.bool false)], args := [d1, d2, d3, d4] }
  | _ => none }
def GramTellsWrongFalsely : Prop := gramTellsRow.holds Try.pinned (OpenSpec.ofChange gramTellsWrong)

/-- 'milepostlaw23.GramBack': WHATEVER THE INPUT: true; the input reads as it did. -/
def gramBackSpec : ChangeSpec := { name := "gramBack", fn := fun _ => fun
  | [d1, d2] => { results := [.lit (.bool true)], args := [d1, d2] }
  | _ => none }
def gramBackRow : OpenClaim := { program := "ytnpfdppmpmnhbaa", sum := "e11a7e26480e2ecdbf3bc82c3e90e8e2a66acaa6657ad19f6417d2380f933ce2", func := "milepost/milepostlaw23.GramBack", spec := "gramBack", apart := false }
def GramBackSaid : Prop := gramBackRow.holds Try.pinned (OpenSpec.ofChange gramBackSpec)

/-- ITS FALSE NEIGHBOUR: 'it returns false'. Refute it at one input. -/
def gramBackWrong : ChangeSpec := { name := "gramBack", fn := fun _ => fun
  | [d1, d2] => { results := [.lit (.bool false)], args := [d1, d2] }
  | _ => none }
def GramBackWrongFalsely : Prop := gramBackRow.holds Try.pinned (OpenSpec.ofChange gramBackWrong)

/-- 'milepostlaw23.GramFields': WHATEVER THE INPUT: true; the input reads as it did. -/
def gramFieldsSpec : ChangeSpec := { name := "gramFields", fn := fun _ => fun
  | [d1, d2] => { results := [.lit (.bool true)], args := [d1, d2] }
  | _ => none }
def gramFieldsRow : OpenClaim := { program := "ytnpfdppmpmnhbaa", sum := "e11a7e26480e2ecdbf3bc82c3e90e8e2a66acaa6657ad19f6417d2380f933ce2", func := "milepost/milepostlaw23.GramFields", spec := "gramFields", apart := false }
def GramFieldsSaid : Prop := gramFieldsRow.holds Try.pinned (OpenSpec.ofChange gramFieldsSpec)

/-- ITS FALSE NEIGHBOUR: 'it returns false'. Refute it at one input. -/
def gramFieldsWrong : ChangeSpec := { name := "gramFields", fn := fun _ => fun
  | [d1, d2] => { results := [.lit (.bool false)], args := [d1, d2] }
  | _ => none }
def GramFieldsWrongFalsely : Prop := gramFieldsRow.holds Try.pinned (OpenSpec.ofChange gramFieldsWrong)

/- THE SECOND FORM. 'bulk': how many values and letters a reading holds, each counted each time it is reached (what is shared counts as often as it is met; a slice's spare places count too). A statement '..UptoSaid' is the law's where the arguments, and the package variables that the reading takes, are together of bulk at most 1048576: NARROWER than '..Said'. Prove '..Said' where nothing that the law and all that it calls make is longer than what came in: it says more and counts as full. Else prove '..UptoSaid'. A law counts once. -/
mutual
def uptoBulk {H : Type} : DataW H → Nat
  | .lit (.string bytes) => bytes.length + 1
  | .lit _ => 1
  | .nil => 1
  | .ptr d => uptoBulk d + 1
  | .slice elems spare => uptoBulkAll elems + uptoBulkAll spare + 1
  | .agg parts => uptoBulkAll parts + 1
  | .iface _ d => uptoBulk d + 1
  | .map entries => uptoBulkEntries entries + 1
  | .held _ => 1
def uptoBulkAll {H : Type} : List (DataW H) → Nat
  | [] => 0
  | d :: r => uptoBulk d + uptoBulkAll r
def uptoBulkEntries {H : Type} : List (Lit × DataW H) → Nat
  | [] => 0
  | x :: r => uptoBulkEntry x + uptoBulkEntries r
def uptoBulkEntry {H : Type} : Lit × DataW H → Nat
  | (.string bytes, d) => bytes.length + uptoBulk d + 1
  | (_, d) => uptoBulk d + 1
 end
def uptoSmall : (H : Type) → List (DataW H) → Bool := fun _ ds => decide (uptoBulkAll ds ≤ 1048576)
def OpenSpec.upto (s : _root_.Go.ChangeSpec) : _root_.Go.OpenSpec := { _root_.Go.OpenSpec.ofChange s with cond := some uptoSmall }

/-- 'milepostlaw1.OctetsWrite', WHERE WHAT IT READS IS OF BULK AT MOST 1048576: true; the input reads as it did. -/
def octetsWriteUptoRow : OpenClaim := { program := "ytnpfdppmpmnhbaa", sum := "e11a7e26480e2ecdbf3bc82c3e90e8e2a66acaa6657ad19f6417d2380f933ce2", func := "milepost/milepostlaw1.OctetsWrite", spec := "octetsWrite", apart := false, narrowed := true }
def OctetsWriteUptoSaid : Prop := octetsWriteUptoRow.holds Try.pinned (OpenSpec.upto octetsWriteSpec)

/-- 'milepostlaw1.OctetsRead', WHERE WHAT IT READS IS OF BULK AT MOST 1048576: true; the input reads as it did. -/
def octetsReadUptoRow : OpenClaim := { program := "ytnpfdppmpmnhbaa", sum := "e11a7e26480e2ecdbf3bc82c3e90e8e2a66acaa6657ad19f6417d2380f933ce2", func := "milepost/milepostlaw1.OctetsRead", spec := "octetsRead", apart := false, narrowed := true }
def OctetsReadUptoSaid : Prop := octetsReadUptoRow.holds Try.pinned (OpenSpec.upto octetsReadSpec)

/-- 'milepostlaw1.OctetsBack', WHERE WHAT IT READS IS OF BULK AT MOST 1048576: true; the input reads as it did. -/
def octetsBackUptoRow : OpenClaim := { program := "ytnpfdppmpmnhbaa", sum := "e11a7e26480e2ecdbf3bc82c3e90e8e2a66acaa6657ad19f6417d2380f933ce2", func := "milepost/milepostlaw1.OctetsBack", spec := "octetsBack", apart := false, narrowed := true }
def OctetsBackUptoSaid : Prop := octetsBackUptoRow.holds Try.pinned (OpenSpec.upto octetsBackSpec)

/-- 'milepostlaw1.OctetsSpoilt', WHERE WHAT IT READS IS OF BULK AT MOST 1048576: true; the input reads as it did. -/
def octetsSpoiltUptoRow : OpenClaim := { program := "ytnpfdppmpmnhbaa", sum := "e11a7e26480e2ecdbf3bc82c3e90e8e2a66acaa6657ad19f6417d2380f933ce2", func := "milepost/milepostlaw1.OctetsSpoilt", spec := "octetsSpoilt", apart := false, narrowed := true }
def OctetsSpoiltUptoSaid : Prop := octetsSpoiltUptoRow.holds Try.pinned (OpenSpec.upto octetsSpoiltSpec)

/-- 'milepostlaw3.FrameTells', WHERE WHAT IT READS IS OF BULK AT MOST 1048576: true; the input reads as it did. -/
def frameTellsUptoRow : OpenClaim := { program := "ytnpfdppmpmnhbaa", sum := "e11a7e26480e2ecdbf3bc82c3e90e8e2a66acaa6657ad19f6417d2380f933ce2", func := "milepost/milepostlaw3.FrameTells", spec := "frameTells", apart := false, narrowed := true }
def FrameTellsUptoSaid : Prop := frameTellsUptoRow.holds Try.pinned (OpenSpec.upto frameTellsSpec)

/-- 'milepostlaw3.FrameBack', WHERE WHAT IT READS IS OF BULK AT MOST 1048576: true; the input reads as it did. -/
def frameBackUptoRow : OpenClaim := { program := "ytnpfdppmpmnhbaa", sum := "e11a7e26480e2ecdbf3bc82c3e90e8e2a66acaa6657ad19f6417d2380f933ce2", func := "milepost/milepostlaw3.FrameBack", spec := "frameBack", apart := false, narrowed := true }
def FrameBackUptoSaid : Prop := frameBackUptoRow.holds Try.pinned (OpenSpec.upto frameBackSpec)

/-- 'milepostlaw3.FrameTurned', WHERE WHAT IT READS IS OF BULK AT MOST 1048576: true; the input reads as it did. -/
def frameTurnedUptoRow : OpenClaim := { program := "ytnpfdppmpmnhbaa", sum := "e11a7e26480e2ecdbf3bc82c3e90e8e2a66acaa6657ad19f6417d2380f933ce2", func := "milepost/milepostlaw3.FrameTurned", spec := "frameTurned", apart := false, narrowed := true }
def FrameTurnedUptoSaid : Prop := frameTurnedUptoRow.holds Try.pinned (OpenSpec.upto frameTurnedSpec)

/-- 'milepostlaw3.FrameVersions', WHERE WHAT IT READS IS OF BULK AT MOST 1048576: true; the input reads as it did. -/
def frameVersionsUptoRow : OpenClaim := { program := "ytnpfdppmpmnhbaa", sum := "e11a7e26480e2ecdbf3bc82c3e90e8e2a66acaa6657ad19f6417d2380f933ce2", func := "milepost/milepostlaw3.FrameVersions", spec := "frameVersions", apart := false, narrowed := true }
def FrameVersionsUptoSaid : Prop := frameVersionsUptoRow.holds Try.pinned (OpenSpec.upto frameVersionsSpec)

/-- 'milepostlaw22.MessageTells', WHERE WHAT IT READS IS OF BULK AT MOST 1048576: true; the input reads as it did. -/
def messageTellsUptoRow : OpenClaim := { program := "ytnpfdppmpmnhbaa", sum := "e11a7e26480e2ecdbf3bc82c3e90e8e2a66acaa6657ad19f6417d2380f933ce2", func := "milepost/milepostlaw22.MessageTells", spec := "messageTells", apart := false, narrowed := true }
def MessageTellsUptoSaid : Prop := messageTellsUptoRow.holds Try.pinned (OpenSpec.upto messageTellsSpec)

/-- 'milepostlaw22.MessageBack', WHERE WHAT IT READS IS OF BULK AT MOST 1048576: true; the input reads as it did. -/
def messageBackUptoRow : OpenClaim := { program := "ytnpfdppmpmnhbaa", sum := "e11a7e26480e2ecdbf3bc82c3e90e8e2a66acaa6657ad19f6417d2380f933ce2", func := "milepost/milepostlaw22.MessageBack", spec := "messageBack", apart := false, narrowed := true }
def MessageBackUptoSaid : Prop := messageBackUptoRow.holds Try.pinned (OpenSpec.upto messageBackSpec)

/-- 'milepostlaw22.MessageFields', WHERE WHAT IT READS IS OF BULK AT MOST 1048576: true; the input reads as it did. -/
def messageFieldsUptoRow : OpenClaim := { program := "ytnpfdppmpmnhbaa", sum := "e11a7e26480e2ecdbf3bc82c3e90e8e2a66acaa6657ad19f6417d2380f933ce2", func := "milepost/milepostlaw22.MessageFields", spec := "messageFields", apart := false, narrowed := true }
def MessageFieldsUptoSaid : Prop := messageFieldsUptoRow.holds Try.pinned (OpenSpec.upto messageFieldsSpec)

/-- 'milepostlaw23.GramTells', WHERE WHAT IT READS IS OF BULK AT MOST 1048576: true; the input reads as it did. -/
def gramTellsUptoRow : OpenClaim := { program := "ytnpfdppmpmnhbaa", sum := "e11a7e26480e2ecdbf3bc82c3e90e8e2a66acaa6657ad19f6417d2380f933ce2", func := "milepost/milepostlaw23.GramTells", spec := "gramTells", apart := false, narrowed := true }
def GramTellsUptoSaid : Prop := gramTellsUptoRow.holds Try.pinned (OpenSpec.upto gramTellsSpec)

/-- 'milepostlaw23.GramBack', WHERE WHAT IT READS IS OF BULK AT MOST 1048576: true; the input reads as it did. -/
def gramBackUptoRow : OpenClaim := { program := "ytnpfdppmpmnhbaa", sum := "e11a7e26480e2ecdbf3bc82c3e90e8e2a66acaa6657ad19f6417d2380f933ce2", func := "milepost/milepostlaw23.GramBack", spec := "gramBack", apart := false, narrowed := true }
def GramBackUptoSaid : Prop := gramBackUptoRow.holds Try.pinned (OpenSpec.upto gramBackSpec)

/-- 'milepostlaw23.GramFields', WHERE WHAT IT READS IS OF BULK AT MOST 1048576: true; the input reads as it did. -/
def gramFieldsUptoRow : OpenClaim := { program := "ytnpfdppmpmnhbaa", sum := "e11a7e26480e2ecdbf3bc82c3e90e8e2a66acaa6657ad19f6417d2380f933ce2", func := "milepost/milepostlaw23.GramFields", spec := "gramFields", apart := false, narrowed := true }
def GramFieldsUptoSaid : Prop := gramFieldsUptoRow.holds Try.pinned (OpenSpec.upto gramFieldsSpec)

end Rows
end Go.Proofs.Ytnpfdppmpmnhbaa
