/-
  No cell of these rows narrows 'for every input' (looked for: loops, veiled, ifaces, maps, wideKeys, modest, calm, conditions, laid).
  DERIVED. THE GIVEN ROWS OF THIS SEAT. 12 by the template 'for every input the law returns true; each argument reads behind the call as it read before'; 0 by the template 'total and deterministic' (their statements: YtoljllfbabahpaaTotals.lean).
  GIVEN WITH THE SEED: the statements are not yours to turn. If you find one false, say at which input.
  Laid BY PROGRAM, IN A SANDBOX (cutbox-rows.mjs): the forced cells as the released guide's own fill.sh prints them over the translation 4cbdb40145ec7b9f… (all of the seat's roots in one cut). By AI agents, Wed Nov 11 2026. No macro, syntax, notation, axiom, sorry.
-/
import Derived.Test.YtoljllfbabahpaaChecked
import GoSem.Claim
import GoSem.ClaimJoined
import GoSem.ClaimMapViews
import Derived.JoinedTies
import Derived.KernelRfl
namespace Go.Proofs.Ytoljllfbabahpaa
/- THE CELL 'sum', in the pinned program and in every row, IS THE sha256 OF THE DUMP (.gsa) THAT YtoljllfbabahpaaProg.lean LOADS. Nothing in Lean hashes anything: it is a label: what it is worth is what the hold of that sum in a sandbox is worth. -/
noncomputable def Try.pinned : Pinned := { name := "ytoljllfbabahpaa", sum := "4cbdb40145ec7b9f5d361e39a537548b0a57791dbcc2f0060b07d35180d4a478", checked := Try.checked }
namespace Rows
def none {H : Type} : Left H := { results := [], args := [] }

/-- 'milepostlaw27.ChannelOwes': WHATEVER THE INPUT: true; the input reads as it did. -/
def channelOwesSpec : ChangeSpec := { name := "channelOwes", fn := fun _ => fun
  | [d1, d2, d3] => { results := [.lit (.bool true)], args := [d1, d2, d3] }
  | _ => none }
def channelOwesRow : OpenClaim := { program := "ytoljllfbabahpaa", sum := "4cbdb40145ec7b9f5d361e39a537548b0a57791dbcc2f0060b07d35180d4a478", func := "milepost/milepostlaw27.ChannelOwes", spec := "channelOwes", plainKeys := false, apart := false }
def ChannelOwesSaid : Prop := channelOwesRow.holds Try.pinned (OpenSpec.ofChange channelOwesSpec)

/-- ITS FALSE NEIGHBOUR: 'it returns false'. Refute it at one input. -/
def channelOwesWrong : ChangeSpec := { name := "channelOwes", fn := fun _ => fun
  | [d1, d2, d3] => { results := [.lit (.bool false)], args := [d1, d2, d3] }
  | _ => none }
def ChannelOwesWrongFalsely : Prop := channelOwesRow.holds Try.pinned (OpenSpec.ofChange channelOwesWrong)

/-- 'milepostlaw29.TableActs': WHATEVER THE INPUT: true; the input reads as it did. -/
def tableActsSpec : ChangeSpec := { name := "tableActs", fn := fun _ => fun
  | [d1, d2] => { results := [.lit (.bool true)], args := [d1, d2] }
  | _ => none }
def tableActsRow : OpenClaim := { program := "ytoljllfbabahpaa", sum := "4cbdb40145ec7b9f5d361e39a537548b0a57791dbcc2f0060b07d35180d4a478", func := "milepost/milepostlaw29.TableActs", spec := "tableActs", unfollowed := true, recurses := true, plainKeys := false, apart := false }
def TableActsSaid : Prop := tableActsRow.holds Try.pinned (OpenSpec.ofChange tableActsSpec)

/-- ITS FALSE NEIGHBOUR: 'it returns false'. Refute it at one input. -/
def tableActsWrong : ChangeSpec := { name := "tableActs", fn := fun _ => fun
  | [d1, d2] => { results := [.lit (.bool false)], args := [d1, d2] }
  | _ => none }
def TableActsWrongFalsely : Prop := tableActsRow.holds Try.pinned (OpenSpec.ofChange tableActsWrong)

/-- 'milepostlaw29.TableBounds': WHATEVER THE INPUT: true; the input reads as it did. -/
def tableBoundsSpec : ChangeSpec := { name := "tableBounds", fn := fun _ => fun
  | [d1, d2, d3] => { results := [.lit (.bool true)], args := [d1, d2, d3] }
  | _ => none }
def tableBoundsRow : OpenClaim := { program := "ytoljllfbabahpaa", sum := "4cbdb40145ec7b9f5d361e39a537548b0a57791dbcc2f0060b07d35180d4a478", func := "milepost/milepostlaw29.TableBounds", spec := "tableBounds", unfollowed := true, recurses := true, plainKeys := false, apart := false }
def TableBoundsSaid : Prop := tableBoundsRow.holds Try.pinned (OpenSpec.ofChange tableBoundsSpec)

/-- ITS FALSE NEIGHBOUR: 'it returns false'. Refute it at one input. -/
def tableBoundsWrong : ChangeSpec := { name := "tableBounds", fn := fun _ => fun
  | [d1, d2, d3] => { results := [.lit (.bool false)], args := [d1, d2, d3] }
  | _ => none }
def TableBoundsWrongFalsely : Prop := tableBoundsRow.holds Try.pinned (OpenSpec.ofChange tableBoundsWrong)

/-- 'milepostlaw29.TableMay': WHATEVER THE INPUT: true; the input reads as it did. -/
def tableMaySpec : ChangeSpec := { name := "tableMay", fn := fun _ => fun
  | [d1, d2] => { results := [.lit (.bool true)], args := [d1, d2] }
  | _ => none }
def tableMayRow : OpenClaim := { program := "ytoljllfbabahpaa", sum := "4cbdb40145ec7b9f5d361e39a537548b0a57791dbcc2f0060b07d35180d4a478", func := "milepost/milepostlaw29.TableMay", spec := "tableMay", unfollowed := true, recurses := true, plainKeys := false, apart := false }
def TableMaySaid : Prop := tableMayRow.holds Try.pinned (OpenSpec.ofChange tableMaySpec)

/-- ITS FALSE NEIGHBOUR: 'it returns false'. Refute it at one input. -/
def tableMayWrong : ChangeSpec := { name := "tableMay", fn := fun _ => fun
  | [d1, d2] => { results := [.lit (.bool false)], args := [d1, d2] }
  | _ => none }
def TableMayWrongFalsely : Prop := tableMayRow.holds Try.pinned (OpenSpec.ofChange tableMayWrong)

/-- 'milepostlaw29.TableDrops': WHATEVER THE INPUT: true; the input reads as it did. -/
def tableDropsSpec : ChangeSpec := { name := "tableDrops", fn := fun _ => fun
  | [d1, d2] => { results := [.lit (.bool true)], args := [d1, d2] }
  | _ => none }
def tableDropsRow : OpenClaim := { program := "ytoljllfbabahpaa", sum := "4cbdb40145ec7b9f5d361e39a537548b0a57791dbcc2f0060b07d35180d4a478", func := "milepost/milepostlaw29.TableDrops", spec := "tableDrops", unfollowed := true, recurses := true, plainKeys := false, apart := false }
def TableDropsSaid : Prop := tableDropsRow.holds Try.pinned (OpenSpec.ofChange tableDropsSpec)

/-- ITS FALSE NEIGHBOUR: 'it returns false'. Refute it at one input. -/
def tableDropsWrong : ChangeSpec := { name := "tableDrops", fn := fun _ => fun
  | [d1, d2] => { results := [.lit (.bool false)], args := [d1, d2] }
  | _ => none }
def TableDropsWrongFalsely : Prop := tableDropsRow.holds Try.pinned (OpenSpec.ofChange tableDropsWrong)

/-- 'milepostlaw25.SenderActs': WHATEVER THE INPUT: true; the input reads as it did. -/
def senderActsSpec : ChangeSpec := { name := "senderActs", fn := fun _ => fun
  | [d1, d2, d3, d4] => { results := [.lit (.bool true)], args := [d1, d2, d3, d4] }
  | _ => none }
def senderActsRow : OpenClaim := { program := "ytoljllfbabahpaa", sum := "4cbdb40145ec7b9f5d361e39a537548b0a57791dbcc2f0060b07d35180d4a478", func := "milepost/milepostlaw25.SenderActs", spec := "senderActs", unfollowed := true, recurses := true, plainKeys := false, apart := false }
def SenderActsSaid : Prop := senderActsRow.holds Try.pinned (OpenSpec.ofChange senderActsSpec)

/-- ITS FALSE NEIGHBOUR: 'it returns false'. Refute it at one input. -/
def senderActsWrong : ChangeSpec := { name := "senderActs", fn := fun _ => fun
  | [d1, d2, d3, d4] => { results := [.lit (.bool false)], args := [d1, d2, d3, d4] }
  | _ => none }
def SenderActsWrongFalsely : Prop := senderActsRow.holds Try.pinned (OpenSpec.ofChange senderActsWrong)

/-- 'milepostlaw25.SenderAgain': WHATEVER THE INPUT: true; the input reads as it did. -/
def senderAgainSpec : ChangeSpec := { name := "senderAgain", fn := fun _ => fun
  | [d1, d2, d3] => { results := [.lit (.bool true)], args := [d1, d2, d3] }
  | _ => none }
def senderAgainRow : OpenClaim := { program := "ytoljllfbabahpaa", sum := "4cbdb40145ec7b9f5d361e39a537548b0a57791dbcc2f0060b07d35180d4a478", func := "milepost/milepostlaw25.SenderAgain", spec := "senderAgain", unfollowed := true, recurses := true, plainKeys := false, apart := false }
def SenderAgainSaid : Prop := senderAgainRow.holds Try.pinned (OpenSpec.ofChange senderAgainSpec)

/-- ITS FALSE NEIGHBOUR: 'it returns false'. Refute it at one input. -/
def senderAgainWrong : ChangeSpec := { name := "senderAgain", fn := fun _ => fun
  | [d1, d2, d3] => { results := [.lit (.bool false)], args := [d1, d2, d3] }
  | _ => none }
def SenderAgainWrongFalsely : Prop := senderAgainRow.holds Try.pinned (OpenSpec.ofChange senderAgainWrong)

/-- 'milepostlaw25.SenderWindow': WHATEVER THE INPUT: true; the input reads as it did. -/
def senderWindowSpec : ChangeSpec := { name := "senderWindow", fn := fun _ => fun
  | [d1, d2] => { results := [.lit (.bool true)], args := [d1, d2] }
  | _ => none }
def senderWindowRow : OpenClaim := { program := "ytoljllfbabahpaa", sum := "4cbdb40145ec7b9f5d361e39a537548b0a57791dbcc2f0060b07d35180d4a478", func := "milepost/milepostlaw25.SenderWindow", spec := "senderWindow", unfollowed := true, recurses := true, plainKeys := false, apart := false }
def SenderWindowSaid : Prop := senderWindowRow.holds Try.pinned (OpenSpec.ofChange senderWindowSpec)

/-- ITS FALSE NEIGHBOUR: 'it returns false'. Refute it at one input. -/
def senderWindowWrong : ChangeSpec := { name := "senderWindow", fn := fun _ => fun
  | [d1, d2] => { results := [.lit (.bool false)], args := [d1, d2] }
  | _ => none }
def SenderWindowWrongFalsely : Prop := senderWindowRow.holds Try.pinned (OpenSpec.ofChange senderWindowWrong)

/-- 'milepostlaw25.SenderStale': WHATEVER THE INPUT: true; the input reads as it did. -/
def senderStaleSpec : ChangeSpec := { name := "senderStale", fn := fun _ => fun
  | [d1, d2] => { results := [.lit (.bool true)], args := [d1, d2] }
  | _ => none }
def senderStaleRow : OpenClaim := { program := "ytoljllfbabahpaa", sum := "4cbdb40145ec7b9f5d361e39a537548b0a57791dbcc2f0060b07d35180d4a478", func := "milepost/milepostlaw25.SenderStale", spec := "senderStale", unfollowed := true, recurses := true, plainKeys := false, apart := false }
def SenderStaleSaid : Prop := senderStaleRow.holds Try.pinned (OpenSpec.ofChange senderStaleSpec)

/-- ITS FALSE NEIGHBOUR: 'it returns false'. Refute it at one input. -/
def senderStaleWrong : ChangeSpec := { name := "senderStale", fn := fun _ => fun
  | [d1, d2] => { results := [.lit (.bool false)], args := [d1, d2] }
  | _ => none }
def SenderStaleWrongFalsely : Prop := senderStaleRow.holds Try.pinned (OpenSpec.ofChange senderStaleWrong)

/-- 'milepostlaw27.ChannelActs': WHATEVER THE INPUT: true; the input reads as it did. -/
def channelActsSpec : ChangeSpec := { name := "channelActs", fn := fun _ => fun
  | [d1, d2, d3] => { results := [.lit (.bool true)], args := [d1, d2, d3] }
  | _ => none }
def channelActsRow : OpenClaim := { program := "ytoljllfbabahpaa", sum := "4cbdb40145ec7b9f5d361e39a537548b0a57791dbcc2f0060b07d35180d4a478", func := "milepost/milepostlaw27.ChannelActs", spec := "channelActs", unfollowed := true, recurses := true, plainKeys := false, apart := false }
def ChannelActsSaid : Prop := channelActsRow.holds Try.pinned (OpenSpec.ofChange channelActsSpec)

/-- ITS FALSE NEIGHBOUR: 'it returns false'. Refute it at one input. -/
def channelActsWrong : ChangeSpec := { name := "channelActs", fn := fun _ => fun
  | [d1, d2, d3] => { results := [.lit (.bool false)], args := [d1, d2, d3] }
  | _ => none }
def ChannelActsWrongFalsely : Prop := channelActsRow.holds Try.pinned (OpenSpec.ofChange channelActsWrong)

/-- 'milepostlaw27.ChannelOrder': WHATEVER THE INPUT: true; the input reads as it did. -/
def channelOrderSpec : ChangeSpec := { name := "channelOrder", fn := fun _ => fun
  | [d1, d2, d3, d4] => { results := [.lit (.bool true)], args := [d1, d2, d3, d4] }
  | _ => none }
def channelOrderRow : OpenClaim := { program := "ytoljllfbabahpaa", sum := "4cbdb40145ec7b9f5d361e39a537548b0a57791dbcc2f0060b07d35180d4a478", func := "milepost/milepostlaw27.ChannelOrder", spec := "channelOrder", unfollowed := true, recurses := true, plainKeys := false, apart := false }
def ChannelOrderSaid : Prop := channelOrderRow.holds Try.pinned (OpenSpec.ofChange channelOrderSpec)

/-- ITS FALSE NEIGHBOUR: 'it returns false'. Refute it at one input. -/
def channelOrderWrong : ChangeSpec := { name := "channelOrder", fn := fun _ => fun
  | [d1, d2, d3, d4] => { results := [.lit (.bool false)], args := [d1, d2, d3, d4] }
  | _ => none }
def ChannelOrderWrongFalsely : Prop := channelOrderRow.holds Try.pinned (OpenSpec.ofChange channelOrderWrong)

/-- 'milepostlaw27.ChannelTries': WHATEVER THE INPUT: true; the input reads as it did. -/
def channelTriesSpec : ChangeSpec := { name := "channelTries", fn := fun _ => fun
  | [d1, d2, d3, d4] => { results := [.lit (.bool true)], args := [d1, d2, d3, d4] }
  | _ => none }
def channelTriesRow : OpenClaim := { program := "ytoljllfbabahpaa", sum := "4cbdb40145ec7b9f5d361e39a537548b0a57791dbcc2f0060b07d35180d4a478", func := "milepost/milepostlaw27.ChannelTries", spec := "channelTries", unfollowed := true, recurses := true, plainKeys := false, apart := false }
def ChannelTriesSaid : Prop := channelTriesRow.holds Try.pinned (OpenSpec.ofChange channelTriesSpec)

/-- ITS FALSE NEIGHBOUR: 'it returns false'. Refute it at one input. -/
def channelTriesWrong : ChangeSpec := { name := "channelTries", fn := fun _ => fun
  | [d1, d2, d3, d4] => { results := [.lit (.bool false)], args := [d1, d2, d3, d4] }
  | _ => none }
def ChannelTriesWrongFalsely : Prop := channelTriesRow.holds Try.pinned (OpenSpec.ofChange channelTriesWrong)

/- THE SECOND FORM. 'bulk': how many values and letters a reading holds, each counted each time it is reached (what is shared counts as often as it is met; a slice's spare places count too). A statement '..UptoSaid' is the law's where the arguments, and the package variables that the reading takes, are together of bulk at most 1048576: NARROWER than '..Said'. Prove '..Said' where nothing that the law and all that it calls make is longer than what came in: it says more and counts as full. Else prove '..UptoSaid'. A law counts once. -/
mutual
def uptoBulk {H : Type} : DataW H → Nat
  | .lit (.string bytes) => bytes.length + 1
  | .lit _ => 1
  | .nil => 1
  | .ptr d => uptoBulk d + 1
  | .slice elems spare => uptoBulkAll elems + uptoBulkAll spare + 1
  | .agg parts => uptoBulkAll parts + 1
  | .iface _ d => uptoBulk d + 1
  | .map entries => uptoBulkEntries entries + 1
  | .held _ => 1
def uptoBulkAll {H : Type} : List (DataW H) → Nat
  | [] => 0
  | d :: r => uptoBulk d + uptoBulkAll r
def uptoBulkEntries {H : Type} : List (Lit × DataW H) → Nat
  | [] => 0
  | x :: r => uptoBulkEntry x + uptoBulkEntries r
def uptoBulkEntry {H : Type} : Lit × DataW H → Nat
  | (.string bytes, d) => bytes.length + uptoBulk d + 1
  | (_, d) => uptoBulk d + 1
 end
def uptoSmall : (H : Type) → List (DataW H) → Bool := fun _ ds => decide (uptoBulkAll ds ≤ 1048576)
def OpenSpec.upto (s : _root_.Go.ChangeSpec) : _root_.Go.OpenSpec := { _root_.Go.OpenSpec.ofChange s with cond := some uptoSmall }

/-- 'milepostlaw27.ChannelOwes', WHERE WHAT IT READS IS OF BULK AT MOST 1048576: true; the input reads as it did. -/
def channelOwesUptoRow : OpenClaim := { program := "ytoljllfbabahpaa", sum := "4cbdb40145ec7b9f5d361e39a537548b0a57791dbcc2f0060b07d35180d4a478", func := "milepost/milepostlaw27.ChannelOwes", spec := "channelOwes", plainKeys := false, apart := false, narrowed := true }
def ChannelOwesUptoSaid : Prop := channelOwesUptoRow.holds Try.pinned (OpenSpec.upto channelOwesSpec)

/-- 'milepostlaw29.TableActs', WHERE WHAT IT READS IS OF BULK AT MOST 1048576: true; the input reads as it did. -/
def tableActsUptoRow : OpenClaim := { program := "ytoljllfbabahpaa", sum := "4cbdb40145ec7b9f5d361e39a537548b0a57791dbcc2f0060b07d35180d4a478", func := "milepost/milepostlaw29.TableActs", spec := "tableActs", unfollowed := true, recurses := true, plainKeys := false, apart := false, narrowed := true }
def TableActsUptoSaid : Prop := tableActsUptoRow.holds Try.pinned (OpenSpec.upto tableActsSpec)

/-- 'milepostlaw29.TableBounds', WHERE WHAT IT READS IS OF BULK AT MOST 1048576: true; the input reads as it did. -/
def tableBoundsUptoRow : OpenClaim := { program := "ytoljllfbabahpaa", sum := "4cbdb40145ec7b9f5d361e39a537548b0a57791dbcc2f0060b07d35180d4a478", func := "milepost/milepostlaw29.TableBounds", spec := "tableBounds", unfollowed := true, recurses := true, plainKeys := false, apart := false, narrowed := true }
def TableBoundsUptoSaid : Prop := tableBoundsUptoRow.holds Try.pinned (OpenSpec.upto tableBoundsSpec)

/-- 'milepostlaw29.TableMay', WHERE WHAT IT READS IS OF BULK AT MOST 1048576: true; the input reads as it did. -/
def tableMayUptoRow : OpenClaim := { program := "ytoljllfbabahpaa", sum := "4cbdb40145ec7b9f5d361e39a537548b0a57791dbcc2f0060b07d35180d4a478", func := "milepost/milepostlaw29.TableMay", spec := "tableMay", unfollowed := true, recurses := true, plainKeys := false, apart := false, narrowed := true }
def TableMayUptoSaid : Prop := tableMayUptoRow.holds Try.pinned (OpenSpec.upto tableMaySpec)

/-- 'milepostlaw29.TableDrops', WHERE WHAT IT READS IS OF BULK AT MOST 1048576: true; the input reads as it did. -/
def tableDropsUptoRow : OpenClaim := { program := "ytoljllfbabahpaa", sum := "4cbdb40145ec7b9f5d361e39a537548b0a57791dbcc2f0060b07d35180d4a478", func := "milepost/milepostlaw29.TableDrops", spec := "tableDrops", unfollowed := true, recurses := true, plainKeys := false, apart := false, narrowed := true }
def TableDropsUptoSaid : Prop := tableDropsUptoRow.holds Try.pinned (OpenSpec.upto tableDropsSpec)

/-- 'milepostlaw25.SenderActs', WHERE WHAT IT READS IS OF BULK AT MOST 1048576: true; the input reads as it did. -/
def senderActsUptoRow : OpenClaim := { program := "ytoljllfbabahpaa", sum := "4cbdb40145ec7b9f5d361e39a537548b0a57791dbcc2f0060b07d35180d4a478", func := "milepost/milepostlaw25.SenderActs", spec := "senderActs", unfollowed := true, recurses := true, plainKeys := false, apart := false, narrowed := true }
def SenderActsUptoSaid : Prop := senderActsUptoRow.holds Try.pinned (OpenSpec.upto senderActsSpec)

/-- 'milepostlaw25.SenderAgain', WHERE WHAT IT READS IS OF BULK AT MOST 1048576: true; the input reads as it did. -/
def senderAgainUptoRow : OpenClaim := { program := "ytoljllfbabahpaa", sum := "4cbdb40145ec7b9f5d361e39a537548b0a57791dbcc2f0060b07d35180d4a478", func := "milepost/milepostlaw25.SenderAgain", spec := "senderAgain", unfollowed := true, recurses := true, plainKeys := false, apart := false, narrowed := true }
def SenderAgainUptoSaid : Prop := senderAgainUptoRow.holds Try.pinned (OpenSpec.upto senderAgainSpec)

/-- 'milepostlaw25.SenderWindow', WHERE WHAT IT READS IS OF BULK AT MOST 1048576: true; the input reads as it did. -/
def senderWindowUptoRow : OpenClaim := { program := "ytoljllfbabahpaa", sum := "4cbdb40145ec7b9f5d361e39a537548b0a57791dbcc2f0060b07d35180d4a478", func := "milepost/milepostlaw25.SenderWindow", spec := "senderWindow", unfollowed := true, recurses := true, plainKeys := false, apart := false, narrowed := true }
def SenderWindowUptoSaid : Prop := senderWindowUptoRow.holds Try.pinned (OpenSpec.upto senderWindowSpec)

/-- 'milepostlaw25.SenderStale', WHERE WHAT IT READS IS OF BULK AT MOST 1048576: true; the input reads as it did. -/
def senderStaleUptoRow : OpenClaim := { program := "ytoljllfbabahpaa", sum := "4cbdb40145ec7b9f5d361e39a537548b0a57791dbcc2f0060b07d35180d4a478", func := "milepost/milepostlaw25.SenderStale", spec := "senderStale", unfollowed := true, recurses := true, plainKeys := false, apart := false, narrowed := true }
def SenderStaleUptoSaid : Prop := senderStaleUptoRow.holds Try.pinned (OpenSpec.upto senderStaleSpec)

/-- 'milepostlaw27.ChannelActs', WHERE WHAT IT READS IS OF BULK AT MOST 1048576: true; the input reads as it did. -/
def channelActsUptoRow : OpenClaim := { program := "ytoljllfbabahpaa", sum := "4cbdb40145ec7b9f5d361e39a537548b0a57791dbcc2f0060b07d35180d4a478", func := "milepost/milepostlaw27.ChannelActs", spec := "channelActs", unfollowed := true, recurses := true, plainKeys := false, apart := false, narrowed := true }
def ChannelActsUptoSaid : Prop := channelActsUptoRow.holds Try.pinned (OpenSpec.upto channelActsSpec)

/-- 'milepostlaw27.ChannelOrder', WHERE WHAT IT READS IS OF BULK AT MOST 1048576: true; the input reads as it did. -/
def channelOrderUptoRow : OpenClaim := { program := "ytoljllfbabahpaa", sum := "4cbdb40145ec7b9f5d361e39a537548b0a57791dbcc2f0060b07d35180d4a478", func := "milepost/milepostlaw27.ChannelOrder", spec := "channelOrder", unfollowed := true, recurses := true, plainKeys := false, apart := false, narrowed := true }
def ChannelOrderUptoSaid : Prop := channelOrderUptoRow.holds Try.pinned (OpenSpec.upto channelOrderSpec)

/-- 'milepostlaw27.ChannelTries', WHERE WHAT IT READS IS OF BULK AT MOST 1048576: true; the input reads as it did. -/
def channelTriesUptoRow : OpenClaim := { program := "ytoljllfbabahpaa", sum := "4cbdb40145ec7b9f5d361e39a537548b0a57791dbcc2f0060b07d35180d4a478", func := "milepost/milepostlaw27.ChannelTries", spec := "channelTries", unfollowed := true, recurses := true, plainKeys := false, apart := false, narrowed := true }
def ChannelTriesUptoSaid : Prop := channelTriesUptoRow.holds Try.pinned (OpenSpec.upto channelTriesSpec)

end Rows
end Go.Proofs.Ytoljllfbabahpaa
