/-
  No cell of these rows narrows 'for every input' (looked for: loops, veiled, ifaces, maps, wideKeys, modest, calm, conditions, laid).
  DERIVED. THE GIVEN ROWS OF THIS SEAT. 12 by the template 'for every input the law returns true; each argument reads behind the call as it read before'; 0 by the template 'total and deterministic' (their statements: YtpefdmidfllhoaaTotals.lean).
  GIVEN WITH THE SEED: the statements are not yours to turn. If you find one false, say at which input.
  Laid BY PROGRAM, IN A SANDBOX (cutbox-rows.mjs): the forced cells as the released guide's own fill.sh prints them over the translation d958bfb94ee8c9a3… (all of the seat's roots in one cut). By AI agents, Wed Nov 11 2026. No macro, syntax, notation, axiom, sorry.
-/
import Derived.Test.YtpefdmidfllhoaaChecked
import GoSem.Claim
import GoSem.ClaimJoined
import GoSem.ClaimMapViews
import Derived.JoinedTies
import Derived.KernelRfl
namespace Go.Proofs.Ytpefdmidfllhoaa
/- THE CELL 'sum', in the pinned program and in every row, IS THE sha256 OF THE DUMP (.gsa) THAT YtpefdmidfllhoaaProg.lean LOADS. Nothing in Lean hashes anything: it is a label: what it is worth is what the hold of that sum in a sandbox is worth. -/
noncomputable def Try.pinned : Pinned := { name := "ytpefdmidfllhoaa", sum := "d958bfb94ee8c9a31fc2de31d73c191c6f5dde43939575c2dd0ed937807c6c07", checked := Try.checked }
namespace Rows
def none {H : Type} : Left H := { results := [], args := [] }

/-- 'milepostlaw27.ChannelOwes': WHATEVER THE INPUT: true; the input reads as it did. -/
def channelOwesSpec : ChangeSpec := { name := "channelOwes", fn := fun _ => fun
  | [d1, d2, d3] => { results := [.lit (.bool true)], args := [d1, d2, d3] }
  | _ => none }
def channelOwesRow : OpenClaim := { program := "ytpefdmidfllhoaa", sum := "d958bfb94ee8c9a31fc2de31d73c191c6f5dde43939575c2dd0ed937807c6c07", func := "milepost/milepostlaw27.ChannelOwes", spec := "channelOwes", apart := false }
def ChannelOwesSaid : Prop := channelOwesRow.holds Try.pinned (OpenSpec.ofChange channelOwesSpec)

/-- ITS FALSE NEIGHBOUR: 'it returns false'. Refute it at one input. -/
def channelOwesWrong : ChangeSpec := { name := "channelOwes", fn := fun _ => fun
  | [d1, d2, d3] => { results := [.lit (.bool false)], args := [d1, d2, d3] }
  | _ => none }
def ChannelOwesWrongFalsely : Prop := channelOwesRow.holds Try.pinned (OpenSpec.ofChange channelOwesWrong)

/-- 'milepostlaw24.TimerTries': WHATEVER THE INPUT: true; the input reads as it did. -/
def timerTriesSpec : ChangeSpec := { name := "timerTries", fn := fun _ => fun
  | [d1, d2, d3, d4] => { results := [.lit (.bool true)], args := [d1, d2, d3, d4] }
  | _ => none }
def timerTriesRow : OpenClaim := { program := "ytpefdmidfllhoaa", sum := "d958bfb94ee8c9a31fc2de31d73c191c6f5dde43939575c2dd0ed937807c6c07", func := "milepost/milepostlaw24.TimerTries", spec := "timerTries", unfollowed := true, recurses := true, apart := false }
def TimerTriesSaid : Prop := timerTriesRow.holds Try.pinned (OpenSpec.ofChange timerTriesSpec)

/-- ITS FALSE NEIGHBOUR: 'it returns false'. Refute it at one input. -/
def timerTriesWrong : ChangeSpec := { name := "timerTries", fn := fun _ => fun
  | [d1, d2, d3, d4] => { results := [.lit (.bool false)], args := [d1, d2, d3, d4] }
  | _ => none }
def TimerTriesWrongFalsely : Prop := timerTriesRow.holds Try.pinned (OpenSpec.ofChange timerTriesWrong)

/-- 'milepostlaw24.TimerAnew': WHATEVER THE INPUT: true; the input reads as it did. -/
def timerAnewSpec : ChangeSpec := { name := "timerAnew", fn := fun _ => fun
  | [d1, d2, d3] => { results := [.lit (.bool true)], args := [d1, d2, d3] }
  | _ => none }
def timerAnewRow : OpenClaim := { program := "ytpefdmidfllhoaa", sum := "d958bfb94ee8c9a31fc2de31d73c191c6f5dde43939575c2dd0ed937807c6c07", func := "milepost/milepostlaw24.TimerAnew", spec := "timerAnew", unfollowed := true, recurses := true, apart := false }
def TimerAnewSaid : Prop := timerAnewRow.holds Try.pinned (OpenSpec.ofChange timerAnewSpec)

/-- ITS FALSE NEIGHBOUR: 'it returns false'. Refute it at one input. -/
def timerAnewWrong : ChangeSpec := { name := "timerAnew", fn := fun _ => fun
  | [d1, d2, d3] => { results := [.lit (.bool false)], args := [d1, d2, d3] }
  | _ => none }
def TimerAnewWrongFalsely : Prop := timerAnewRow.holds Try.pinned (OpenSpec.ofChange timerAnewWrong)

/-- 'milepostlaw26.TakerActs': WHATEVER THE INPUT: true; the input reads as it did. -/
def takerActsSpec : ChangeSpec := { name := "takerActs", fn := fun _ => fun
  | [d1, d2, d3] => { results := [.lit (.bool true)], args := [d1, d2, d3] }
  | _ => none }
def takerActsRow : OpenClaim := { program := "ytpefdmidfllhoaa", sum := "d958bfb94ee8c9a31fc2de31d73c191c6f5dde43939575c2dd0ed937807c6c07", func := "milepost/milepostlaw26.TakerActs", spec := "takerActs", unfollowed := true, recurses := true, apart := false }
def TakerActsSaid : Prop := takerActsRow.holds Try.pinned (OpenSpec.ofChange takerActsSpec)

/-- ITS FALSE NEIGHBOUR: 'it returns false'. Refute it at one input. -/
def takerActsWrong : ChangeSpec := { name := "takerActs", fn := fun _ => fun
  | [d1, d2, d3] => { results := [.lit (.bool false)], args := [d1, d2, d3] }
  | _ => none }
def TakerActsWrongFalsely : Prop := takerActsRow.holds Try.pinned (OpenSpec.ofChange takerActsWrong)

/-- 'milepostlaw26.TakerOnce': WHATEVER THE INPUT: true; the input reads as it did. -/
def takerOnceSpec : ChangeSpec := { name := "takerOnce", fn := fun _ => fun
  | [d1, d2, d3] => { results := [.lit (.bool true)], args := [d1, d2, d3] }
  | _ => none }
def takerOnceRow : OpenClaim := { program := "ytpefdmidfllhoaa", sum := "d958bfb94ee8c9a31fc2de31d73c191c6f5dde43939575c2dd0ed937807c6c07", func := "milepost/milepostlaw26.TakerOnce", spec := "takerOnce", unfollowed := true, recurses := true, apart := false }
def TakerOnceSaid : Prop := takerOnceRow.holds Try.pinned (OpenSpec.ofChange takerOnceSpec)

/-- ITS FALSE NEIGHBOUR: 'it returns false'. Refute it at one input. -/
def takerOnceWrong : ChangeSpec := { name := "takerOnce", fn := fun _ => fun
  | [d1, d2, d3] => { results := [.lit (.bool false)], args := [d1, d2, d3] }
  | _ => none }
def TakerOnceWrongFalsely : Prop := takerOnceRow.holds Try.pinned (OpenSpec.ofChange takerOnceWrong)

/-- 'milepostlaw26.TakerWindow': WHATEVER THE INPUT: true; the input reads as it did. -/
def takerWindowSpec : ChangeSpec := { name := "takerWindow", fn := fun _ => fun
  | [d1, d2] => { results := [.lit (.bool true)], args := [d1, d2] }
  | _ => none }
def takerWindowRow : OpenClaim := { program := "ytpefdmidfllhoaa", sum := "d958bfb94ee8c9a31fc2de31d73c191c6f5dde43939575c2dd0ed937807c6c07", func := "milepost/milepostlaw26.TakerWindow", spec := "takerWindow", unfollowed := true, recurses := true, apart := false }
def TakerWindowSaid : Prop := takerWindowRow.holds Try.pinned (OpenSpec.ofChange takerWindowSpec)

/-- ITS FALSE NEIGHBOUR: 'it returns false'. Refute it at one input. -/
def takerWindowWrong : ChangeSpec := { name := "takerWindow", fn := fun _ => fun
  | [d1, d2] => { results := [.lit (.bool false)], args := [d1, d2] }
  | _ => none }
def TakerWindowWrongFalsely : Prop := takerWindowRow.holds Try.pinned (OpenSpec.ofChange takerWindowWrong)

/-- 'milepostlaw24.TimerActs': WHATEVER THE INPUT: true; the input reads as it did. -/
def timerActsSpec : ChangeSpec := { name := "timerActs", fn := fun _ => fun
  | [d1, d2, d3, d4, d5] => { results := [.lit (.bool true)], args := [d1, d2, d3, d4, d5] }
  | _ => none }
def timerActsRow : OpenClaim := { program := "ytpefdmidfllhoaa", sum := "d958bfb94ee8c9a31fc2de31d73c191c6f5dde43939575c2dd0ed937807c6c07", func := "milepost/milepostlaw24.TimerActs", spec := "timerActs", unfollowed := true, recurses := true, apart := false }
def TimerActsSaid : Prop := timerActsRow.holds Try.pinned (OpenSpec.ofChange timerActsSpec)

/-- ITS FALSE NEIGHBOUR: 'it returns false'. Refute it at one input. -/
def timerActsWrong : ChangeSpec := { name := "timerActs", fn := fun _ => fun
  | [d1, d2, d3, d4, d5] => { results := [.lit (.bool false)], args := [d1, d2, d3, d4, d5] }
  | _ => none }
def TimerActsWrongFalsely : Prop := timerActsRow.holds Try.pinned (OpenSpec.ofChange timerActsWrong)

/-- 'milepostlaw24.TimerApart': WHATEVER THE INPUT: true; the input reads as it did. -/
def timerApartSpec : ChangeSpec := { name := "timerApart", fn := fun _ => fun
  | [d1, d2, d3] => { results := [.lit (.bool true)], args := [d1, d2, d3] }
  | _ => none }
def timerApartRow : OpenClaim := { program := "ytpefdmidfllhoaa", sum := "d958bfb94ee8c9a31fc2de31d73c191c6f5dde43939575c2dd0ed937807c6c07", func := "milepost/milepostlaw24.TimerApart", spec := "timerApart", unfollowed := true, recurses := true, apart := false }
def TimerApartSaid : Prop := timerApartRow.holds Try.pinned (OpenSpec.ofChange timerApartSpec)

/-- ITS FALSE NEIGHBOUR: 'it returns false'. Refute it at one input. -/
def timerApartWrong : ChangeSpec := { name := "timerApart", fn := fun _ => fun
  | [d1, d2, d3] => { results := [.lit (.bool false)], args := [d1, d2, d3] }
  | _ => none }
def TimerApartWrongFalsely : Prop := timerApartRow.holds Try.pinned (OpenSpec.ofChange timerApartWrong)

/-- 'milepostlaw10.ShutsActs': WHATEVER THE INPUT: true; the input reads as it did. -/
def shutsActsSpec : ChangeSpec := { name := "shutsActs", fn := fun _ => fun
  | [d1, d2] => { results := [.lit (.bool true)], args := [d1, d2] }
  | _ => none }
def shutsActsRow : OpenClaim := { program := "ytpefdmidfllhoaa", sum := "d958bfb94ee8c9a31fc2de31d73c191c6f5dde43939575c2dd0ed937807c6c07", func := "milepost/milepostlaw10.ShutsActs", spec := "shutsActs", unfollowed := true, recurses := true, apart := false }
def ShutsActsSaid : Prop := shutsActsRow.holds Try.pinned (OpenSpec.ofChange shutsActsSpec)

/-- ITS FALSE NEIGHBOUR: 'it returns false'. Refute it at one input. -/
def shutsActsWrong : ChangeSpec := { name := "shutsActs", fn := fun _ => fun
  | [d1, d2] => { results := [.lit (.bool false)], args := [d1, d2] }
  | _ => none }
def ShutsActsWrongFalsely : Prop := shutsActsRow.holds Try.pinned (OpenSpec.ofChange shutsActsWrong)

/-- 'milepostlaw10.ShutsLast': WHATEVER THE INPUT: true; the input reads as it did. -/
def shutsLastSpec : ChangeSpec := { name := "shutsLast", fn := fun _ => fun
  | [d1, d2, d3] => { results := [.lit (.bool true)], args := [d1, d2, d3] }
  | _ => none }
def shutsLastRow : OpenClaim := { program := "ytpefdmidfllhoaa", sum := "d958bfb94ee8c9a31fc2de31d73c191c6f5dde43939575c2dd0ed937807c6c07", func := "milepost/milepostlaw10.ShutsLast", spec := "shutsLast", unfollowed := true, recurses := true, apart := false }
def ShutsLastSaid : Prop := shutsLastRow.holds Try.pinned (OpenSpec.ofChange shutsLastSpec)

/-- ITS FALSE NEIGHBOUR: 'it returns false'. Refute it at one input. -/
def shutsLastWrong : ChangeSpec := { name := "shutsLast", fn := fun _ => fun
  | [d1, d2, d3] => { results := [.lit (.bool false)], args := [d1, d2, d3] }
  | _ => none }
def ShutsLastWrongFalsely : Prop := shutsLastRow.holds Try.pinned (OpenSpec.ofChange shutsLastWrong)

/-- 'milepostlaw10.ShutsAlone': WHATEVER THE INPUT: true; the input reads as it did. -/
def shutsAloneSpec : ChangeSpec := { name := "shutsAlone", fn := fun _ => fun
  | [d1, d2] => { results := [.lit (.bool true)], args := [d1, d2] }
  | _ => none }
def shutsAloneRow : OpenClaim := { program := "ytpefdmidfllhoaa", sum := "d958bfb94ee8c9a31fc2de31d73c191c6f5dde43939575c2dd0ed937807c6c07", func := "milepost/milepostlaw10.ShutsAlone", spec := "shutsAlone", unfollowed := true, recurses := true, apart := false }
def ShutsAloneSaid : Prop := shutsAloneRow.holds Try.pinned (OpenSpec.ofChange shutsAloneSpec)

/-- ITS FALSE NEIGHBOUR: 'it returns false'. Refute it at one input. -/
def shutsAloneWrong : ChangeSpec := { name := "shutsAlone", fn := fun _ => fun
  | [d1, d2] => { results := [.lit (.bool false)], args := [d1, d2] }
  | _ => none }
def ShutsAloneWrongFalsely : Prop := shutsAloneRow.holds Try.pinned (OpenSpec.ofChange shutsAloneWrong)

/-- 'milepostlaw10.ShutsAll': WHATEVER THE INPUT: true; the input reads as it did. -/
def shutsAllSpec : ChangeSpec := { name := "shutsAll", fn := fun _ => fun
  | [d1, d2, d3, d4] => { results := [.lit (.bool true)], args := [d1, d2, d3, d4] }
  | _ => none }
def shutsAllRow : OpenClaim := { program := "ytpefdmidfllhoaa", sum := "d958bfb94ee8c9a31fc2de31d73c191c6f5dde43939575c2dd0ed937807c6c07", func := "milepost/milepostlaw10.ShutsAll", spec := "shutsAll", unfollowed := true, recurses := true, apart := false }
def ShutsAllSaid : Prop := shutsAllRow.holds Try.pinned (OpenSpec.ofChange shutsAllSpec)

/-- ITS FALSE NEIGHBOUR: 'it returns false'. Refute it at one input. -/
def shutsAllWrong : ChangeSpec := { name := "shutsAll", fn := fun _ => fun
  | [d1, d2, d3, d4] => { results := [.lit (.bool false)], args := [d1, d2, d3, d4] }
  | _ => none }
def ShutsAllWrongFalsely : Prop := shutsAllRow.holds Try.pinned (OpenSpec.ofChange shutsAllWrong)

/- THE SECOND FORM. 'bulk': how many values and letters a reading holds, each counted each time it is reached (what is shared counts as often as it is met; a slice's spare places count too). A statement '..UptoSaid' is the law's where the arguments, and the package variables that the reading takes, are together of bulk at most 1048576: NARROWER than '..Said'. Prove '..Said' where nothing that the law and all that it calls make is longer than what came in: it says more and counts as full. Else prove '..UptoSaid'. A law counts once. -/
mutual
def uptoBulk {H : Type} : DataW H → Nat
  | .lit (.string bytes) => bytes.length + 1
  | .lit _ => 1
  | .nil => 1
  | .ptr d => uptoBulk d + 1
  | .slice elems spare => uptoBulkAll elems + uptoBulkAll spare + 1
  | .agg parts => uptoBulkAll parts + 1
  | .iface _ d => uptoBulk d + 1
  | .map entries => uptoBulkEntries entries + 1
  | .held _ => 1
def uptoBulkAll {H : Type} : List (DataW H) → Nat
  | [] => 0
  | d :: r => uptoBulk d + uptoBulkAll r
def uptoBulkEntries {H : Type} : List (Lit × DataW H) → Nat
  | [] => 0
  | x :: r => uptoBulkEntry x + uptoBulkEntries r
def uptoBulkEntry {H : Type} : Lit × DataW H → Nat
  | (.string bytes, d) => bytes.length + uptoBulk d + 1
  | (_, d) => uptoBulk d + 1
 end
def uptoSmall : (H : Type) → List (DataW H) → Bool := fun _ ds => decide (uptoBulkAll ds ≤ 1048576)
def OpenSpec.upto (s : _root_.Go.ChangeSpec) : _root_.Go.OpenSpec := { _root_.Go.OpenSpec.ofChange s with cond := some uptoSmall }

/-- 'milepostlaw27.ChannelOwes', WHERE WHAT IT READS IS OF BULK AT MOST 1048576: true; the input reads as it did. -/
def channelOwesUptoRow : OpenClaim := { program := "ytpefdmidfllhoaa", sum := "d958bfb94ee8c9a31fc2de31d73c191c6f5dde43939575c2dd0ed937807c6c07", func := "milepost/milepostlaw27.ChannelOwes", spec := "channelOwes", apart := false, narrowed := true }
def ChannelOwesUptoSaid : Prop := channelOwesUptoRow.holds Try.pinned (OpenSpec.upto channelOwesSpec)

/-- 'milepostlaw24.TimerTries', WHERE WHAT IT READS IS OF BULK AT MOST 1048576: true; the input reads as it did. -/
def timerTriesUptoRow : OpenClaim := { program := "ytpefdmidfllhoaa", sum := "d958bfb94ee8c9a31fc2de31d73c191c6f5dde43939575c2dd0ed937807c6c07", func := "milepost/milepostlaw24.TimerTries", spec := "timerTries", unfollowed := true, recurses := true, apart := false, narrowed := true }
def TimerTriesUptoSaid : Prop := timerTriesUptoRow.holds Try.pinned (OpenSpec.upto timerTriesSpec)

/-- 'milepostlaw24.TimerAnew', WHERE WHAT IT READS IS OF BULK AT MOST 1048576: true; the input reads as it did. -/
def timerAnewUptoRow : OpenClaim := { program := "ytpefdmidfllhoaa", sum := "d958bfb94ee8c9a31fc2de31d73c191c6f5dde43939575c2dd0ed937807c6c07", func := "milepost/milepostlaw24.TimerAnew", spec := "timerAnew", unfollowed := true, recurses := true, apart := false, narrowed := true }
def TimerAnewUptoSaid : Prop := timerAnewUptoRow.holds Try.pinned (OpenSpec.upto timerAnewSpec)

/-- 'milepostlaw26.TakerActs', WHERE WHAT IT READS IS OF BULK AT MOST 1048576: true; the input reads as it did. -/
def takerActsUptoRow : OpenClaim := { program := "ytpefdmidfllhoaa", sum := "d958bfb94ee8c9a31fc2de31d73c191c6f5dde43939575c2dd0ed937807c6c07", func := "milepost/milepostlaw26.TakerActs", spec := "takerActs", unfollowed := true, recurses := true, apart := false, narrowed := true }
def TakerActsUptoSaid : Prop := takerActsUptoRow.holds Try.pinned (OpenSpec.upto takerActsSpec)

/-- 'milepostlaw26.TakerOnce', WHERE WHAT IT READS IS OF BULK AT MOST 1048576: true; the input reads as it did. -/
def takerOnceUptoRow : OpenClaim := { program := "ytpefdmidfllhoaa", sum := "d958bfb94ee8c9a31fc2de31d73c191c6f5dde43939575c2dd0ed937807c6c07", func := "milepost/milepostlaw26.TakerOnce", spec := "takerOnce", unfollowed := true, recurses := true, apart := false, narrowed := true }
def TakerOnceUptoSaid : Prop := takerOnceUptoRow.holds Try.pinned (OpenSpec.upto takerOnceSpec)

/-- 'milepostlaw26.TakerWindow', WHERE WHAT IT READS IS OF BULK AT MOST 1048576: true; the input reads as it did. -/
def takerWindowUptoRow : OpenClaim := { program := "ytpefdmidfllhoaa", sum := "d958bfb94ee8c9a31fc2de31d73c191c6f5dde43939575c2dd0ed937807c6c07", func := "milepost/milepostlaw26.TakerWindow", spec := "takerWindow", unfollowed := true, recurses := true, apart := false, narrowed := true }
def TakerWindowUptoSaid : Prop := takerWindowUptoRow.holds Try.pinned (OpenSpec.upto takerWindowSpec)

/-- 'milepostlaw24.TimerActs', WHERE WHAT IT READS IS OF BULK AT MOST 1048576: true; the input reads as it did. -/
def timerActsUptoRow : OpenClaim := { program := "ytpefdmidfllhoaa", sum := "d958bfb94ee8c9a31fc2de31d73c191c6f5dde43939575c2dd0ed937807c6c07", func := "milepost/milepostlaw24.TimerActs", spec := "timerActs", unfollowed := true, recurses := true, apart := false, narrowed := true }
def TimerActsUptoSaid : Prop := timerActsUptoRow.holds Try.pinned (OpenSpec.upto timerActsSpec)

/-- 'milepostlaw24.TimerApart', WHERE WHAT IT READS IS OF BULK AT MOST 1048576: true; the input reads as it did. -/
def timerApartUptoRow : OpenClaim := { program := "ytpefdmidfllhoaa", sum := "d958bfb94ee8c9a31fc2de31d73c191c6f5dde43939575c2dd0ed937807c6c07", func := "milepost/milepostlaw24.TimerApart", spec := "timerApart", unfollowed := true, recurses := true, apart := false, narrowed := true }
def TimerApartUptoSaid : Prop := timerApartUptoRow.holds Try.pinned (OpenSpec.upto timerApartSpec)

/-- 'milepostlaw10.ShutsActs', WHERE WHAT IT READS IS OF BULK AT MOST 1048576: true; the input reads as it did. -/
def shutsActsUptoRow : OpenClaim := { program := "ytpefdmidfllhoaa", sum := "d958bfb94ee8c9a31fc2de31d73c191c6f5dde43939575c2dd0ed937807c6c07", func := "milepost/milepostlaw10.ShutsActs", spec := "shutsActs", unfollowed := true, recurses := true, apart := false, narrowed := true }
def ShutsActsUptoSaid : Prop := shutsActsUptoRow.holds Try.pinned (OpenSpec.upto shutsActsSpec)

/-- 'milepostlaw10.ShutsLast', WHERE WHAT IT READS IS OF BULK AT MOST 1048576: true; the input reads as it did. -/
def shutsLastUptoRow : OpenClaim := { program := "ytpefdmidfllhoaa", sum := "d958bfb94ee8c9a31fc2de31d73c191c6f5dde43939575c2dd0ed937807c6c07", func := "milepost/milepostlaw10.ShutsLast", spec := "shutsLast", unfollowed := true, recurses := true, apart := false, narrowed := true }
def ShutsLastUptoSaid : Prop := shutsLastUptoRow.holds Try.pinned (OpenSpec.upto shutsLastSpec)

/-- 'milepostlaw10.ShutsAlone', WHERE WHAT IT READS IS OF BULK AT MOST 1048576: true; the input reads as it did. -/
def shutsAloneUptoRow : OpenClaim := { program := "ytpefdmidfllhoaa", sum := "d958bfb94ee8c9a31fc2de31d73c191c6f5dde43939575c2dd0ed937807c6c07", func := "milepost/milepostlaw10.ShutsAlone", spec := "shutsAlone", unfollowed := true, recurses := true, apart := false, narrowed := true }
def ShutsAloneUptoSaid : Prop := shutsAloneUptoRow.holds Try.pinned (OpenSpec.upto shutsAloneSpec)

/-- 'milepostlaw10.ShutsAll', WHERE WHAT IT READS IS OF BULK AT MOST 1048576: true; the input reads as it did. -/
def shutsAllUptoRow : OpenClaim := { program := "ytpefdmidfllhoaa", sum := "d958bfb94ee8c9a31fc2de31d73c191c6f5dde43939575c2dd0ed937807c6c07", func := "milepost/milepostlaw10.ShutsAll", spec := "shutsAll", unfollowed := true, recurses := true, apart := false, narrowed := true }
def ShutsAllUptoSaid : Prop := shutsAllUptoRow.holds Try.pinned (OpenSpec.upto shutsAllSpec)

end Rows
end Go.Proofs.Ytpefdmidfllhoaa
