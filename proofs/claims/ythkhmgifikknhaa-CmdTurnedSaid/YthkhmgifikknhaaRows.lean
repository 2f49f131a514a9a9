/-
  No cell of these rows narrows 'for every input' (looked for: loops, veiled, ifaces, maps, wideKeys, modest, calm, conditions, laid).
  DERIVED. THE GIVEN ROWS OF THIS SEAT. 7 by the template 'for every input the law returns true; each argument reads behind the call as it read before'; 0 by the template 'total and deterministic' (their statements: YthkhmgifikknhaaTotals.lean).
  GIVEN WITH THE SEED: the statements are not yours to turn. If you find one false, say at which input.
  Laid BY PROGRAM, IN A SANDBOX (cutbox-rows.mjs): the forced cells as the released guide's own fill.sh prints them over the translation 67039fac331b956c… (all of the seat's roots in one cut). By AI agents, Wed Nov 11 2026. No macro, syntax, notation, axiom, sorry.
-/
import Derived.Test.YthkhmgifikknhaaChecked
import GoSem.Claim
import GoSem.ClaimJoined
import GoSem.ClaimMapViews
import Derived.JoinedTies
import Derived.KernelRfl
namespace Go.Proofs.Ythkhmgifikknhaa
/- THE CELL 'sum', in the pinned program and in every row, IS THE sha256 OF THE DUMP (.gsa) THAT YthkhmgifikknhaaProg.lean LOADS. Nothing in Lean hashes anything: it is a label: what it is worth is what the hold of that sum in a sandbox is worth. -/
noncomputable def Try.pinned : Pinned := { name := "ythkhmgifikknhaa", sum := "67039fac331b956cf0db9b4589db86cd1f01ab1a57c1616d3c5010c3d241bf70", checked := Try.checked }
namespace Rows
def none {H : Type} : Left H := { results := [], args := [] }

/-- 'provostlaw09.CmdEncodes': WHATEVER THE INPUT: true; the input reads as it did. -/
def cmdEncodesSpec : ChangeSpec := { name := "cmdEncodes", fn := fun _ => fun
  | [d] => { results := [.lit (.bool true)], args := [d] }
  | _ => none }
def cmdEncodesRow : OpenClaim := { program := "ythkhmgifikknhaa", sum := "67039fac331b956cf0db9b4589db86cd1f01ab1a57c1616d3c5010c3d241bf70", func := "provost/provostlaw09.CmdEncodes", spec := "cmdEncodes", unfollowed := true, recurses := true, apart := false }
def CmdEncodesSaid : Prop := cmdEncodesRow.holds Try.pinned (OpenSpec.ofChange cmdEncodesSpec)

/-- ITS FALSE NEIGHBOUR: 'it returns false'. Refute it at one input. -/
def cmdEncodesWrong : ChangeSpec := { name := "cmdEncodes", fn := fun _ => fun
  | [d] => { results := [.lit (.bool false)], args := [d] }
  | _ => none }
def CmdEncodesWrongFalsely : Prop := cmdEncodesRow.holds Try.pinned (OpenSpec.ofChange cmdEncodesWrong)

/-- 'provostlaw09.CmdDecodes': WHATEVER THE INPUT: true; the input reads as it did. -/
def cmdDecodesSpec : ChangeSpec := { name := "cmdDecodes", fn := fun _ => fun
  | [d] => { results := [.lit (.bool true)], args := [d] }
  | _ => none }
def cmdDecodesRow : OpenClaim := { program := "ythkhmgifikknhaa", sum := "67039fac331b956cf0db9b4589db86cd1f01ab1a57c1616d3c5010c3d241bf70", func := "provost/provostlaw09.CmdDecodes", spec := "cmdDecodes", unfollowed := true, recurses := true, apart := false }
def CmdDecodesSaid : Prop := cmdDecodesRow.holds Try.pinned (OpenSpec.ofChange cmdDecodesSpec)

/-- ITS FALSE NEIGHBOUR: 'it returns false'. Refute it at one input. -/
def cmdDecodesWrong : ChangeSpec := { name := "cmdDecodes", fn := fun _ => fun
  | [d] => { results := [.lit (.bool false)], args := [d] }
  | _ => none }
def CmdDecodesWrongFalsely : Prop := cmdDecodesRow.holds Try.pinned (OpenSpec.ofChange cmdDecodesWrong)

/-- 'provostlaw09.CmdPacks': WHATEVER THE INPUT: true; the input reads as it did. -/
def cmdPacksSpec : ChangeSpec := { name := "cmdPacks", fn := fun _ => fun
  | [d] => { results := [.lit (.bool true)], args := [d] }
  | _ => none }
def cmdPacksRow : OpenClaim := { program := "ythkhmgifikknhaa", sum := "67039fac331b956cf0db9b4589db86cd1f01ab1a57c1616d3c5010c3d241bf70", func := "provost/provostlaw09.CmdPacks", spec := "cmdPacks", unfollowed := true, recurses := true, apart := false }
def CmdPacksSaid : Prop := cmdPacksRow.holds Try.pinned (OpenSpec.ofChange cmdPacksSpec)

/-- ITS FALSE NEIGHBOUR: 'it returns false'. Refute it at one input. -/
def cmdPacksWrong : ChangeSpec := { name := "cmdPacks", fn := fun _ => fun
  | [d] => { results := [.lit (.bool false)], args := [d] }
  | _ => none }
def CmdPacksWrongFalsely : Prop := cmdPacksRow.holds Try.pinned (OpenSpec.ofChange cmdPacksWrong)

/-- 'provostlaw09.CmdBack': WHATEVER THE INPUT: true; the input reads as it did. -/
def cmdBackSpec : ChangeSpec := { name := "cmdBack", fn := fun _ => fun
  | [d1, d2, d3] => { results := [.lit (.bool true)], args := [d1, d2, d3] }
  | _ => none }
def cmdBackRow : OpenClaim := { program := "ythkhmgifikknhaa", sum := "67039fac331b956cf0db9b4589db86cd1f01ab1a57c1616d3c5010c3d241bf70", func := "provost/provostlaw09.CmdBack", spec := "cmdBack", unfollowed := true, recurses := true, apart := false }
def CmdBackSaid : Prop := cmdBackRow.holds Try.pinned (OpenSpec.ofChange cmdBackSpec)

/-- ITS FALSE NEIGHBOUR: 'it returns false'. Refute it at one input. -/
def cmdBackWrong : ChangeSpec := { name := "cmdBack", fn := fun _ => fun
  | [d1, d2, d3] => { results := [.lit (.bool false)], args := [d1, d2, d3] }
  | _ => none }
def CmdBackWrongFalsely : Prop := cmdBackRow.holds Try.pinned (OpenSpec.ofChange cmdBackWrong)

/-- 'provostlaw09.CmdApart': WHATEVER THE INPUT: true; the input reads as it did. -/
def cmdApartSpec : ChangeSpec := { name := "cmdApart", fn := fun _ => fun
  | [d1, d2, d3, d4] => { results := [.lit (.bool true)], args := [d1, d2, d3, d4] }
  | _ => none }
def cmdApartRow : OpenClaim := { program := "ythkhmgifikknhaa", sum := "67039fac331b956cf0db9b4589db86cd1f01ab1a57c1616d3c5010c3d241bf70", func := "provost/provostlaw09.CmdApart", spec := "cmdApart", unfollowed := true, recurses := true, apart := false }
def CmdApartSaid : Prop := cmdApartRow.holds Try.pinned (OpenSpec.ofChange cmdApartSpec)

/-- ITS FALSE NEIGHBOUR: 'it returns false'. Refute it at one input. -/
def cmdApartWrong : ChangeSpec := { name := "cmdApart", fn := fun _ => fun
  | [d1, d2, d3, d4] => { results := [.lit (.bool false)], args := [d1, d2, d3, d4] }
  | _ => none }
def CmdApartWrongFalsely : Prop := cmdApartRow.holds Try.pinned (OpenSpec.ofChange cmdApartWrong)

/-- 'provostlaw09.CmdTurned': WHATEVER THE INPUT: true; the input reads as it did. -/
def cmdTurnedSpec : ChangeSpec := { name := "cmdTurned", fn := fun _ => fun
  | [d1, d2, d3] => { results := [.lit (.bool true)], args := [d1, d2, d3] }
  | _ => none }
def cmdTurnedRow : OpenClaim := { program := "ythkhmgifikknhaa", sum := "67039fac331b956cf0db9b4589db86cd1f01ab1a57c1616d3c5010c3d241bf70", func := "provost/provostlaw09.CmdTurned", spec := "cmdTurned", unfollowed := true, recurses := true, apart := false }
def CmdTurnedSaid : Prop := cmdTurnedRow.holds Try.pinned (OpenSpec.ofChange cmdTurnedSpec)

/-- ITS FALSE NEIGHBOUR: 'it returns false'. Refute it at one input. -/
def cmdTurnedWrong : ChangeSpec := { name := "cmdTurned", fn := fun _ => fun
  | [d1, d2, d3] => { results := [.lit (.bool false)], args := [d1, d2, d3] }
  | _ => none }
def CmdTurnedWrongFalsely : Prop := cmdTurnedRow.holds Try.pinned (OpenSpec.ofChange cmdTurnedWrong)

/-- 'provostlaw09.CmdAsks': WHATEVER THE INPUT: true; the input reads as it did. -/
def cmdAsksSpec : ChangeSpec := { name := "cmdAsks", fn := fun _ => fun
  | [d] => { results := [.lit (.bool true)], args := [d] }
  | _ => none }
def cmdAsksRow : OpenClaim := { program := "ythkhmgifikknhaa", sum := "67039fac331b956cf0db9b4589db86cd1f01ab1a57c1616d3c5010c3d241bf70", func := "provost/provostlaw09.CmdAsks", spec := "cmdAsks", unfollowed := true, recurses := true, apart := false }
def CmdAsksSaid : Prop := cmdAsksRow.holds Try.pinned (OpenSpec.ofChange cmdAsksSpec)

/-- ITS FALSE NEIGHBOUR: 'it returns false'. Refute it at one input. -/
def cmdAsksWrong : ChangeSpec := { name := "cmdAsks", fn := fun _ => fun
  | [d] => { results := [.lit (.bool false)], args := [d] }
  | _ => none }
def CmdAsksWrongFalsely : Prop := cmdAsksRow.holds Try.pinned (OpenSpec.ofChange cmdAsksWrong)

/- THE SECOND FORM. 'bulk': how many values and letters a reading holds, each counted each time it is reached (what is shared counts as often as it is met; a slice's spare places count too). A statement '..UptoSaid' is the law's where the arguments, and the package variables that the reading takes, are together of bulk at most 1048576: NARROWER than '..Said'. Prove '..Said' where nothing that the law and all that it calls make is longer than what came in: it says more and counts as full. Else prove '..UptoSaid'. A law counts once. -/
mutual
def uptoBulk {H : Type} : DataW H → Nat
  | .lit (.string bytes) => bytes.length + 1
  | .lit _ => 1
  | .nil => 1
  | .ptr d => uptoBulk d + 1
  | .slice elems spare => uptoBulkAll elems + uptoBulkAll spare + 1
  | .agg parts => uptoBulkAll parts + 1
  | .iface _ d => uptoBulk d + 1
  | .map entries => uptoBulkEntries entries + 1
  | .held _ => 1
def uptoBulkAll {H : Type} : List (DataW H) → Nat
  | [] => 0
  | d :: r => uptoBulk d + uptoBulkAll r
def uptoBulkEntries {H : Type} : List (Lit × DataW H) → Nat
  | [] => 0
  | x :: r => uptoBulkEntry x + uptoBulkEntries r
def uptoBulkEntry {H : Type} : Lit × DataW H → Nat
  | (.string bytes, d) => bytes.length + uptoBulk d + 1
  | (_, d) => uptoBulk d + 1
 end
def uptoSmall : (H : Type) → List (DataW H) → Bool := fun _ ds => decide (uptoBulkAll ds ≤ 1048576)
def OpenSpec.upto (s : _root_.Go.ChangeSpec) : _root_.Go.OpenSpec := { _root_.Go.OpenSpec.ofChange s with cond := some uptoSmall }

/-- 'provostlaw09.CmdEncodes', WHERE WHAT IT READS IS OF BULK AT MOST 1048576: true; the input reads as it did. -/
def cmdEncodesUptoRow : OpenClaim := { program := "ythkhmgifikknhaa", sum := "67039fac331b956cf0db9b4589db86cd1f01ab1a57c1616d3c5010c3d241bf70", func := "provost/provostlaw09.CmdEncodes", spec := "cmdEncodes", unfollowed := true, recurses := true, apart := false, narrowed := true }
def CmdEncodesUptoSaid : Prop := cmdEncodesUptoRow.holds Try.pinned (OpenSpec.upto cmdEncodesSpec)

/-- 'provostlaw09.CmdDecodes', WHERE WHAT IT READS IS OF BULK AT MOST 1048576: true; the input reads as it did. -/
def cmdDecodesUptoRow : OpenClaim := { program := "ythkhmgifikknhaa", sum := "67039fac331b956cf0db9b4589db86cd1f01ab1a57c1616d3c5010c3d241bf70", func := "provost/provostlaw09.CmdDecodes", spec := "cmdDecodes", unfollowed := true, recurses := true, apart := false, narrowed := true }
def CmdDecodesUptoSaid : Prop := cmdDecodesUptoRow.holds Try.pinned (OpenSpec.upto cmdDecodesSpec)

/-- 'provostlaw09.CmdPacks', WHERE WHAT IT READS IS OF BULK AT MOST 1048576: true; the input reads as it did. -/
def cmdPacksUptoRow : OpenClaim := { program := "ythkhmgifikknhaa", sum := "67039fac331b956cf0db9b4589db86cd1f01ab1a57c1616d3c5010c3d241bf70", func := "provost/provostlaw09.CmdPacks", spec := "cmdPacks", unfollowed := true, recurses := true, apart := false, narrowed := true }
def CmdPacksUptoSaid : Prop := cmdPacksUptoRow.holds Try.pinned (OpenSpec.upto cmdPacksSpec)

/-- 'provostlaw09.CmdBack', WHERE WHAT IT READS IS OF BULK AT MOST 1048576: true; the input reads as it did. -/
def cmdBackUptoRow : OpenClaim := { program := "ythkhmgifikknhaa", sum := "67039fac331b956cf0db9b4589db86cd1f01ab1a57c1616d3c5010c3d241bf70", func := "provost/provostlaw09.CmdBack", spec := "cmdBack", unfollowed := true, recurses := true, apart := false, narrowed := true }
def CmdBackUptoSaid : Prop := cmdBackUptoRow.holds Try.pinned (OpenSpec.upto cmdBackSpec)

/-- 'provostlaw09.CmdApart', WHERE WHAT IT READS IS OF BULK AT MOST 1048576: true; the input reads as it did. -/
def cmdApartUptoRow : OpenClaim := { program := "ythkhmgifikknhaa", sum := "67039fac331b956cf0db9b4589db86cd1f01ab1a57c1616d3c5010c3d241bf70", func := "provost/provostlaw09.CmdApart", spec := "cmdApart", unfollowed := true, recurses := true, apart := false, narrowed := true }
def CmdApartUptoSaid : Prop := cmdApartUptoRow.holds Try.pinned (OpenSpec.upto cmdApartSpec)

/-- 'provostlaw09.CmdTurned', WHERE WHAT IT READS IS OF BULK AT MOST 1048576: true; the input reads as it did. -/
def cmdTurnedUptoRow : OpenClaim := { program := "ythkhmgifikknhaa", sum := "67039fac331b956cf0db9b4589db86cd1f01ab1a57c1616d3c5010c3d241bf70", func := "provost/provostlaw09.CmdTurned", spec := "cmdTurned", unfollowed := true, recurses := true, apart := false, narrowed := true }
def CmdTurnedUptoSaid : Prop := cmdTurnedUptoRow.holds Try.pinned (OpenSpec.upto cmdTurnedSpec)

/-- 'provostlaw09.CmdAsks', WHERE WHAT IT READS IS OF BULK AT MOST 1048576: true; the input reads as it did. -/
def cmdAsksUptoRow : OpenClaim := { program := "ythkhmgifikknhaa", sum := "67039fac331b956cf0db9b4589db86cd1f01ab1a57c1616d3c5010c3d241bf70", func := "provost/provostlaw09.CmdAsks", spec := "cmdAsks", unfollowed := true, recurses := true, apart := false, narrowed := true }
def CmdAsksUptoSaid : Prop := cmdAsksUptoRow.holds Try.pinned (OpenSpec.upto cmdAsksSpec)

end Rows
end Go.Proofs.Ythkhmgifikknhaa
