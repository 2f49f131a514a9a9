/-
  No cell of these rows narrows 'for every input' (looked for: loops, veiled, ifaces, maps, wideKeys, modest, calm, conditions, laid).
  DERIVED. THE GIVEN ROWS OF THIS SEAT. 5 by the template 'for every input the law returns true; each argument reads behind the call as it read before'; 0 by the template 'total and deterministic' (their statements: YtmobiphgmdigjaaTotals.lean).
  GIVEN WITH THE SEED: the statements are not yours to turn. If you find one false, say at which input.
  Laid BY PROGRAM, IN A SANDBOX (cutbox-rows.mjs): the forced cells as the released guide's own fill.sh prints them over the translation cbbb3fe3f5267b09… (all of the seat's roots in one cut). By AI agents, Wed Nov 11 2026. No macro, syntax, notation, axiom, sorry.
-/
import Derived.Test.YtmobiphgmdigjaaChecked
import GoSem.Claim
import GoSem.ClaimJoined
import GoSem.ClaimMapViews
import Derived.JoinedTies
import Derived.KernelRfl
namespace Go.Proofs.Ytmobiphgmdigjaa
/- THE CELL 'sum', in the pinned program and in every row, IS THE sha256 OF THE DUMP (.gsa) THAT YtmobiphgmdigjaaProg.lean LOADS. Nothing in Lean hashes anything: it is a label: what it is worth is what the hold of that sum in a sandbox is worth. -/
noncomputable def Try.pinned : Pinned := { name := "ytmobiphgmdigjaa", sum := "cbbb3fe3f5267b097aadff1e44bfb2784f09e5f79c4c9d2a4c64ca775e0196c5", checked := Try.checked }
namespace Rows
def none {H : Type} : Left H := { results := [], args := [] }

/-- 'provostlaw16.MailEncodes': WHATEVER THE INPUT: true; the input reads as it did. -/
def mailEncodesSpec : ChangeSpec := { name := "mailEncodes", fn := fun _ => fun
  | [d] => { results := [.lit (.bool true)], args := [d] }
  | _ => none }
def mailEncodesRow : OpenClaim := { program := "ytmobiphgmdigjaa", sum := "cbbb3fe3f5267b097aadff1e44bfb2784f09e5f79c4c9d2a4c64ca775e0196c5", func := "provost/provostlaw16.MailEncodes", spec := "mailEncodes", unfollowed := true, recurses := true, apart := false }
def MailEncodesSaid : Prop := mailEncodesRow.holds Try.pinned (OpenSpec.ofChange mailEncodesSpec)

/-- ITS FALSE NEIGHBOUR: 'it returns false'. Refute it at one input. -/
def mailEncodesWrong : ChangeSpec := { name := "mailEncodes", fn := fun _ => fun
  | [d] => { results := [.lit (.bool false)], args := [d] }
  | _ => none }
def MailEncodesWrongFalsely : Prop := mailEncodesRow.holds Try.pinned (OpenSpec.ofChange mailEncodesWrong)

/-- 'provostlaw16.MailDecodes': WHATEVER THE INPUT: true; the input reads as it did. -/
def mailDecodesSpec : ChangeSpec := { name := "mailDecodes", fn := fun _ => fun
  | [d] => { results := [.lit (.bool true)], args := [d] }
  | _ => none }
def mailDecodesRow : OpenClaim := { program := "ytmobiphgmdigjaa", sum := "cbbb3fe3f5267b097aadff1e44bfb2784f09e5f79c4c9d2a4c64ca775e0196c5", func := "provost/provostlaw16.MailDecodes", spec := "mailDecodes", unfollowed := true, recurses := true, apart := false }
def MailDecodesSaid : Prop := mailDecodesRow.holds Try.pinned (OpenSpec.ofChange mailDecodesSpec)

/-- ITS FALSE NEIGHBOUR: 'it returns false'. Refute it at one input. -/
def mailDecodesWrong : ChangeSpec := { name := "mailDecodes", fn := fun _ => fun
  | [d] => { results := [.lit (.bool false)], args := [d] }
  | _ => none }
def MailDecodesWrongFalsely : Prop := mailDecodesRow.holds Try.pinned (OpenSpec.ofChange mailDecodesWrong)

/-- 'provostlaw16.MailBack': WHATEVER THE INPUT: true; the input reads as it did. -/
def mailBackSpec : ChangeSpec := { name := "mailBack", fn := fun _ => fun
  | [d1, d2, d3] => { results := [.lit (.bool true)], args := [d1, d2, d3] }
  | _ => none }
def mailBackRow : OpenClaim := { program := "ytmobiphgmdigjaa", sum := "cbbb3fe3f5267b097aadff1e44bfb2784f09e5f79c4c9d2a4c64ca775e0196c5", func := "provost/provostlaw16.MailBack", spec := "mailBack", unfollowed := true, recurses := true, apart := false }
def MailBackSaid : Prop := mailBackRow.holds Try.pinned (OpenSpec.ofChange mailBackSpec)

/-- ITS FALSE NEIGHBOUR: 'it returns false'. Refute it at one input. -/
def mailBackWrong : ChangeSpec := { name := "mailBack", fn := fun _ => fun
  | [d1, d2, d3] => { results := [.lit (.bool false)], args := [d1, d2, d3] }
  | _ => none }
def MailBackWrongFalsely : Prop := mailBackRow.holds Try.pinned (OpenSpec.ofChange mailBackWrong)

/-- 'provostlaw16.MailCuts': WHATEVER THE INPUT: true; the input reads as it did. -/
def mailCutsSpec : ChangeSpec := { name := "mailCuts", fn := fun _ => fun
  | [d1, d2] => { results := [.lit (.bool true)], args := [d1, d2] }
  | _ => none }
def mailCutsRow : OpenClaim := { program := "ytmobiphgmdigjaa", sum := "cbbb3fe3f5267b097aadff1e44bfb2784f09e5f79c4c9d2a4c64ca775e0196c5", func := "provost/provostlaw16.MailCuts", spec := "mailCuts", unfollowed := true, recurses := true, apart := false }
def MailCutsSaid : Prop := mailCutsRow.holds Try.pinned (OpenSpec.ofChange mailCutsSpec)

/-- ITS FALSE NEIGHBOUR: 'it returns false'. Refute it at one input. -/
def mailCutsWrong : ChangeSpec := { name := "mailCuts", fn := fun _ => fun
  | [d1, d2] => { results := [.lit (.bool false)], args := [d1, d2] }
  | _ => none }
def MailCutsWrongFalsely : Prop := mailCutsRow.holds Try.pinned (OpenSpec.ofChange mailCutsWrong)

/-- 'provostlaw16.MailTurned': WHATEVER THE INPUT: true; the input reads as it did. -/
def mailTurnedSpec : ChangeSpec := { name := "mailTurned", fn := fun _ => fun
  | [d1, d2, d3] => { results := [.lit (.bool true)], args := [d1, d2, d3] }
  | _ => none }
def mailTurnedRow : OpenClaim := { program := "ytmobiphgmdigjaa", sum := "cbbb3fe3f5267b097aadff1e44bfb2784f09e5f79c4c9d2a4c64ca775e0196c5", func := "provost/provostlaw16.MailTurned", spec := "mailTurned", unfollowed := true, recurses := true, apart := false }
def MailTurnedSaid : Prop := mailTurnedRow.holds Try.pinned (OpenSpec.ofChange mailTurnedSpec)

/-- ITS FALSE NEIGHBOUR: 'it returns false'. Refute it at one input. -/
def mailTurnedWrong : ChangeSpec := { name := "mailTurned", fn := fun _ => fun
  | [d1, d2, d3] => { results := [.lit (.bool false)], args := [d1, d2, d3] }
  | _ => none }
def MailTurnedWrongFalsely : Prop := mailTurnedRow.holds Try.pinned (OpenSpec.ofChange mailTurnedWrong)

/- THE SECOND FORM. 'bulk': how many values and letters a reading holds, each counted each time it is reached (what is shared counts as often as it is met; a slice's spare places count too). A statement '..UptoSaid' is the law's where the arguments, and the package variables that the reading takes, are together of bulk at most 1048576: NARROWER than '..Said'. Prove '..Said' where nothing that the law and all that it calls make is longer than what came in: it says more and counts as full. Else prove '..UptoSaid'. A law counts once. -/
mutual
def uptoBulk {H : Type} : DataW H → Nat
  | .lit (.string bytes) => bytes.length + 1
  | .lit _ => 1
  | .nil => 1
  | .ptr d => uptoBulk d + 1
  | .slice elems spare => uptoBulkAll elems + uptoBulkAll spare + 1
  | .agg parts => uptoBulkAll parts + 1
  | .iface _ d => uptoBulk d + 1
  | .map entries => uptoBulkEntries entries + 1
  | .held _ => 1
def uptoBulkAll {H : Type} : List (DataW H) → Nat
  | [] => 0
  | d :: r => uptoBulk d + uptoBulkAll r
def uptoBulkEntries {H : Type} : List (Lit × DataW H) → Nat
  | [] => 0
  | x :: r => uptoBulkEntry x + uptoBulkEntries r
def uptoBulkEntry {H : Type} : Lit × DataW H → Nat
  | (.string bytes, d) => bytes.length + uptoBulk d + 1
  | (_, d) => uptoBulk d + 1
 end
def uptoSmall : (H : Type) → List (DataW H) → Bool := fun _ ds => decide (uptoBulkAll ds ≤ 1048576)
def OpenSpec.upto (s : _root_.Go.ChangeSpec) : _root_.Go.OpenSpec := { _root_.Go.OpenSpec.ofChange s with cond := some uptoSmall }

/-- 'provostlaw16.MailEncodes', WHERE WHAT IT READS IS OF BULK AT MOST 1048576: true; the input reads as it did. -/
def mailEncodesUptoRow : OpenClaim := { program := "ytmobiphgmdigjaa", sum := "cbbb3fe3f5267b097aadff1e44bfb2784f09e5f79c4c9d2a4c64ca775e0196c5", func := "provost/provostlaw16.MailEncodes", spec := "mailEncodes", unfollowed := true, recurses := true, apart := false, narrowed := true }
def MailEncodesUptoSaid : Prop := mailEncodesUptoRow.holds Try.pinned (OpenSpec.upto mailEncodesSpec)

/-- 'provostlaw16.MailDecodes', WHERE WHAT IT READS IS OF BULK AT MOST 1048576: true; the input reads as it did. -/
def mailDecodesUptoRow : OpenClaim := { program := "ytmobiphgmdigjaa", sum := "cbbb3fe3f5267b097aadff1e44bfb2784f09e5f79c4c9d2a4c64ca775e0196c5", func := "provost/provostlaw16.MailDecodes", spec := "mailDecodes", unfollowed := true, recurses := true, apart := false, narrowed := true }
def MailDecodesUptoSaid : Prop := mailDecodesUptoRow.holds Try.pinned (OpenSpec.upto mailDecodesSpec)

/-- 'provostlaw16.MailBack', WHERE WHAT IT READS IS OF BULK AT MOST 1048576: true; the input reads as it did. -/
def mailBackUptoRow : OpenClaim := { program := "ytmobiphgmdigjaa", sum := "cbbb3fe3f5267b097aadff1e44bfb2784f09e5f79c4c9d2a4c64ca775e0196c5", func := "provost/provostlaw16.MailBack", spec := "mailBack", unfollowed := true, recurses := true, apart := false, narrowed := true }
def MailBackUptoSaid : Prop := mailBackUptoRow.holds Try.pinned (OpenSpec.upto mailBackSpec)

/-- 'provostlaw16.MailCuts', WHERE WHAT IT READS IS OF BULK AT MOST 1048576: true; the input reads as it did. -/
def mailCutsUptoRow : OpenClaim := { program := "ytmobiphgmdigjaa", sum := "cbbb3fe3f5267b097aadff1e44bfb2784f09e5f79c4c9d2a4c64ca775e0196c5", func := "provost/provostlaw16.MailCuts", spec := "mailCuts", unfollowed := true, recurses := true, apart := false, narrowed := true }
def MailCutsUptoSaid : Prop := mailCutsUptoRow.holds Try.pinned (OpenSpec.upto mailCutsSpec)

/-- 'provostlaw16.MailTurned', WHERE WHAT IT READS IS OF BULK AT MOST 1048576: true; the input reads as it did. -/
def mailTurnedUptoRow : OpenClaim := { program := "ytmobiphgmdigjaa", sum := "cbbb3fe3f5267b097aadff1e44bfb2784f09e5f79c4c9d2a4c64ca775e0196c5", func := "provost/provostlaw16.MailTurned", spec := "mailTurned", unfollowed := true, recurses := true, apart := false, narrowed := true }
def MailTurnedUptoSaid : Prop := mailTurnedUptoRow.holds Try.pinned (OpenSpec.upto mailTurnedSpec)

end Rows
end Go.Proofs.Ytmobiphgmdigjaa
