/-
  No cell of these rows narrows 'for every input' (looked for: loops, veiled, ifaces, maps, wideKeys, modest, calm, conditions, laid).
  DERIVED. THE GIVEN ROWS OF THIS SEAT. 7 by the template 'for every input the law returns true; each argument reads behind the call as it read before'; 0 by the template 'total and deterministic' (their statements: YtjlbhhcjghlfiaaTotals.lean).
  GIVEN WITH THE SEED: the statements are not yours to turn. If you find one false, say at which input.
  Laid BY PROGRAM, IN A SANDBOX (cutbox-rows.mjs): the forced cells as the released guide's own fill.sh prints them over the translation d315ead88bcc2e74… (all of the seat's roots in one cut). By AI agents, Wed Nov 11 2026. No macro, syntax, notation, axiom, sorry.
-/
import Derived.Test.YtjlbhhcjghlfiaaChecked
import GoSem.Claim
import GoSem.ClaimJoined
import GoSem.ClaimMapViews
import Derived.JoinedTies
import Derived.KernelRfl
namespace Go.Proofs.Ytjlbhhcjghlfiaa
/- THE CELL 'sum', in the pinned program and in every row, IS THE sha256 OF THE DUMP (.gsa) THAT YtjlbhhcjghlfiaaProg.lean LOADS. Nothing in Lean hashes anything: it is a label: what it is worth is what the hold of that sum in a sandbox is worth. -/
noncomputable def Try.pinned : Pinned := { name := "ytjlbhhcjghlfiaa", sum := "d315ead88bcc2e740bca38be77ddb646611c64cca58e3abf60ea7f53e2f740d6", checked := Try.checked }
namespace Rows
def none {H : Type} : Left H := { results := [], args := [] }

/-- 'provostlaw03.VecDoes': WHATEVER THE INPUT: true; the input reads as it did. -/
def vecDoesSpec : ChangeSpec := { name := "vecDoes", fn := fun _ => fun
  | [d1, d2] => { results := [.lit (.bool true)], args := [d1, d2] }
  | _ => none }
def vecDoesRow : OpenClaim := { program := "ytjlbhhcjghlfiaa", sum := "d315ead88bcc2e740bca38be77ddb646611c64cca58e3abf60ea7f53e2f740d6", func := "provost/provostlaw03.VecDoes", spec := "vecDoes", apart := false }
def VecDoesSaid : Prop := vecDoesRow.holds Try.pinned (OpenSpec.ofChange vecDoesSpec)

/-- ITS FALSE NEIGHBOUR: 'it returns false'. Refute it at one input. -/
def vecDoesWrong : ChangeSpec := { name := "vecDoes", fn := fun _ => fun
  | [d1, d2] => { results := [.lit (.bool false)], args := [d1, d2] }
  | _ => none }
def VecDoesWrongFalsely : Prop := vecDoesRow.holds Try.pinned (OpenSpec.ofChange vecDoesWrong)

/-- 'provostlaw03.VecSums': WHATEVER THE INPUT: true; the input reads as it did. -/
def vecSumsSpec : ChangeSpec := { name := "vecSums", fn := fun _ => fun
  | [d] => { results := [.lit (.bool true)], args := [d] }
  | _ => none }
def vecSumsRow : OpenClaim := { program := "ytjlbhhcjghlfiaa", sum := "d315ead88bcc2e740bca38be77ddb646611c64cca58e3abf60ea7f53e2f740d6", func := "provost/provostlaw03.VecSums", spec := "vecSums", apart := false }
def VecSumsSaid : Prop := vecSumsRow.holds Try.pinned (OpenSpec.ofChange vecSumsSpec)

/-- ITS FALSE NEIGHBOUR: 'it returns false'. Refute it at one input. -/
def vecSumsWrong : ChangeSpec := { name := "vecSums", fn := fun _ => fun
  | [d] => { results := [.lit (.bool false)], args := [d] }
  | _ => none }
def VecSumsWrongFalsely : Prop := vecSumsRow.holds Try.pinned (OpenSpec.ofChange vecSumsWrong)

/-- 'provostlaw03.VecOrder': WHATEVER THE INPUT: true; the input reads as it did. -/
def vecOrderSpec : ChangeSpec := { name := "vecOrder", fn := fun _ => fun
  | [d1, d2] => { results := [.lit (.bool true)], args := [d1, d2] }
  | _ => none }
def vecOrderRow : OpenClaim := { program := "ytjlbhhcjghlfiaa", sum := "d315ead88bcc2e740bca38be77ddb646611c64cca58e3abf60ea7f53e2f740d6", func := "provost/provostlaw03.VecOrder", spec := "vecOrder", apart := false }
def VecOrderSaid : Prop := vecOrderRow.holds Try.pinned (OpenSpec.ofChange vecOrderSpec)

/-- ITS FALSE NEIGHBOUR: 'it returns false'. Refute it at one input. -/
def vecOrderWrong : ChangeSpec := { name := "vecOrder", fn := fun _ => fun
  | [d1, d2] => { results := [.lit (.bool false)], args := [d1, d2] }
  | _ => none }
def VecOrderWrongFalsely : Prop := vecOrderRow.holds Try.pinned (OpenSpec.ofChange vecOrderWrong)

/-- 'provostlaw03.VecBack': WHATEVER THE INPUT: true; the input reads as it did. -/
def vecBackSpec : ChangeSpec := { name := "vecBack", fn := fun _ => fun
  | [d1, d2] => { results := [.lit (.bool true)], args := [d1, d2] }
  | _ => none }
def vecBackRow : OpenClaim := { program := "ytjlbhhcjghlfiaa", sum := "d315ead88bcc2e740bca38be77ddb646611c64cca58e3abf60ea7f53e2f740d6", func := "provost/provostlaw03.VecBack", spec := "vecBack", apart := false }
def VecBackSaid : Prop := vecBackRow.holds Try.pinned (OpenSpec.ofChange vecBackSpec)

/-- ITS FALSE NEIGHBOUR: 'it returns false'. Refute it at one input. -/
def vecBackWrong : ChangeSpec := { name := "vecBack", fn := fun _ => fun
  | [d1, d2] => { results := [.lit (.bool false)], args := [d1, d2] }
  | _ => none }
def VecBackWrongFalsely : Prop := vecBackRow.holds Try.pinned (OpenSpec.ofChange vecBackWrong)

/-- 'provostlaw03.VecShare': WHATEVER THE INPUT: true; the input reads as it did. -/
def vecShareSpec : ChangeSpec := { name := "vecShare", fn := fun _ => fun
  | [d1, d2, d3] => { results := [.lit (.bool true)], args := [d1, d2, d3] }
  | _ => none }
def vecShareRow : OpenClaim := { program := "ytjlbhhcjghlfiaa", sum := "d315ead88bcc2e740bca38be77ddb646611c64cca58e3abf60ea7f53e2f740d6", func := "provost/provostlaw03.VecShare", spec := "vecShare", apart := false }
def VecShareSaid : Prop := vecShareRow.holds Try.pinned (OpenSpec.ofChange vecShareSpec)

/-- ITS FALSE NEIGHBOUR: 'it returns false'. Refute it at one input. -/
def vecShareWrong : ChangeSpec := { name := "vecShare", fn := fun _ => fun
  | [d1, d2, d3] => { results := [.lit (.bool false)], args := [d1, d2, d3] }
  | _ => none }
def VecShareWrongFalsely : Prop := vecShareRow.holds Try.pinned (OpenSpec.ofChange vecShareWrong)

/-- 'provostlaw03.VecFits': WHATEVER THE INPUT: true; the input reads as it did. -/
def vecFitsSpec : ChangeSpec := { name := "vecFits", fn := fun _ => fun
  | [d1, d2, d3] => { results := [.lit (.bool true)], args := [d1, d2, d3] }
  | _ => none }
def vecFitsRow : OpenClaim := { program := "ytjlbhhcjghlfiaa", sum := "d315ead88bcc2e740bca38be77ddb646611c64cca58e3abf60ea7f53e2f740d6", func := "provost/provostlaw03.VecFits", spec := "vecFits", apart := false }
def VecFitsSaid : Prop := vecFitsRow.holds Try.pinned (OpenSpec.ofChange vecFitsSpec)

/-- ITS FALSE NEIGHBOUR: 'it returns false'. Refute it at one input. -/
def vecFitsWrong : ChangeSpec := { name := "vecFits", fn := fun _ => fun
  | [d1, d2, d3] => { results := [.lit (.bool false)], args := [d1, d2, d3] }
  | _ => none }
def VecFitsWrongFalsely : Prop := vecFitsRow.holds Try.pinned (OpenSpec.ofChange vecFitsWrong)

/-- 'provostlaw03.VecNone': WHATEVER THE INPUT: true; the input reads as it did. -/
def vecNoneSpec : ChangeSpec := { name := "vecNone", fn := fun _ => fun
  | [d1, d2] => { results := [.lit (.bool true)], args := [d1, d2] }
  | _ => none }
def vecNoneRow : OpenClaim := { program := "ytjlbhhcjghlfiaa", sum := "d315ead88bcc2e740bca38be77ddb646611c64cca58e3abf60ea7f53e2f740d6", func := "provost/provostlaw03.VecNone", spec := "vecNone", apart := false }
def VecNoneSaid : Prop := vecNoneRow.holds Try.pinned (OpenSpec.ofChange vecNoneSpec)

/-- ITS FALSE NEIGHBOUR: 'it returns false'. Refute it at one input. -/
def vecNoneWrong : ChangeSpec := { name := "vecNone", fn := fun _ => fun
  | [d1, d2] => { results := [.lit (.bool false)], args := [d1, d2] }
  | _ => none }
def VecNoneWrongFalsely : Prop := vecNoneRow.holds Try.pinned (OpenSpec.ofChange vecNoneWrong)

/- THE SECOND FORM. 'bulk': how many values and letters a reading holds, each counted each time it is reached (what is shared counts as often as it is met; a slice's spare places count too). A statement '..UptoSaid' is the law's where the arguments, and the package variables that the reading takes, are together of bulk at most 1048576: NARROWER than '..Said'. Prove '..Said' where nothing that the law and all that it calls make is longer than what came in: it says more and counts as full. Else prove '..UptoSaid'. A law counts once. -/
mutual
def uptoBulk {H : Type} : DataW H → Nat
  | .lit (.string bytes) => bytes.length + 1
  | .lit _ => 1
  | .nil => 1
  | .ptr d => uptoBulk d + 1
  | .slice elems spare => uptoBulkAll elems + uptoBulkAll spare + 1
  | .agg parts => uptoBulkAll parts + 1
  | .iface _ d => uptoBulk d + 1
  | .map entries => uptoBulkEntries entries + 1
  | .held _ => 1
def uptoBulkAll {H : Type} : List (DataW H) → Nat
  | [] => 0
  | d :: r => uptoBulk d + uptoBulkAll r
def uptoBulkEntries {H : Type} : List (Lit × DataW H) → Nat
  | [] => 0
  | x :: r => uptoBulkEntry x + uptoBulkEntries r
def uptoBulkEntry {H : Type} : Lit × DataW H → Nat
  | (.string bytes, d) => bytes.length + uptoBulk d + 1
  | (_, d) => uptoBulk d + 1
 end
def uptoSmall : (H : Type) → List (DataW H) → Bool := fun _ ds => decide (uptoBulkAll ds ≤ 1048576)
def OpenSpec.upto (s : _root_.Go.ChangeSpec) : _root_.Go.OpenSpec := { _root_.Go.OpenSpec.ofChange s with cond := some uptoSmall }

/-- 'provostlaw03.VecDoes', WHERE WHAT IT READS IS OF BULK AT MOST 1048576: true; the input reads as it did. -/
def vecDoesUptoRow : OpenClaim := { program := "ytjlbhhcjghlfiaa", sum := "d315ead88bcc2e740bca38be77ddb646611c64cca58e3abf60ea7f53e2f740d6", func := "provost/provostlaw03.VecDoes", spec := "vecDoes", apart := false, narrowed := true }
def VecDoesUptoSaid : Prop := vecDoesUptoRow.holds Try.pinned (OpenSpec.upto vecDoesSpec)

/-- 'provostlaw03.VecSums', WHERE WHAT IT READS IS OF BULK AT MOST 1048576: true; the input reads as it did. -/
def vecSumsUptoRow : OpenClaim := { program := "ytjlbhhcjghlfiaa", sum := "d315ead88bcc2e740bca38be77ddb646611c64cca58e3abf60ea7f53e2f740d6", func := "provost/provostlaw03.VecSums", spec := "vecSums", apart := false, narrowed := true }
def VecSumsUptoSaid : Prop := vecSumsUptoRow.holds Try.pinned (OpenSpec.upto vecSumsSpec)

/-- 'provostlaw03.VecOrder', WHERE WHAT IT READS IS OF BULK AT MOST 1048576: true; the input reads as it did. -/
def vecOrderUptoRow : OpenClaim := { program := "ytjlbhhcjghlfiaa", sum := "d315ead88bcc2e740bca38be77ddb646611c64cca58e3abf60ea7f53e2f740d6", func := "provost/provostlaw03.VecOrder", spec := "vecOrder", apart := false, narrowed := true }
def VecOrderUptoSaid : Prop := vecOrderUptoRow.holds Try.pinned (OpenSpec.upto vecOrderSpec)

/-- 'provostlaw03.VecBack', WHERE WHAT IT READS IS OF BULK AT MOST 1048576: true; the input reads as it did. -/
def vecBackUptoRow : OpenClaim := { program := "ytjlbhhcjghlfiaa", sum := "d315ead88bcc2e740bca38be77ddb646611c64cca58e3abf60ea7f53e2f740d6", func := "provost/provostlaw03.VecBack", spec := "vecBack", apart := false, narrowed := true }
def VecBackUptoSaid : Prop := vecBackUptoRow.holds Try.pinned (OpenSpec.upto vecBackSpec)

/-- 'provostlaw03.VecShare', WHERE WHAT IT READS IS OF BULK AT MOST 1048576: true; the input reads as it did. -/
def vecShareUptoRow : OpenClaim := { program := "ytjlbhhcjghlfiaa", sum := "d315ead88bcc2e740bca38be77ddb646611c64cca58e3abf60ea7f53e2f740d6", func := "provost/provostlaw03.VecShare", spec := "vecShare", apart := false, narrowed := true }
def VecShareUptoSaid : Prop := vecShareUptoRow.holds Try.pinned (OpenSpec.upto vecShareSpec)

/-- 'provostlaw03.VecFits', WHERE WHAT IT READS IS OF BULK AT MOST 1048576: true; the input reads as it did. -/
def vecFitsUptoRow : OpenClaim := { program := "ytjlbhhcjghlfiaa", sum := "d315ead88bcc2e740bca38be77ddb646611c64cca58e3abf60ea7f53e2f740d6", func := "provost/provostlaw03.VecFits", spec := "vecFits", apart := false, narrowed := true }
def VecFitsUptoSaid : Prop := vecFitsUptoRow.holds Try.pinned (OpenSpec.upto vecFitsSpec)

/-- 'provostlaw03.VecNone', WHERE WHAT IT READS IS OF BULK AT MOST 1048576: true; the input reads as it did. -/
def vecNoneUptoRow : OpenClaim := { program := "ytjlbhhcjghlfiaa", sum := "d315ead88bcc2e740bca38be77ddb646611c64cca58e3abf60ea7f53e2f740d6", func := "provost/provostlaw03.VecNone", spec := "vecNone", apart := false, narrowed := true }
def VecNoneUptoSaid : Prop := vecNoneUptoRow.holds Try.pinned (OpenSpec.upto vecNoneSpec)

end Rows
end Go.Proofs.Ytjlbhhcjghlfiaa
