/-
  No cell of these rows narrows 'for every input' (looked for: loops, veiled, ifaces, maps, wideKeys, modest, calm, conditions, laid).
  DERIVED. THE GIVEN ROWS OF THIS SEAT. 6 by the template 'for every input the law returns true; each argument reads behind the call as it read before'; 0 by the template 'total and deterministic' (their statements: YtplmbihabncbjaaTotals.lean).
  GIVEN WITH THE SEED: the statements are not yours to turn. If you find one false, say at which input.
  Laid BY PROGRAM, IN A SANDBOX (cutbox-rows.mjs): the forced cells as the released guide's own fill.sh prints them over the translation 6dab62f45031e831… (all of the seat's roots in one cut). By AI agents, Wed Nov 11 2026. No macro, syntax, notation, axiom, sorry.
-/
import Derived.Test.YtplmbihabncbjaaChecked
import GoSem.Claim
import GoSem.ClaimJoined
import GoSem.ClaimMapViews
import Derived.JoinedTies
import Derived.KernelRfl
namespace Go.Proofs.Ytplmbihabncbjaa
/- THE CELL 'sum', in the pinned program and in every row, IS THE sha256 OF THE DUMP (.gsa) THAT YtplmbihabncbjaaProg.lean LOADS. Nothing in Lean hashes anything: it is a label: what it is worth is what the hold of that sum in a sandbox is worth. -/
noncomputable def Try.pinned : Pinned := { name := "ytplmbihabncbjaa", sum := "6dab62f45031e8319ec98548a972cf662e15f12fbdc353a477a7f072b611b17c", checked := Try.checked }
namespace Rows
def none {H : Type} : Left H := { results := [], args := [] }

/-- 'provostlaw02.CrcJoins': WHATEVER THE INPUT: true; the input reads as it did. -/
def crcJoinsSpec : ChangeSpec := { name := "crcJoins", fn := fun _ => fun
  | [d1, d2] => { results := [.lit (.bool true)], args := [d1, d2] }
  | _ => none }
def crcJoinsRow : OpenClaim := { program := "ytplmbihabncbjaa", sum := "6dab62f45031e8319ec98548a972cf662e15f12fbdc353a477a7f072b611b17c", func := "provost/provostlaw02.CrcJoins", spec := "crcJoins", apart := false }
def CrcJoinsSaid : Prop := crcJoinsRow.holds Try.pinned (OpenSpec.ofChange crcJoinsSpec)

/-- ITS FALSE NEIGHBOUR: 'it returns false'. Refute it at one input. -/
def crcJoinsWrong : ChangeSpec := { name := "crcJoins", fn := fun _ => fun
  | [d1, d2] => { results := [.lit (.bool false)], args := [d1, d2] }
  | _ => none }
def CrcJoinsWrongFalsely : Prop := crcJoinsRow.holds Try.pinned (OpenSpec.ofChange crcJoinsWrong)

/-- 'provostlaw02.CrcTears': WHATEVER THE INPUT: true; the input reads as it did. -/
def crcTearsSpec : ChangeSpec := { name := "crcTears", fn := fun _ => fun
  | [d1, d2, d3] => { results := [.lit (.bool true)], args := [d1, d2, d3] }
  | _ => none }
def crcTearsRow : OpenClaim := { program := "ytplmbihabncbjaa", sum := "6dab62f45031e8319ec98548a972cf662e15f12fbdc353a477a7f072b611b17c", func := "provost/provostlaw02.CrcTears", spec := "crcTears", apart := false }
def CrcTearsSaid : Prop := crcTearsRow.holds Try.pinned (OpenSpec.ofChange crcTearsSpec)

/-- ITS FALSE NEIGHBOUR: 'it returns false'. Refute it at one input. -/
def crcTearsWrong : ChangeSpec := { name := "crcTears", fn := fun _ => fun
  | [d1, d2, d3] => { results := [.lit (.bool false)], args := [d1, d2, d3] }
  | _ => none }
def CrcTearsWrongFalsely : Prop := crcTearsRow.holds Try.pinned (OpenSpec.ofChange crcTearsWrong)

/-- 'provostlaw02.CrcLinear': WHATEVER THE INPUT: true; the input reads as it did. -/
def crcLinearSpec : ChangeSpec := { name := "crcLinear", fn := fun _ => fun
  | [d1, d2, d3] => { results := [.lit (.bool true)], args := [d1, d2, d3] }
  | _ => none }
def crcLinearRow : OpenClaim := { program := "ytplmbihabncbjaa", sum := "6dab62f45031e8319ec98548a972cf662e15f12fbdc353a477a7f072b611b17c", func := "provost/provostlaw02.CrcLinear", spec := "crcLinear", apart := false }
def CrcLinearSaid : Prop := crcLinearRow.holds Try.pinned (OpenSpec.ofChange crcLinearSpec)

/-- ITS FALSE NEIGHBOUR: 'it returns false'. Refute it at one input. -/
def crcLinearWrong : ChangeSpec := { name := "crcLinear", fn := fun _ => fun
  | [d1, d2, d3] => { results := [.lit (.bool false)], args := [d1, d2, d3] }
  | _ => none }
def CrcLinearWrongFalsely : Prop := crcLinearRow.holds Try.pinned (OpenSpec.ofChange crcLinearWrong)

/-- 'provostlaw02.CrcEnds': WHATEVER THE INPUT: true; the input reads as it did. -/
def crcEndsSpec : ChangeSpec := { name := "crcEnds", fn := fun _ => fun
  | [d1, d2, d3] => { results := [.lit (.bool true)], args := [d1, d2, d3] }
  | _ => none }
def crcEndsRow : OpenClaim := { program := "ytplmbihabncbjaa", sum := "6dab62f45031e8319ec98548a972cf662e15f12fbdc353a477a7f072b611b17c", func := "provost/provostlaw02.CrcEnds", spec := "crcEnds", apart := false }
def CrcEndsSaid : Prop := crcEndsRow.holds Try.pinned (OpenSpec.ofChange crcEndsSpec)

/-- ITS FALSE NEIGHBOUR: 'it returns false'. Refute it at one input. -/
def crcEndsWrong : ChangeSpec := { name := "crcEnds", fn := fun _ => fun
  | [d1, d2, d3] => { results := [.lit (.bool false)], args := [d1, d2, d3] }
  | _ => none }
def CrcEndsWrongFalsely : Prop := crcEndsRow.holds Try.pinned (OpenSpec.ofChange crcEndsWrong)

/-- 'provostlaw02.CrcSums': WHATEVER THE INPUT: true; the input reads as it did. -/
def crcSumsSpec : ChangeSpec := { name := "crcSums", fn := fun _ => fun
  | [d1, d2, d3] => { results := [.lit (.bool true)], args := [d1, d2, d3] }
  | _ => none }
def crcSumsRow : OpenClaim := { program := "ytplmbihabncbjaa", sum := "6dab62f45031e8319ec98548a972cf662e15f12fbdc353a477a7f072b611b17c", func := "provost/provostlaw02.CrcSums", spec := "crcSums", apart := false }
def CrcSumsSaid : Prop := crcSumsRow.holds Try.pinned (OpenSpec.ofChange crcSumsSpec)

/-- ITS FALSE NEIGHBOUR: 'it returns false'. Refute it at one input. -/
def crcSumsWrong : ChangeSpec := { name := "crcSums", fn := fun _ => fun
  | [d1, d2, d3] => { results := [.lit (.bool false)], args := [d1, d2, d3] }
  | _ => none }
def CrcSumsWrongFalsely : Prop := crcSumsRow.holds Try.pinned (OpenSpec.ofChange crcSumsWrong)

/-- 'provostlaw02.CrcZeros': WHATEVER THE INPUT: true; the input reads as it did. -/
def crcZerosSpec : ChangeSpec := { name := "crcZeros", fn := fun _ => fun
  | [d1, d2, d3] => { results := [.lit (.bool true)], args := [d1, d2, d3] }
  | _ => none }
def crcZerosRow : OpenClaim := { program := "ytplmbihabncbjaa", sum := "6dab62f45031e8319ec98548a972cf662e15f12fbdc353a477a7f072b611b17c", func := "provost/provostlaw02.CrcZeros", spec := "crcZeros", apart := false }
def CrcZerosSaid : Prop := crcZerosRow.holds Try.pinned (OpenSpec.ofChange crcZerosSpec)

/-- ITS FALSE NEIGHBOUR: 'it returns false'. Refute it at one input. -/
def crcZerosWrong : ChangeSpec := { name := "crcZeros", fn := fun _ => fun
  | [d1, d2, d3] => { results := [.lit (.bool false)], args := [d1, d2, d3] }
  | _ => none }
def CrcZerosWrongFalsely : Prop := crcZerosRow.holds Try.pinned (OpenSpec.ofChange crcZerosWrong)

/- THE SECOND FORM. 'bulk': how many values and letters a reading holds, each counted each time it is reached (what is shared counts as often as it is met; a slice's spare places count too). A statement '..UptoSaid' is the law's where the arguments, and the package variables that the reading takes, are together of bulk at most 1048576: NARROWER than '..Said'. Prove '..Said' where nothing that the law and all that it calls make is longer than what came in: it says more and counts as full. Else prove '..UptoSaid'. A law counts once. -/
mutual
def uptoBulk {H : Type} : DataW H → Nat
  | .lit (.string bytes) => bytes.length + 1
  | .lit _ => 1
  | .nil => 1
  | .ptr d => uptoBulk d + 1
  | .slice elems spare => uptoBulkAll elems + uptoBulkAll spare + 1
  | .agg parts => uptoBulkAll parts + 1
  | .iface _ d => uptoBulk d + 1
  | .map entries => uptoBulkEntries entries + 1
  | .held _ => 1
def uptoBulkAll {H : Type} : List (DataW H) → Nat
  | [] => 0
  | d :: r => uptoBulk d + uptoBulkAll r
def uptoBulkEntries {H : Type} : List (Lit × DataW H) → Nat
  | [] => 0
  | x :: r => uptoBulkEntry x + uptoBulkEntries r
def uptoBulkEntry {H : Type} : Lit × DataW H → Nat
  | (.string bytes, d) => bytes.length + uptoBulk d + 1
  | (_, d) => uptoBulk d + 1
 end
def uptoSmall : (H : Type) → List (DataW H) → Bool := fun _ ds => decide (uptoBulkAll ds ≤ 1048576)
def OpenSpec.upto (s : _root_.Go.ChangeSpec) : _root_.Go.OpenSpec := { _root_.Go.OpenSpec.ofChange s with cond := some uptoSmall }

/-- 'provostlaw02.CrcJoins', WHERE WHAT IT READS IS OF BULK AT MOST 1048576: true; the input reads as it did. -/
def crcJoinsUptoRow : OpenClaim := { program := "ytplmbihabncbjaa", sum := "6dab62f45031e8319ec98548a972cf662e15f12fbdc353a477a7f072b611b17c", func := "provost/provostlaw02.CrcJoins", spec := "crcJoins", apart := false, narrowed := true }
def CrcJoinsUptoSaid : Prop := crcJoinsUptoRow.holds Try.pinned (OpenSpec.upto crcJoinsSpec)

/-- 'provostlaw02.CrcTears', WHERE WHAT IT READS IS OF BULK AT MOST 1048576: true; the input reads as it did. -/
def crcTearsUptoRow : OpenClaim := { program := "ytplmbihabncbjaa", sum := "6dab62f45031e8319ec98548a972cf662e15f12fbdc353a477a7f072b611b17c", func := "provost/provostlaw02.CrcTears", spec := "crcTears", apart := false, narrowed := true }
def CrcTearsUptoSaid : Prop := crcTearsUptoRow.holds Try.pinned (OpenSpec.upto crcTearsSpec)

/-- 'provostlaw02.CrcLinear', WHERE WHAT IT READS IS OF BULK AT MOST 1048576: true; the input reads as it did. -/
def crcLinearUptoRow : OpenClaim := { program := "ytplmbihabncbjaa", sum := "6dab62f45031e8319ec98548a972cf662e15f12fbdc353a477a7f072b611b17c", func := "provost/provostlaw02.CrcLinear", spec := "crcLinear", apart := false, narrowed := true }
def CrcLinearUptoSaid : Prop := crcLinearUptoRow.holds Try.pinned (OpenSpec.upto crcLinearSpec)

/-- 'provostlaw02.CrcEnds', WHERE WHAT IT READS IS OF BULK AT MOST 1048576: true; the input reads as it did. -/
def crcEndsUptoRow : OpenClaim := { program := "ytplmbihabncbjaa", sum := "6dab62f45031e8319ec98548a972cf662e15f12fbdc353a477a7f072b611b17c", func := "provost/provostlaw02.CrcEnds", spec := "crcEnds", apart := false, narrowed := true }
def CrcEndsUptoSaid : Prop := crcEndsUptoRow.holds Try.pinned (OpenSpec.upto crcEndsSpec)

/-- 'provostlaw02.CrcSums', WHERE WHAT IT READS IS OF BULK AT MOST 1048576: true; the input reads as it did. -/
def crcSumsUptoRow : OpenClaim := { program := "ytplmbihabncbjaa", sum := "6dab62f45031e8319ec98548a972cf662e15f12fbdc353a477a7f072b611b17c", func := "provost/provostlaw02.CrcSums", spec := "crcSums", apart := false, narrowed := true }
def CrcSumsUptoSaid : Prop := crcSumsUptoRow.holds Try.pinned (OpenSpec.upto crcSumsSpec)

/-- 'provostlaw02.CrcZeros', WHERE WHAT IT READS IS OF BULK AT MOST 1048576: true; the input reads as it did. -/
def crcZerosUptoRow : OpenClaim := { program := "ytplmbihabncbjaa", sum := "6dab62f45031e8319ec98548a972cf662e15f12fbdc353a477a7f072b611b17c", func := "provost/provostlaw02.CrcZeros", spec := "crcZeros", apart := false, narrowed := true }
def CrcZerosUptoSaid : Prop := crcZerosUptoRow.holds Try.pinned (OpenSpec.upto crcZerosSpec)

end Rows
end Go.Proofs.Ytplmbihabncbjaa
