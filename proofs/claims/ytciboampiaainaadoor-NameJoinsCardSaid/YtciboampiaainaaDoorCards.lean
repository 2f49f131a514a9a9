/-
  DERIVED. GIVEN WITH THE SEED: THE CARDS: each row of YtciboampiaainaaDoorRows.lean that lists a variable, with what it lists TIED to the program's text (the seventh form; the later family's looks); each row that meets fmt, with fmt's text TOLD by the authors' own Lean function (tested against real Go, not proved from fmt's source: count such statements apart). THE CARD IS WHAT COUNTS. Prove the row's statement (the work); the ties are given (YtciboampiaainaaDoorTie.lean); close each card by the builder's one call (the guide's Derived/Test/ToyasCard.lean, 'card_holds'). Laid BY PROGRAM, IN A SANDBOX (cutbox-door.mjs). By AI agents, Wed Nov 11 2026. No macro, syntax, notation, axiom, sorry.
-/
import Derived.Test.YtciboampiaainaaDoorRows
import GoSem.ClaimSeven
namespace Go.Proofs.YtciboampiaainaaDoor
namespace Rows

/-- THE TIED CARD OF 'provostlaw04.NameTells'. -/
def nameTellsCard : Claim7 := { stood := { row := nameTellsRow, standIns := [], harness := (true, "18facc19569558df1d734c31a66e8059f4075a5adf1d73e4dbf1643cce72a9a3"), looks := false }, kinds := [], alts := [], laidByText := true, laidKinds := [.data, .pinned], laidTests := true, laidLooks := .later }
def NameTellsCardSaid : Prop := Claim7.holds Tryd.pinned (.plain (OpenSpec.ofChange nameTellsSpec)) nameTellsCard

/-- THE TIED CARD OF 'provostlaw04.NameCuts'. -/
def nameCutsCard : Claim7 := { stood := { row := nameCutsRow, standIns := [], harness := (true, "18facc19569558df1d734c31a66e8059f4075a5adf1d73e4dbf1643cce72a9a3"), looks := false }, kinds := [], alts := [], laidByText := true, laidKinds := [.data, .pinned], laidTests := true, laidLooks := .later }
def NameCutsCardSaid : Prop := Claim7.holds Tryd.pinned (.plain (OpenSpec.ofChange nameCutsSpec)) nameCutsCard

/-- THE TIED CARD OF 'provostlaw04.NameKeys'. -/
def nameKeysCard : Claim7 := { stood := { row := nameKeysRow, standIns := [], harness := (true, "18facc19569558df1d734c31a66e8059f4075a5adf1d73e4dbf1643cce72a9a3"), looks := false }, kinds := [], alts := [], laidByText := true, laidKinds := [.data, .pinned], laidTests := true, laidLooks := .later }
def NameKeysCardSaid : Prop := Claim7.holds Tryd.pinned (.plain (OpenSpec.ofChange nameKeysSpec)) nameKeysCard

/-- THE TIED CARD OF 'provostlaw04.NameOrder'. -/
def nameOrderCard : Claim7 := { stood := { row := nameOrderRow, standIns := [], harness := (true, "18facc19569558df1d734c31a66e8059f4075a5adf1d73e4dbf1643cce72a9a3"), looks := false }, kinds := [], alts := [], laidByText := true, laidKinds := [.data, .pinned], laidTests := true, laidLooks := .later }
def NameOrderCardSaid : Prop := Claim7.holds Tryd.pinned (.plain (OpenSpec.ofChange nameOrderSpec)) nameOrderCard

/-- THE TIED CARD OF 'provostlaw04.NameParts'. -/
def namePartsCard : Claim7 := { stood := { row := namePartsRow, standIns := [], harness := (true, "18facc19569558df1d734c31a66e8059f4075a5adf1d73e4dbf1643cce72a9a3"), looks := false }, kinds := [], alts := [], laidByText := true, laidKinds := [.data, .pinned], laidTests := true, laidLooks := .later }
def NamePartsCardSaid : Prop := Claim7.holds Tryd.pinned (.plain (OpenSpec.ofChange namePartsSpec)) namePartsCard

/-- THE TIED CARD OF 'provostlaw04.NameCase'. -/
def nameCaseCard : Claim7 := { stood := { row := nameCaseRow, standIns := [], harness := (true, "18facc19569558df1d734c31a66e8059f4075a5adf1d73e4dbf1643cce72a9a3"), looks := false }, kinds := [], alts := [], laidByText := true, laidKinds := [.data, .pinned], laidTests := true, laidLooks := .later }
def NameCaseCardSaid : Prop := Claim7.holds Tryd.pinned (.plain (OpenSpec.ofChange nameCaseSpec)) nameCaseCard

/-- THE TIED CARD OF 'provostlaw04.NameJoins'. -/
def nameJoinsCard : Claim7 := { stood := { row := nameJoinsRow, standIns := [], harness := (true, "18facc19569558df1d734c31a66e8059f4075a5adf1d73e4dbf1643cce72a9a3"), looks := false }, kinds := [], alts := [], laidByText := true, laidKinds := [.data, .pinned], laidTests := true, laidLooks := .later }
def NameJoinsCardSaid : Prop := Claim7.holds Tryd.pinned (.plain (OpenSpec.ofChange nameJoinsSpec)) nameJoinsCard

/-- THE SECOND FORM's CARD OF 'provostlaw04.NameTells'. -/
def nameTellsUptoCard : Claim7 := { stood := { row := nameTellsUptoRow, standIns := [], harness := (true, "18facc19569558df1d734c31a66e8059f4075a5adf1d73e4dbf1643cce72a9a3"), looks := false }, kinds := [], alts := [], laidByText := true, laidKinds := [.data, .pinned], laidTests := true, laidLooks := .later }
def NameTellsUptoCardSaid : Prop := Claim7.holds Tryd.pinned (.plain (OpenSpec.upto nameTellsSpec)) nameTellsUptoCard

/-- THE SECOND FORM's CARD OF 'provostlaw04.NameCuts'. -/
def nameCutsUptoCard : Claim7 := { stood := { row := nameCutsUptoRow, standIns := [], harness := (true, "18facc19569558df1d734c31a66e8059f4075a5adf1d73e4dbf1643cce72a9a3"), looks := false }, kinds := [], alts := [], laidByText := true, laidKinds := [.data, .pinned], laidTests := true, laidLooks := .later }
def NameCutsUptoCardSaid : Prop := Claim7.holds Tryd.pinned (.plain (OpenSpec.upto nameCutsSpec)) nameCutsUptoCard

/-- THE SECOND FORM's CARD OF 'provostlaw04.NameKeys'. -/
def nameKeysUptoCard : Claim7 := { stood := { row := nameKeysUptoRow, standIns := [], harness := (true, "18facc19569558df1d734c31a66e8059f4075a5adf1d73e4dbf1643cce72a9a3"), looks := false }, kinds := [], alts := [], laidByText := true, laidKinds := [.data, .pinned], laidTests := true, laidLooks := .later }
def NameKeysUptoCardSaid : Prop := Claim7.holds Tryd.pinned (.plain (OpenSpec.upto nameKeysSpec)) nameKeysUptoCard

/-- THE SECOND FORM's CARD OF 'provostlaw04.NameOrder'. -/
def nameOrderUptoCard : Claim7 := { stood := { row := nameOrderUptoRow, standIns := [], harness := (true, "18facc19569558df1d734c31a66e8059f4075a5adf1d73e4dbf1643cce72a9a3"), looks := false }, kinds := [], alts := [], laidByText := true, laidKinds := [.data, .pinned], laidTests := true, laidLooks := .later }
def NameOrderUptoCardSaid : Prop := Claim7.holds Tryd.pinned (.plain (OpenSpec.upto nameOrderSpec)) nameOrderUptoCard

/-- THE SECOND FORM's CARD OF 'provostlaw04.NameParts'. -/
def namePartsUptoCard : Claim7 := { stood := { row := namePartsUptoRow, standIns := [], harness := (true, "18facc19569558df1d734c31a66e8059f4075a5adf1d73e4dbf1643cce72a9a3"), looks := false }, kinds := [], alts := [], laidByText := true, laidKinds := [.data, .pinned], laidTests := true, laidLooks := .later }
def NamePartsUptoCardSaid : Prop := Claim7.holds Tryd.pinned (.plain (OpenSpec.upto namePartsSpec)) namePartsUptoCard

/-- THE SECOND FORM's CARD OF 'provostlaw04.NameCase'. -/
def nameCaseUptoCard : Claim7 := { stood := { row := nameCaseUptoRow, standIns := [], harness := (true, "18facc19569558df1d734c31a66e8059f4075a5adf1d73e4dbf1643cce72a9a3"), looks := false }, kinds := [], alts := [], laidByText := true, laidKinds := [.data, .pinned], laidTests := true, laidLooks := .later }
def NameCaseUptoCardSaid : Prop := Claim7.holds Tryd.pinned (.plain (OpenSpec.upto nameCaseSpec)) nameCaseUptoCard

/-- THE SECOND FORM's CARD OF 'provostlaw04.NameJoins'. -/
def nameJoinsUptoCard : Claim7 := { stood := { row := nameJoinsUptoRow, standIns := [], harness := (true, "18facc19569558df1d734c31a66e8059f4075a5adf1d73e4dbf1643cce72a9a3"), looks := false }, kinds := [], alts := [], laidByText := true, laidKinds := [.data, .pinned], laidTests := true, laidLooks := .later }
def NameJoinsUptoCardSaid : Prop := Claim7.holds Tryd.pinned (.plain (OpenSpec.upto nameJoinsSpec)) nameJoinsUptoCard
end Rows
end Go.Proofs.YtciboampiaainaaDoor
