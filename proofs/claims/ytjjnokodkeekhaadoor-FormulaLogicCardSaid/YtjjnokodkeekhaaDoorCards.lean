/-
  DERIVED. GIVEN WITH THE SEED: THE CARDS: each row of YtjjnokodkeekhaaDoorRows.lean that lists a variable, with what it lists TIED to the program's text (the seventh form; the later family's looks); each row that meets fmt, with fmt's text TOLD by the authors' own Lean function (tested against real Go, not proved from fmt's source: count such statements apart). THE CARD IS WHAT COUNTS. Prove the row's statement (the work); the ties are given (YtjjnokodkeekhaaDoorTie.lean); close each card by the builder's one call (the guide's Derived/Test/ToyasCard.lean, 'card_holds'). Laid BY PROGRAM, IN A SANDBOX (cutbox-door.mjs). By AI agents, Wed Nov 11 2026. No macro, syntax, notation, axiom, sorry.
-/
import Derived.Test.YtjjnokodkeekhaaDoorRows
import GoSem.ClaimSeven
namespace Go.Proofs.YtjjnokodkeekhaaDoor
namespace Rows

/-- THE TIED CARD OF 'parrylaw22.FormulaSteps'. -/
def formulaStepsCard : Claim7 := { stood := { row := formulaStepsRow, standIns := [], harness := (true, "7197414edc8a4e717e9e259bd00efc4bc5e0358c59f45fecd3603a89d0ad4f3f"), looks := false }, kinds := [], alts := [], laidByText := true, laidKinds := [.data, .data, .data], laidTests := true, laidLooks := .later }
def FormulaStepsCardSaid : Prop := Claim7.holds Tryd.pinned (.plain (OpenSpec.ofChange formulaStepsSpec)) formulaStepsCard

/-- THE TIED CARD OF 'parrylaw22.FormulaWords'. -/
def formulaWordsCard : Claim7 := { stood := { row := formulaWordsRow, standIns := [], harness := (true, "7197414edc8a4e717e9e259bd00efc4bc5e0358c59f45fecd3603a89d0ad4f3f"), looks := false }, kinds := [], alts := [], laidByText := true, laidKinds := [.data, .data, .data], laidTests := true, laidLooks := .later }
def FormulaWordsCardSaid : Prop := Claim7.holds Tryd.pinned (.plain (OpenSpec.ofChange formulaWordsSpec)) formulaWordsCard

/-- THE TIED CARD OF 'parrylaw22.FormulaLogic'. -/
def formulaLogicCard : Claim7 := { stood := { row := formulaLogicRow, standIns := [], harness := (true, "7197414edc8a4e717e9e259bd00efc4bc5e0358c59f45fecd3603a89d0ad4f3f"), looks := false }, kinds := [], alts := [], laidByText := true, laidKinds := [.data, .data, .data], laidTests := true, laidLooks := .later }
def FormulaLogicCardSaid : Prop := Claim7.holds Tryd.pinned (.plain (OpenSpec.ofChange formulaLogicSpec)) formulaLogicCard

/-- THE TIED CARD OF 'parrylaw22.FormulaAgain'. -/
def formulaAgainCard : Claim7 := { stood := { row := formulaAgainRow, standIns := [], harness := (true, "7197414edc8a4e717e9e259bd00efc4bc5e0358c59f45fecd3603a89d0ad4f3f"), looks := false }, kinds := [], alts := [], laidByText := true, laidKinds := [.data, .data, .data], laidTests := true, laidLooks := .later }
def FormulaAgainCardSaid : Prop := Claim7.holds Tryd.pinned (.plain (OpenSpec.ofChange formulaAgainSpec)) formulaAgainCard

/-- THE TIED CARD OF 'parrylaw22.FormulaForms'. -/
def formulaFormsCard : Claim7 := { stood := { row := formulaFormsRow, standIns := [], harness := (true, "7197414edc8a4e717e9e259bd00efc4bc5e0358c59f45fecd3603a89d0ad4f3f"), looks := false }, kinds := [], alts := [], laidByText := true, laidKinds := [.data, .data, .data], laidTests := true, laidLooks := .later }
def FormulaFormsCardSaid : Prop := Claim7.holds Tryd.pinned (.plain (OpenSpec.ofChange formulaFormsSpec)) formulaFormsCard

/-- THE TIED CARD OF 'parrylaw22.FormulaTexts'. -/
def formulaTextsCard : Claim7 := { stood := { row := formulaTextsRow, standIns := [], harness := (true, "7197414edc8a4e717e9e259bd00efc4bc5e0358c59f45fecd3603a89d0ad4f3f"), looks := false }, kinds := [], alts := [], laidByText := true, laidKinds := [.data, .data, .data], laidTests := true, laidLooks := .later }
def FormulaTextsCardSaid : Prop := Claim7.holds Tryd.pinned (.plain (OpenSpec.ofChange formulaTextsSpec)) formulaTextsCard

/-- THE SECOND FORM's CARD OF 'parrylaw22.FormulaSteps'. -/
def formulaStepsUptoCard : Claim7 := { stood := { row := formulaStepsUptoRow, standIns := [], harness := (true, "7197414edc8a4e717e9e259bd00efc4bc5e0358c59f45fecd3603a89d0ad4f3f"), looks := false }, kinds := [], alts := [], laidByText := true, laidKinds := [.data, .data, .data], laidTests := true, laidLooks := .later }
def FormulaStepsUptoCardSaid : Prop := Claim7.holds Tryd.pinned (.plain (OpenSpec.upto formulaStepsSpec)) formulaStepsUptoCard

/-- THE SECOND FORM's CARD OF 'parrylaw22.FormulaWords'. -/
def formulaWordsUptoCard : Claim7 := { stood := { row := formulaWordsUptoRow, standIns := [], harness := (true, "7197414edc8a4e717e9e259bd00efc4bc5e0358c59f45fecd3603a89d0ad4f3f"), looks := false }, kinds := [], alts := [], laidByText := true, laidKinds := [.data, .data, .data], laidTests := true, laidLooks := .later }
def FormulaWordsUptoCardSaid : Prop := Claim7.holds Tryd.pinned (.plain (OpenSpec.upto formulaWordsSpec)) formulaWordsUptoCard

/-- THE SECOND FORM's CARD OF 'parrylaw22.FormulaLogic'. -/
def formulaLogicUptoCard : Claim7 := { stood := { row := formulaLogicUptoRow, standIns := [], harness := (true, "7197414edc8a4e717e9e259bd00efc4bc5e0358c59f45fecd3603a89d0ad4f3f"), looks := false }, kinds := [], alts := [], laidByText := true, laidKinds := [.data, .data, .data], laidTests := true, laidLooks := .later }
def FormulaLogicUptoCardSaid : Prop := Claim7.holds Tryd.pinned (.plain (OpenSpec.upto formulaLogicSpec)) formulaLogicUptoCard

/-- THE SECOND FORM's CARD OF 'parrylaw22.FormulaAgain'. -/
def formulaAgainUptoCard : Claim7 := { stood := { row := formulaAgainUptoRow, standIns := [], harness := (true, "7197414edc8a4e717e9e259bd00efc4bc5e0358c59f45fecd3603a89d0ad4f3f"), looks := false }, kinds := [], alts := [], laidByText := true, laidKinds := [.data, .data, .data], laidTests := true, laidLooks := .later }
def FormulaAgainUptoCardSaid : Prop := Claim7.holds Tryd.pinned (.plain (OpenSpec.upto formulaAgainSpec)) formulaAgainUptoCard

/-- THE SECOND FORM's CARD OF 'parrylaw22.FormulaForms'. -/
def formulaFormsUptoCard : Claim7 := { stood := { row := formulaFormsUptoRow, standIns := [], harness := (true, "7197414edc8a4e717e9e259bd00efc4bc5e0358c59f45fecd3603a89d0ad4f3f"), looks := false }, kinds := [], alts := [], laidByText := true, laidKinds := [.data, .data, .data], laidTests := true, laidLooks := .later }
def FormulaFormsUptoCardSaid : Prop := Claim7.holds Tryd.pinned (.plain (OpenSpec.upto formulaFormsSpec)) formulaFormsUptoCard

/-- THE SECOND FORM's CARD OF 'parrylaw22.FormulaTexts'. -/
def formulaTextsUptoCard : Claim7 := { stood := { row := formulaTextsUptoRow, standIns := [], harness := (true, "7197414edc8a4e717e9e259bd00efc4bc5e0358c59f45fecd3603a89d0ad4f3f"), looks := false }, kinds := [], alts := [], laidByText := true, laidKinds := [.data, .data, .data], laidTests := true, laidLooks := .later }
def FormulaTextsUptoCardSaid : Prop := Claim7.holds Tryd.pinned (.plain (OpenSpec.upto formulaTextsSpec)) formulaTextsUptoCard
end Rows
end Go.Proofs.YtjjnokodkeekhaaDoor
