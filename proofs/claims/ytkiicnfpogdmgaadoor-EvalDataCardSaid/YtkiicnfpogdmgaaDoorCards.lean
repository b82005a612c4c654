/-
  DERIVED. GIVEN WITH THE SEED: THE CARDS: each row of YtkiicnfpogdmgaaDoorRows.lean that lists a variable, with what it lists TIED to the program's text (the seventh form; the later family's looks); each row that meets fmt, with fmt's text TOLD by the authors' own Lean function (tested against real Go, not proved from fmt's source: count such statements apart). THE CARD IS WHAT COUNTS. Prove the row's statement (the work); the ties are given (YtkiicnfpogdmgaaDoorTie.lean); close each card by the builder's one call (the guide's Derived/Test/ToyasCard.lean, 'card_holds'). Laid BY PROGRAM, IN A SANDBOX (cutbox-door.mjs). By AI agents, Wed Nov 11 2026. No macro, syntax, notation, axiom, sorry.
-/
import Derived.Test.YtkiicnfpogdmgaaDoorRows
import GoSem.ClaimSeven
namespace Go.Proofs.YtkiicnfpogdmgaaDoor
namespace Rows

/-- THE TIED CARD OF 'semvcslaw09.EvalData'. -/
def evalDataCard : Claim7 := { stood := { row := evalDataRow, standIns := [], harness := (true, "a51132b20449bd6344266ca2cd591c8e7c4321451089475ab92faae313363bf8"), looks := true }, kinds := [], alts := [], laidByText := true, laidKinds := [.data, .data, .data, .sentinel, .sentinel], laidTests := true, laidLooks := .later }
def EvalDataCardSaid : Prop := Claim7.holds Tryd.pinned (.plain (OpenSpec.ofChange evalDataSpec)) evalDataCard

/-- THE TIED CARD OF 'semvcslaw09.EvalSames'. -/
def evalSamesCard : Claim7 := { stood := { row := evalSamesRow, standIns := [], harness := (true, "a51132b20449bd6344266ca2cd591c8e7c4321451089475ab92faae313363bf8"), looks := true }, kinds := [], alts := [], laidByText := true, laidKinds := [.data, .data, .data, .sentinel, .sentinel], laidTests := true, laidLooks := .later }
def EvalSamesCardSaid : Prop := Claim7.holds Tryd.pinned (.plain (OpenSpec.ofChange evalSamesSpec)) evalSamesCard

/-- THE TIED CARD OF 'semvcslaw09.EvalSums'. -/
def evalSumsCard : Claim7 := { stood := { row := evalSumsRow, standIns := [], harness := (true, "a51132b20449bd6344266ca2cd591c8e7c4321451089475ab92faae313363bf8"), looks := true }, kinds := [], alts := [], laidByText := true, laidKinds := [.data, .data, .data, .sentinel, .sentinel], laidTests := true, laidLooks := .later }
def EvalSumsCardSaid : Prop := Claim7.holds Tryd.pinned (.plain (OpenSpec.ofChange evalSumsSpec)) evalSumsCard

/-- THE TIED CARD OF 'semvcslaw09.EvalWraps'. -/
def evalWrapsCard : Claim7 := { stood := { row := evalWrapsRow, standIns := [], harness := (true, "a51132b20449bd6344266ca2cd591c8e7c4321451089475ab92faae313363bf8"), looks := true }, kinds := [], alts := [], laidByText := true, laidKinds := [.data, .data, .data, .sentinel, .sentinel], laidTests := true, laidLooks := .later }
def EvalWrapsCardSaid : Prop := Claim7.holds Tryd.pinned (.plain (OpenSpec.ofChange evalWrapsSpec)) evalWrapsCard

/-- THE SECOND FORM's CARD OF 'semvcslaw09.EvalData'. -/
def evalDataUptoCard : Claim7 := { stood := { row := evalDataUptoRow, standIns := [], harness := (true, "a51132b20449bd6344266ca2cd591c8e7c4321451089475ab92faae313363bf8"), looks := true }, kinds := [], alts := [], laidByText := true, laidKinds := [.data, .data, .data, .sentinel, .sentinel], laidTests := true, laidLooks := .later }
def EvalDataUptoCardSaid : Prop := Claim7.holds Tryd.pinned (.plain (OpenSpec.upto evalDataSpec)) evalDataUptoCard

/-- THE SECOND FORM's CARD OF 'semvcslaw09.EvalSames'. -/
def evalSamesUptoCard : Claim7 := { stood := { row := evalSamesUptoRow, standIns := [], harness := (true, "a51132b20449bd6344266ca2cd591c8e7c4321451089475ab92faae313363bf8"), looks := true }, kinds := [], alts := [], laidByText := true, laidKinds := [.data, .data, .data, .sentinel, .sentinel], laidTests := true, laidLooks := .later }
def EvalSamesUptoCardSaid : Prop := Claim7.holds Tryd.pinned (.plain (OpenSpec.upto evalSamesSpec)) evalSamesUptoCard

/-- THE SECOND FORM's CARD OF 'semvcslaw09.EvalSums'. -/
def evalSumsUptoCard : Claim7 := { stood := { row := evalSumsUptoRow, standIns := [], harness := (true, "a51132b20449bd6344266ca2cd591c8e7c4321451089475ab92faae313363bf8"), looks := true }, kinds := [], alts := [], laidByText := true, laidKinds := [.data, .data, .data, .sentinel, .sentinel], laidTests := true, laidLooks := .later }
def EvalSumsUptoCardSaid : Prop := Claim7.holds Tryd.pinned (.plain (OpenSpec.upto evalSumsSpec)) evalSumsUptoCard

/-- THE SECOND FORM's CARD OF 'semvcslaw09.EvalWraps'. -/
def evalWrapsUptoCard : Claim7 := { stood := { row := evalWrapsUptoRow, standIns := [], harness := (true, "a51132b20449bd6344266ca2cd591c8e7c4321451089475ab92faae313363bf8"), looks := true }, kinds := [], alts := [], laidByText := true, laidKinds := [.data, .data, .data, .sentinel, .sentinel], laidTests := true, laidLooks := .later }
def EvalWrapsUptoCardSaid : Prop := Claim7.holds Tryd.pinned (.plain (OpenSpec.upto evalWrapsSpec)) evalWrapsUptoCard
end Rows
end Go.Proofs.YtkiicnfpogdmgaaDoor
