/-
  DERIVED. GIVEN WITH THE SEED: THE CARDS: each row of YtoeglkkmjmhmiaaDoorRows.lean that lists a variable, with what it lists TIED to the program's text (the seventh form; the later family's looks); each row that meets fmt, with fmt's text TOLD by the authors' own Lean function (tested against real Go, not proved from fmt's source: count such statements apart). THE CARD IS WHAT COUNTS. Prove the row's statement (the work); the ties are given (YtoeglkkmjmhmiaaDoorTie.lean); close each card by the builder's one call (the guide's Derived/Test/ToyasCard.lean, 'card_holds'). Laid BY PROGRAM, IN A SANDBOX (cutbox-door.mjs). By AI agents, Wed Nov 11 2026. No macro, syntax, notation, axiom, sorry.
-/
import Derived.Test.YtoeglkkmjmhmiaaDoorRows
import GoSem.ClaimSeven
namespace Go.Proofs.YtoeglkkmjmhmiaaDoor
namespace Rows

/-- THE TIED CARD OF 'watershedlaw04.ExprParses'. -/
def exprParsesCard : Claim7 := { stood := { row := exprParsesRow, standIns := [], harness := (true, "d69de9e3c6abeb9d38866db2c3550d2808c5f05d84600b05b63b62d31559fd2e"), looks := true }, kinds := [], alts := [], laidByText := true, laidKinds := [.data, .data, .data, .sentinel, .sentinel], laidTests := true, laidLooks := .later }
def ExprParsesCardSaid : Prop := Claim7.holds Tryd.pinned (.plain (OpenSpec.ofChange exprParsesSpec)) exprParsesCard

/-- THE TIED CARD OF 'watershedlaw04.ExprEvals'. -/
def exprEvalsCard : Claim7 := { stood := { row := exprEvalsRow, standIns := [], harness := (true, "d69de9e3c6abeb9d38866db2c3550d2808c5f05d84600b05b63b62d31559fd2e"), looks := true }, kinds := [], alts := [], laidByText := true, laidKinds := [.data, .data, .data, .sentinel, .sentinel], laidTests := true, laidLooks := .later }
def ExprEvalsCardSaid : Prop := Claim7.holds Tryd.pinned (.plain (OpenSpec.ofChange exprEvalsSpec)) exprEvalsCard

/-- THE TIED CARD OF 'watershedlaw04.ExprBack'. -/
def exprBackCard : Claim7 := { stood := { row := exprBackRow, standIns := [], harness := (true, "d69de9e3c6abeb9d38866db2c3550d2808c5f05d84600b05b63b62d31559fd2e"), looks := true }, kinds := [], alts := [], laidByText := true, laidKinds := [.data, .data, .data, .sentinel, .sentinel], laidTests := true, laidLooks := .later }
def ExprBackCardSaid : Prop := Claim7.holds Tryd.pinned (.plain (OpenSpec.ofChange exprBackSpec)) exprBackCard

/-- THE TIED CARD OF 'watershedlaw04.ExprPuts'. -/
def exprPutsCard : Claim7 := { stood := { row := exprPutsRow, standIns := [], harness := (true, "d69de9e3c6abeb9d38866db2c3550d2808c5f05d84600b05b63b62d31559fd2e"), looks := true }, kinds := [], alts := [], laidByText := true, laidKinds := [.data, .data, .data, .sentinel, .sentinel], laidTests := true, laidLooks := .later }
def ExprPutsCardSaid : Prop := Claim7.holds Tryd.pinned (.plain (OpenSpec.ofChange exprPutsSpec)) exprPutsCard

/-- THE TIED CARD OF 'watershedlaw04.ExprNil'. -/
def exprNilCard : Claim7 := { stood := { row := exprNilRow, standIns := [], harness := (true, "d69de9e3c6abeb9d38866db2c3550d2808c5f05d84600b05b63b62d31559fd2e"), looks := true }, kinds := [], alts := [], laidByText := true, laidKinds := [.data, .data, .data, .sentinel, .sentinel], laidTests := true, laidLooks := .later }
def ExprNilCardSaid : Prop := Claim7.holds Tryd.pinned (.plain (OpenSpec.ofChange exprNilSpec)) exprNilCard

/-- THE TIED CARD OF 'watershedlaw04.ExprRanks'. -/
def exprRanksCard : Claim7 := { stood := { row := exprRanksRow, standIns := [], harness := (true, "d69de9e3c6abeb9d38866db2c3550d2808c5f05d84600b05b63b62d31559fd2e"), looks := true }, kinds := [], alts := [], laidByText := true, laidKinds := [.data, .data, .data, .sentinel, .sentinel], laidTests := true, laidLooks := .later }
def ExprRanksCardSaid : Prop := Claim7.holds Tryd.pinned (.plain (OpenSpec.ofChange exprRanksSpec)) exprRanksCard

/-- THE TIED CARD OF 'watershedlaw04.ExprSigns'. -/
def exprSignsCard : Claim7 := { stood := { row := exprSignsRow, standIns := [], harness := (true, "d69de9e3c6abeb9d38866db2c3550d2808c5f05d84600b05b63b62d31559fd2e"), looks := true }, kinds := [], alts := [], laidByText := true, laidKinds := [.data, .data, .data, .sentinel, .sentinel], laidTests := true, laidLooks := .later }
def ExprSignsCardSaid : Prop := Claim7.holds Tryd.pinned (.plain (OpenSpec.ofChange exprSignsSpec)) exprSignsCard

/-- THE SECOND FORM's CARD OF 'watershedlaw04.ExprParses'. -/
def exprParsesUptoCard : Claim7 := { stood := { row := exprParsesUptoRow, standIns := [], harness := (true, "d69de9e3c6abeb9d38866db2c3550d2808c5f05d84600b05b63b62d31559fd2e"), looks := true }, kinds := [], alts := [], laidByText := true, laidKinds := [.data, .data, .data, .sentinel, .sentinel], laidTests := true, laidLooks := .later }
def ExprParsesUptoCardSaid : Prop := Claim7.holds Tryd.pinned (.plain (OpenSpec.upto exprParsesSpec)) exprParsesUptoCard

/-- THE SECOND FORM's CARD OF 'watershedlaw04.ExprEvals'. -/
def exprEvalsUptoCard : Claim7 := { stood := { row := exprEvalsUptoRow, standIns := [], harness := (true, "d69de9e3c6abeb9d38866db2c3550d2808c5f05d84600b05b63b62d31559fd2e"), looks := true }, kinds := [], alts := [], laidByText := true, laidKinds := [.data, .data, .data, .sentinel, .sentinel], laidTests := true, laidLooks := .later }
def ExprEvalsUptoCardSaid : Prop := Claim7.holds Tryd.pinned (.plain (OpenSpec.upto exprEvalsSpec)) exprEvalsUptoCard

/-- THE SECOND FORM's CARD OF 'watershedlaw04.ExprBack'. -/
def exprBackUptoCard : Claim7 := { stood := { row := exprBackUptoRow, standIns := [], harness := (true, "d69de9e3c6abeb9d38866db2c3550d2808c5f05d84600b05b63b62d31559fd2e"), looks := true }, kinds := [], alts := [], laidByText := true, laidKinds := [.data, .data, .data, .sentinel, .sentinel], laidTests := true, laidLooks := .later }
def ExprBackUptoCardSaid : Prop := Claim7.holds Tryd.pinned (.plain (OpenSpec.upto exprBackSpec)) exprBackUptoCard

/-- THE SECOND FORM's CARD OF 'watershedlaw04.ExprPuts'. -/
def exprPutsUptoCard : Claim7 := { stood := { row := exprPutsUptoRow, standIns := [], harness := (true, "d69de9e3c6abeb9d38866db2c3550d2808c5f05d84600b05b63b62d31559fd2e"), looks := true }, kinds := [], alts := [], laidByText := true, laidKinds := [.data, .data, .data, .sentinel, .sentinel], laidTests := true, laidLooks := .later }
def ExprPutsUptoCardSaid : Prop := Claim7.holds Tryd.pinned (.plain (OpenSpec.upto exprPutsSpec)) exprPutsUptoCard

/-- THE SECOND FORM's CARD OF 'watershedlaw04.ExprNil'. -/
def exprNilUptoCard : Claim7 := { stood := { row := exprNilUptoRow, standIns := [], harness := (true, "d69de9e3c6abeb9d38866db2c3550d2808c5f05d84600b05b63b62d31559fd2e"), looks := true }, kinds := [], alts := [], laidByText := true, laidKinds := [.data, .data, .data, .sentinel, .sentinel], laidTests := true, laidLooks := .later }
def ExprNilUptoCardSaid : Prop := Claim7.holds Tryd.pinned (.plain (OpenSpec.upto exprNilSpec)) exprNilUptoCard

/-- THE SECOND FORM's CARD OF 'watershedlaw04.ExprRanks'. -/
def exprRanksUptoCard : Claim7 := { stood := { row := exprRanksUptoRow, standIns := [], harness := (true, "d69de9e3c6abeb9d38866db2c3550d2808c5f05d84600b05b63b62d31559fd2e"), looks := true }, kinds := [], alts := [], laidByText := true, laidKinds := [.data, .data, .data, .sentinel, .sentinel], laidTests := true, laidLooks := .later }
def ExprRanksUptoCardSaid : Prop := Claim7.holds Tryd.pinned (.plain (OpenSpec.upto exprRanksSpec)) exprRanksUptoCard

/-- THE SECOND FORM's CARD OF 'watershedlaw04.ExprSigns'. -/
def exprSignsUptoCard : Claim7 := { stood := { row := exprSignsUptoRow, standIns := [], harness := (true, "d69de9e3c6abeb9d38866db2c3550d2808c5f05d84600b05b63b62d31559fd2e"), looks := true }, kinds := [], alts := [], laidByText := true, laidKinds := [.data, .data, .data, .sentinel, .sentinel], laidTests := true, laidLooks := .later }
def ExprSignsUptoCardSaid : Prop := Claim7.holds Tryd.pinned (.plain (OpenSpec.upto exprSignsSpec)) exprSignsUptoCard
end Rows
end Go.Proofs.YtoeglkkmjmhmiaaDoor
