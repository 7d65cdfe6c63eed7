/-
  DERIVED. GIVEN WITH THE SEED: THE CARDS: each row of YthljpljbpbkkcaaDoorRows.lean that lists a variable, with what it lists TIED to the program's text (the seventh form; the later family's looks); each row that meets fmt, with fmt's text TOLD by the authors' own Lean function (tested against real Go, not proved from fmt's source: count such statements apart). THE CARD IS WHAT COUNTS. Prove the row's statement (the work); the ties are given (YthljpljbpbkkcaaDoorTie.lean); close each card by the builder's one call (the guide's Derived/Test/ToyasCard.lean, 'card_holds'). Laid BY PROGRAM, IN A SANDBOX (cutbox-door.mjs). By AI agents, Wed Nov 11 2026. No macro, syntax, notation, axiom, sorry.
-/
import Derived.Test.YthljpljbpbkkcaaDoorRows
import GoSem.ClaimSeven
namespace Go.Proofs.YthljpljbpbkkcaaDoor
namespace Rows

/-- THE TIED CARD OF 'watershedlaw16.VaultStays'. -/
def vaultStaysCard : Claim7 := { stood := { row := vaultStaysRow, standIns := [], harness := (true, "df198a8ba6e19278d8af0c8c5892d817f85d3f438e7e7b83d06e73f3ba2cb6f0"), looks := false }, kinds := [], alts := [], laidByText := true, laidKinds := [.data, .pinned], laidTests := true, laidLooks := .later }
def VaultStaysCardSaid : Prop := Claim7.holds Tryd.pinned (.plain (OpenSpec.ofChange vaultStaysSpec)) vaultStaysCard

/-- THE TIED CARD OF 'watershedlaw16.VaultWhole'. -/
def vaultWholeCard : Claim7 := { stood := { row := vaultWholeRow, standIns := [], harness := (true, "df198a8ba6e19278d8af0c8c5892d817f85d3f438e7e7b83d06e73f3ba2cb6f0"), looks := false }, kinds := [], alts := [], laidByText := true, laidKinds := [.data, .pinned], laidTests := true, laidLooks := .later }
def VaultWholeCardSaid : Prop := Claim7.holds Tryd.pinned (.plain (OpenSpec.ofChange vaultWholeSpec)) vaultWholeCard

/-- THE TIED CARD OF 'watershedlaw16.VaultApart'. -/
def vaultApartCard : Claim7 := { stood := { row := vaultApartRow, standIns := [], harness := (true, "df198a8ba6e19278d8af0c8c5892d817f85d3f438e7e7b83d06e73f3ba2cb6f0"), looks := false }, kinds := [], alts := [], laidByText := true, laidKinds := [.data, .pinned], laidTests := true, laidLooks := .later }
def VaultApartCardSaid : Prop := Claim7.holds Tryd.pinned (.plain (OpenSpec.ofChange vaultApartSpec)) vaultApartCard

/-- THE TIED CARD OF 'watershedlaw16.VaultNil'. -/
def vaultNilCard : Claim7 := { stood := { row := vaultNilRow, standIns := [], harness := (true, "df198a8ba6e19278d8af0c8c5892d817f85d3f438e7e7b83d06e73f3ba2cb6f0"), looks := false }, kinds := [], alts := [], laidByText := true, laidKinds := [.data, .pinned], laidTests := true, laidLooks := .later }
def VaultNilCardSaid : Prop := Claim7.holds Tryd.pinned (.plain (OpenSpec.ofChange vaultNilSpec)) vaultNilCard

/-- THE SECOND FORM's CARD OF 'watershedlaw16.VaultStays'. -/
def vaultStaysUptoCard : Claim7 := { stood := { row := vaultStaysUptoRow, standIns := [], harness := (true, "df198a8ba6e19278d8af0c8c5892d817f85d3f438e7e7b83d06e73f3ba2cb6f0"), looks := false }, kinds := [], alts := [], laidByText := true, laidKinds := [.data, .pinned], laidTests := true, laidLooks := .later }
def VaultStaysUptoCardSaid : Prop := Claim7.holds Tryd.pinned (.plain (OpenSpec.upto vaultStaysSpec)) vaultStaysUptoCard

/-- THE SECOND FORM's CARD OF 'watershedlaw16.VaultWhole'. -/
def vaultWholeUptoCard : Claim7 := { stood := { row := vaultWholeUptoRow, standIns := [], harness := (true, "df198a8ba6e19278d8af0c8c5892d817f85d3f438e7e7b83d06e73f3ba2cb6f0"), looks := false }, kinds := [], alts := [], laidByText := true, laidKinds := [.data, .pinned], laidTests := true, laidLooks := .later }
def VaultWholeUptoCardSaid : Prop := Claim7.holds Tryd.pinned (.plain (OpenSpec.upto vaultWholeSpec)) vaultWholeUptoCard

/-- THE SECOND FORM's CARD OF 'watershedlaw16.VaultApart'. -/
def vaultApartUptoCard : Claim7 := { stood := { row := vaultApartUptoRow, standIns := [], harness := (true, "df198a8ba6e19278d8af0c8c5892d817f85d3f438e7e7b83d06e73f3ba2cb6f0"), looks := false }, kinds := [], alts := [], laidByText := true, laidKinds := [.data, .pinned], laidTests := true, laidLooks := .later }
def VaultApartUptoCardSaid : Prop := Claim7.holds Tryd.pinned (.plain (OpenSpec.upto vaultApartSpec)) vaultApartUptoCard

/-- THE SECOND FORM's CARD OF 'watershedlaw16.VaultNil'. -/
def vaultNilUptoCard : Claim7 := { stood := { row := vaultNilUptoRow, standIns := [], harness := (true, "df198a8ba6e19278d8af0c8c5892d817f85d3f438e7e7b83d06e73f3ba2cb6f0"), looks := false }, kinds := [], alts := [], laidByText := true, laidKinds := [.data, .pinned], laidTests := true, laidLooks := .later }
def VaultNilUptoCardSaid : Prop := Claim7.holds Tryd.pinned (.plain (OpenSpec.upto vaultNilSpec)) vaultNilUptoCard
end Rows
end Go.Proofs.YthljpljbpbkkcaaDoor
