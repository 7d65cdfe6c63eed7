/-
  DERIVED. GIVEN WITH THE SEED: THE CARDS: each row of YthljpljbpbkkcaaGreatDoorRows.lean that lists a variable, with what it lists TIED to the program's text (the seventh form; the later family's looks); each row that meets fmt, with fmt's text TOLD by the authors' own Lean function (tested against real Go, not proved from fmt's source: count such statements apart). THE CARD IS WHAT COUNTS. Prove the row's statement (the work); the ties are given (YthljpljbpbkkcaaGreatDoorTie.lean); close each card by the builder's one call (the guide's Derived/Test/ToyasCard.lean, 'card_holds'). Laid BY PROGRAM, IN A SANDBOX (cutbox-door.mjs). By AI agents, Wed Nov 11 2026. No macro, syntax, notation, axiom, sorry.
-/
import Derived.Test.YthljpljbpbkkcaaGreatDoorRows
import GoSem.ClaimSeven
namespace Go.Proofs.YthljpljbpbkkcaaGreatDoor
namespace Rows

/-- THE TIED CARD OF 'watershedlaw16.VaultOpens'. -/
def vaultOpensCard : Claim7 := { stood := { row := vaultOpensRow, standIns := [], harness := (true, "f0fb3187698fce7428f11615ee4cb277a8c0473e443be398c01c38f8cbda0a58"), looks := false }, kinds := [], alts := [], laidByText := true, laidKinds := [.data, .pinned], laidTests := true, laidLooks := .later }
def VaultOpensCardSaid : Prop := Claim7.holds Tryz.pinned (.plain (OpenSpec.ofChange vaultOpensSpec)) vaultOpensCard

/-- THE TIED CARD OF 'watershedlaw16.VaultLasts'. -/
def vaultLastsCard : Claim7 := { stood := { row := vaultLastsRow, standIns := [], harness := (true, "f0fb3187698fce7428f11615ee4cb277a8c0473e443be398c01c38f8cbda0a58"), looks := false }, kinds := [], alts := [], laidByText := true, laidKinds := [.data, .pinned], laidTests := true, laidLooks := .later }
def VaultLastsCardSaid : Prop := Claim7.holds Tryz.pinned (.plain (OpenSpec.ofChange vaultLastsSpec)) vaultLastsCard

/-- THE TIED CARD OF 'watershedlaw16.VaultDoes'. -/
def vaultDoesCard : Claim7 := { stood := { row := vaultDoesRow, standIns := [], harness := (true, "f0fb3187698fce7428f11615ee4cb277a8c0473e443be398c01c38f8cbda0a58"), looks := false }, kinds := [], alts := [], laidByText := true, laidKinds := [.data, .pinned], laidTests := true, laidLooks := .later }
def VaultDoesCardSaid : Prop := Claim7.holds Tryz.pinned (.plain (OpenSpec.ofChange vaultDoesSpec)) vaultDoesCard

/-- THE SECOND FORM's CARD OF 'watershedlaw16.VaultOpens'. -/
def vaultOpensUptoCard : Claim7 := { stood := { row := vaultOpensUptoRow, standIns := [], harness := (true, "f0fb3187698fce7428f11615ee4cb277a8c0473e443be398c01c38f8cbda0a58"), looks := false }, kinds := [], alts := [], laidByText := true, laidKinds := [.data, .pinned], laidTests := true, laidLooks := .later }
def VaultOpensUptoCardSaid : Prop := Claim7.holds Tryz.pinned (.plain (OpenSpec.upto vaultOpensSpec)) vaultOpensUptoCard

/-- THE SECOND FORM's CARD OF 'watershedlaw16.VaultLasts'. -/
def vaultLastsUptoCard : Claim7 := { stood := { row := vaultLastsUptoRow, standIns := [], harness := (true, "f0fb3187698fce7428f11615ee4cb277a8c0473e443be398c01c38f8cbda0a58"), looks := false }, kinds := [], alts := [], laidByText := true, laidKinds := [.data, .pinned], laidTests := true, laidLooks := .later }
def VaultLastsUptoCardSaid : Prop := Claim7.holds Tryz.pinned (.plain (OpenSpec.upto vaultLastsSpec)) vaultLastsUptoCard

/-- THE SECOND FORM's CARD OF 'watershedlaw16.VaultDoes'. -/
def vaultDoesUptoCard : Claim7 := { stood := { row := vaultDoesUptoRow, standIns := [], harness := (true, "f0fb3187698fce7428f11615ee4cb277a8c0473e443be398c01c38f8cbda0a58"), looks := false }, kinds := [], alts := [], laidByText := true, laidKinds := [.data, .pinned], laidTests := true, laidLooks := .later }
def VaultDoesUptoCardSaid : Prop := Claim7.holds Tryz.pinned (.plain (OpenSpec.upto vaultDoesSpec)) vaultDoesUptoCard
end Rows
end Go.Proofs.YthljpljbpbkkcaaGreatDoor
