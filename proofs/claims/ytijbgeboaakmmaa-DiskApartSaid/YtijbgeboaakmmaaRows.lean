/-
  No cell of these rows narrows 'for every input' (looked for: loops, veiled, ifaces, maps, wideKeys, modest, calm, conditions, laid).
  DERIVED. THE GIVEN ROWS OF THIS SEAT. 6 by the template 'for every input the law returns true; each argument reads behind the call as it read before'; 0 by the template 'total and deterministic' (their statements: YtijbgeboaakmmaaTotals.lean).
  GIVEN WITH THE SEED: the statements are not yours to turn. If you find one false, say at which input.
  Laid BY PROGRAM, IN A SANDBOX (cutbox-rows.mjs): the forced cells as the released guide's own fill.sh prints them over the translation 87b5d123ae21c439… (all of the seat's roots in one cut). By AI agents, Wed Nov 11 2026. No macro, syntax, notation, axiom, sorry.
-/
import Derived.Test.YtijbgeboaakmmaaChecked
import GoSem.Claim
import GoSem.ClaimJoined
import GoSem.ClaimMapViews
import Derived.JoinedTies
import Derived.KernelRfl
namespace Go.Proofs.Ytijbgeboaakmmaa
/- THE CELL 'sum', in the pinned program and in every row, IS THE sha256 OF THE DUMP (.gsa) THAT YtijbgeboaakmmaaProg.lean LOADS. Nothing in Lean hashes anything: it is a label: what it is worth is what the hold of that sum in a sandbox is worth. -/
noncomputable def Try.pinned : Pinned := { name := "ytijbgeboaakmmaa", sum := "87b5d123ae21c439ca3692912859c2b8d10ff009abc1e9011827ffb72e0d68f6", checked := Try.checked }
namespace Rows
def none {H : Type} : Left H := { results := [], args := [] }

/-- 'watershedlaw02.DiskSafe': WHATEVER THE INPUT: true; the input reads as it did. -/
def diskSafeSpec : ChangeSpec := { name := "diskSafe", fn := fun _ => fun
  | [d1, d2, d3] => { results := [.lit (.bool true)], args := [d1, d2, d3] }
  | _ => none }
def diskSafeRow : OpenClaim := { program := "ytijbgeboaakmmaa", sum := "87b5d123ae21c439ca3692912859c2b8d10ff009abc1e9011827ffb72e0d68f6", func := "watershed/watershedlaw02.DiskSafe", spec := "diskSafe", unfollowed := true, recurses := true, apart := false }
def DiskSafeSaid : Prop := diskSafeRow.holds Try.pinned (OpenSpec.ofChange diskSafeSpec)

/-- ITS FALSE NEIGHBOUR: 'it returns false'. Refute it at one input. -/
def diskSafeWrong : ChangeSpec := { name := "diskSafe", fn := fun _ => fun
  | [d1, d2, d3] => { results := [.lit (.bool false)], args := [d1, d2, d3] }
  | _ => none }
def DiskSafeWrongFalsely : Prop := diskSafeRow.holds Try.pinned (OpenSpec.ofChange diskSafeWrong)

/-- 'watershedlaw02.DiskNames': WHATEVER THE INPUT: true; the input reads as it did. -/
def diskNamesSpec : ChangeSpec := { name := "diskNames", fn := fun _ => fun
  | [d] => { results := [.lit (.bool true)], args := [d] }
  | _ => none }
def diskNamesRow : OpenClaim := { program := "ytijbgeboaakmmaa", sum := "87b5d123ae21c439ca3692912859c2b8d10ff009abc1e9011827ffb72e0d68f6", func := "watershed/watershedlaw02.DiskNames", spec := "diskNames", unfollowed := true, recurses := true, apart := false }
def DiskNamesSaid : Prop := diskNamesRow.holds Try.pinned (OpenSpec.ofChange diskNamesSpec)

/-- ITS FALSE NEIGHBOUR: 'it returns false'. Refute it at one input. -/
def diskNamesWrong : ChangeSpec := { name := "diskNames", fn := fun _ => fun
  | [d] => { results := [.lit (.bool false)], args := [d] }
  | _ => none }
def DiskNamesWrongFalsely : Prop := diskNamesRow.holds Try.pinned (OpenSpec.ofChange diskNamesWrong)

/-- 'watershedlaw02.DiskDoes': WHATEVER THE INPUT: true; the input reads as it did. -/
def diskDoesSpec : ChangeSpec := { name := "diskDoes", fn := fun _ => fun
  | [d] => { results := [.lit (.bool true)], args := [d] }
  | _ => none }
def diskDoesRow : OpenClaim := { program := "ytijbgeboaakmmaa", sum := "87b5d123ae21c439ca3692912859c2b8d10ff009abc1e9011827ffb72e0d68f6", func := "watershed/watershedlaw02.DiskDoes", spec := "diskDoes", unfollowed := true, recurses := true, apart := false }
def DiskDoesSaid : Prop := diskDoesRow.holds Try.pinned (OpenSpec.ofChange diskDoesSpec)

/-- ITS FALSE NEIGHBOUR: 'it returns false'. Refute it at one input. -/
def diskDoesWrong : ChangeSpec := { name := "diskDoes", fn := fun _ => fun
  | [d] => { results := [.lit (.bool false)], args := [d] }
  | _ => none }
def DiskDoesWrongFalsely : Prop := diskDoesRow.holds Try.pinned (OpenSpec.ofChange diskDoesWrong)

/-- 'watershedlaw02.DiskStops': WHATEVER THE INPUT: true; the input reads as it did. -/
def diskStopsSpec : ChangeSpec := { name := "diskStops", fn := fun _ => fun
  | [d1, d2, d3] => { results := [.lit (.bool true)], args := [d1, d2, d3] }
  | _ => none }
def diskStopsRow : OpenClaim := { program := "ytijbgeboaakmmaa", sum := "87b5d123ae21c439ca3692912859c2b8d10ff009abc1e9011827ffb72e0d68f6", func := "watershed/watershedlaw02.DiskStops", spec := "diskStops", unfollowed := true, recurses := true, apart := false }
def DiskStopsSaid : Prop := diskStopsRow.holds Try.pinned (OpenSpec.ofChange diskStopsSpec)

/-- ITS FALSE NEIGHBOUR: 'it returns false'. Refute it at one input. -/
def diskStopsWrong : ChangeSpec := { name := "diskStops", fn := fun _ => fun
  | [d1, d2, d3] => { results := [.lit (.bool false)], args := [d1, d2, d3] }
  | _ => none }
def DiskStopsWrongFalsely : Prop := diskStopsRow.holds Try.pinned (OpenSpec.ofChange diskStopsWrong)

/-- 'watershedlaw02.DiskApart': WHATEVER THE INPUT: true; the input reads as it did. -/
def diskApartSpec : ChangeSpec := { name := "diskApart", fn := fun _ => fun
  | [d1, d2] => { results := [.lit (.bool true)], args := [d1, d2] }
  | _ => none }
def diskApartRow : OpenClaim := { program := "ytijbgeboaakmmaa", sum := "87b5d123ae21c439ca3692912859c2b8d10ff009abc1e9011827ffb72e0d68f6", func := "watershed/watershedlaw02.DiskApart", spec := "diskApart", unfollowed := true, recurses := true, apart := false }
def DiskApartSaid : Prop := diskApartRow.holds Try.pinned (OpenSpec.ofChange diskApartSpec)

/-- ITS FALSE NEIGHBOUR: 'it returns false'. Refute it at one input. -/
def diskApartWrong : ChangeSpec := { name := "diskApart", fn := fun _ => fun
  | [d1, d2] => { results := [.lit (.bool false)], args := [d1, d2] }
  | _ => none }
def DiskApartWrongFalsely : Prop := diskApartRow.holds Try.pinned (OpenSpec.ofChange diskApartWrong)

/-- 'watershedlaw02.DiskNil': WHATEVER THE INPUT: true; the input reads as it did. -/
def diskNilSpec : ChangeSpec := { name := "diskNil", fn := fun _ => fun
  | [d1, d2, d3] => { results := [.lit (.bool true)], args := [d1, d2, d3] }
  | _ => none }
def diskNilRow : OpenClaim := { program := "ytijbgeboaakmmaa", sum := "87b5d123ae21c439ca3692912859c2b8d10ff009abc1e9011827ffb72e0d68f6", func := "watershed/watershedlaw02.DiskNil", spec := "diskNil", unfollowed := true, recurses := true, apart := false }
def DiskNilSaid : Prop := diskNilRow.holds Try.pinned (OpenSpec.ofChange diskNilSpec)

/-- ITS FALSE NEIGHBOUR: 'it returns false'. Refute it at one input. -/
def diskNilWrong : ChangeSpec := { name := "diskNil", fn := fun _ => fun
  | [d1, d2, d3] => { results := [.lit (.bool false)], args := [d1, d2, d3] }
  | _ => none }
def DiskNilWrongFalsely : Prop := diskNilRow.holds Try.pinned (OpenSpec.ofChange diskNilWrong)

/- THE SECOND FORM. 'bulk': how many values and letters a reading holds, each counted each time it is reached (what is shared counts as often as it is met; a slice's spare places count too). A statement '..UptoSaid' is the law's where the arguments, and the package variables that the reading takes, are together of bulk at most 1048576: NARROWER than '..Said'. Prove '..Said' where nothing that the law and all that it calls make is longer than what came in: it says more and counts as full. Else prove '..UptoSaid'. A law counts once. -/
mutual
def uptoBulk {H : Type} : DataW H → Nat
  | .lit (.string bytes) => bytes.length + 1
  | .lit _ => 1
  | .nil => 1
  | .ptr d => uptoBulk d + 1
  | .slice elems spare => uptoBulkAll elems + uptoBulkAll spare + 1
  | .agg parts => uptoBulkAll parts + 1
  | .iface _ d => uptoBulk d + 1
  | .map entries => uptoBulkEntries entries + 1
  | .held _ => 1
def uptoBulkAll {H : Type} : List (DataW H) → Nat
  | [] => 0
  | d :: r => uptoBulk d + uptoBulkAll r
def uptoBulkEntries {H : Type} : List (Lit × DataW H) → Nat
  | [] => 0
  | x :: r => uptoBulkEntry x + uptoBulkEntries r
def uptoBulkEntry {H : Type} : Lit × DataW H → Nat
  | (.string bytes, d) => bytes.length + uptoBulk d + 1
  | (_, d) => uptoBulk d + 1
 end
def uptoSmall : (H : Type) → List (DataW H) → Bool := fun _ ds => decide (uptoBulkAll ds ≤ 1048576)
def OpenSpec.upto (s : _root_.Go.ChangeSpec) : _root_.Go.OpenSpec := { _root_.Go.OpenSpec.ofChange s with cond := some uptoSmall }

/-- 'watershedlaw02.DiskSafe', WHERE WHAT IT READS IS OF BULK AT MOST 1048576: true; the input reads as it did. -/
def diskSafeUptoRow : OpenClaim := { program := "ytijbgeboaakmmaa", sum := "87b5d123ae21c439ca3692912859c2b8d10ff009abc1e9011827ffb72e0d68f6", func := "watershed/watershedlaw02.DiskSafe", spec := "diskSafe", unfollowed := true, recurses := true, apart := false, narrowed := true }
def DiskSafeUptoSaid : Prop := diskSafeUptoRow.holds Try.pinned (OpenSpec.upto diskSafeSpec)

/-- 'watershedlaw02.DiskNames', WHERE WHAT IT READS IS OF BULK AT MOST 1048576: true; the input reads as it did. -/
def diskNamesUptoRow : OpenClaim := { program := "ytijbgeboaakmmaa", sum := "87b5d123ae21c439ca3692912859c2b8d10ff009abc1e9011827ffb72e0d68f6", func := "watershed/watershedlaw02.DiskNames", spec := "diskNames", unfollowed := true, recurses := true, apart := false, narrowed := true }
def DiskNamesUptoSaid : Prop := diskNamesUptoRow.holds Try.pinned (OpenSpec.upto diskNamesSpec)

/-- 'watershedlaw02.DiskDoes', WHERE WHAT IT READS IS OF BULK AT MOST 1048576: true; the input reads as it did. -/
def diskDoesUptoRow : OpenClaim := { program := "ytijbgeboaakmmaa", sum := "87b5d123ae21c439ca3692912859c2b8d10ff009abc1e9011827ffb72e0d68f6", func := "watershed/watershedlaw02.DiskDoes", spec := "diskDoes", unfollowed := true, recurses := true, apart := false, narrowed := true }
def DiskDoesUptoSaid : Prop := diskDoesUptoRow.holds Try.pinned (OpenSpec.upto diskDoesSpec)

/-- 'watershedlaw02.DiskStops', WHERE WHAT IT READS IS OF BULK AT MOST 1048576: true; the input reads as it did. -/
def diskStopsUptoRow : OpenClaim := { program := "ytijbgeboaakmmaa", sum := "87b5d123ae21c439ca3692912859c2b8d10ff009abc1e9011827ffb72e0d68f6", func := "watershed/watershedlaw02.DiskStops", spec := "diskStops", unfollowed := true, recurses := true, apart := false, narrowed := true }
def DiskStopsUptoSaid : Prop := diskStopsUptoRow.holds Try.pinned (OpenSpec.upto diskStopsSpec)

/-- 'watershedlaw02.DiskApart', WHERE WHAT IT READS IS OF BULK AT MOST 1048576: true; the input reads as it did. -/
def diskApartUptoRow : OpenClaim := { program := "ytijbgeboaakmmaa", sum := "87b5d123ae21c439ca3692912859c2b8d10ff009abc1e9011827ffb72e0d68f6", func := "watershed/watershedlaw02.DiskApart", spec := "diskApart", unfollowed := true, recurses := true, apart := false, narrowed := true }
def DiskApartUptoSaid : Prop := diskApartUptoRow.holds Try.pinned (OpenSpec.upto diskApartSpec)

/-- 'watershedlaw02.DiskNil', WHERE WHAT IT READS IS OF BULK AT MOST 1048576: true; the input reads as it did. -/
def diskNilUptoRow : OpenClaim := { program := "ytijbgeboaakmmaa", sum := "87b5d123ae21c439ca3692912859c2b8d10ff009abc1e9011827ffb72e0d68f6", func := "watershed/watershedlaw02.DiskNil", spec := "diskNil", unfollowed := true, recurses := true, apart := false, narrowed := true }
def DiskNilUptoSaid : Prop := diskNilUptoRow.holds Try.pinned (OpenSpec.upto diskNilSpec)

end Rows
end Go.Proofs.Ytijbgeboaakmmaa
