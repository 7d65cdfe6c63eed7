/-
  No cell of these rows narrows 'for every input' (looked for: loops, veiled, ifaces, maps, wideKeys, modest, calm, conditions, laid).
  DERIVED. THE GIVEN ROWS OF THIS SEAT. 5 by the template 'for every input the law returns true; each argument reads behind the call as it read before'; 0 by the template 'total and deterministic' (their statements: YtephlppgappcnaaTotals.lean).
  GIVEN WITH THE SEED: the statements are not yours to turn. If you find one false, say at which input.
  Laid BY PROGRAM, IN A SANDBOX (cutbox-rows.mjs): the forced cells as the released guide's own fill.sh prints them over the translation f1b94da8e271af8d… (all of the seat's roots in one cut). By AI agents, Wed Nov 11 2026. No macro, syntax, notation, axiom, sorry.
-/
import Derived.Test.YtephlppgappcnaaChecked
import GoSem.Claim
import GoSem.ClaimJoined
import GoSem.ClaimMapViews
import Derived.JoinedTies
import Derived.KernelRfl
namespace Go.Proofs.Ytephlppgappcnaa
/- THE CELL 'sum', in the pinned program and in every row, IS THE sha256 OF THE DUMP (.gsa) THAT YtephlppgappcnaaProg.lean LOADS. Nothing in Lean hashes anything: it is a label: what it is worth is what the hold of that sum in a sandbox is worth. -/
noncomputable def Try.pinned : Pinned := { name := "ytephlppgappcnaa", sum := "f1b94da8e271af8d6dfe68f23f811413466d4abb7c8c0213ae713d7e6d3d37ab", checked := Try.checked }
namespace Rows
def none {H : Type} : Left H := { results := [], args := [] }

/-- 'watershedlaw03.JournalAny': WHATEVER THE INPUT: true; the input reads as it did. -/
def journalAnySpec : ChangeSpec := { name := "journalAny", fn := fun _ => fun
  | [d1, d2] => { results := [.lit (.bool true)], args := [d1, d2] }
  | _ => none }
def journalAnyRow : OpenClaim := { program := "ytephlppgappcnaa", sum := "f1b94da8e271af8d6dfe68f23f811413466d4abb7c8c0213ae713d7e6d3d37ab", func := "watershed/watershedlaw03.JournalAny", spec := "journalAny", unfollowed := true, recurses := true, apart := false }
def JournalAnySaid : Prop := journalAnyRow.holds Try.pinned (OpenSpec.ofChange journalAnySpec)

/-- ITS FALSE NEIGHBOUR: 'it returns false'. Refute it at one input. -/
def journalAnyWrong : ChangeSpec := { name := "journalAny", fn := fun _ => fun
  | [d1, d2] => { results := [.lit (.bool false)], args := [d1, d2] }
  | _ => none }
def JournalAnyWrongFalsely : Prop := journalAnyRow.holds Try.pinned (OpenSpec.ofChange journalAnyWrong)

/-- 'watershedlaw03.JournalReads': WHATEVER THE INPUT: true; the input reads as it did. -/
def journalReadsSpec : ChangeSpec := { name := "journalReads", fn := fun _ => fun
  | [d] => { results := [.lit (.bool true)], args := [d] }
  | _ => none }
def journalReadsRow : OpenClaim := { program := "ytephlppgappcnaa", sum := "f1b94da8e271af8d6dfe68f23f811413466d4abb7c8c0213ae713d7e6d3d37ab", func := "watershed/watershedlaw03.JournalReads", spec := "journalReads", unfollowed := true, recurses := true, apart := false }
def JournalReadsSaid : Prop := journalReadsRow.holds Try.pinned (OpenSpec.ofChange journalReadsSpec)

/-- ITS FALSE NEIGHBOUR: 'it returns false'. Refute it at one input. -/
def journalReadsWrong : ChangeSpec := { name := "journalReads", fn := fun _ => fun
  | [d] => { results := [.lit (.bool false)], args := [d] }
  | _ => none }
def JournalReadsWrongFalsely : Prop := journalReadsRow.holds Try.pinned (OpenSpec.ofChange journalReadsWrong)

/-- 'watershedlaw03.JournalNil': WHATEVER THE INPUT: true; the input reads as it did. -/
def journalNilSpec : ChangeSpec := { name := "journalNil", fn := fun _ => fun
  | [d] => { results := [.lit (.bool true)], args := [d] }
  | _ => none }
def journalNilRow : OpenClaim := { program := "ytephlppgappcnaa", sum := "f1b94da8e271af8d6dfe68f23f811413466d4abb7c8c0213ae713d7e6d3d37ab", func := "watershed/watershedlaw03.JournalNil", spec := "journalNil", unfollowed := true, recurses := true, apart := false }
def JournalNilSaid : Prop := journalNilRow.holds Try.pinned (OpenSpec.ofChange journalNilSpec)

/-- ITS FALSE NEIGHBOUR: 'it returns false'. Refute it at one input. -/
def journalNilWrong : ChangeSpec := { name := "journalNil", fn := fun _ => fun
  | [d] => { results := [.lit (.bool false)], args := [d] }
  | _ => none }
def JournalNilWrongFalsely : Prop := journalNilRow.holds Try.pinned (OpenSpec.ofChange journalNilWrong)

/-- 'watershedlaw03.JournalAll': WHATEVER THE INPUT: true; the input reads as it did. -/
def journalAllSpec : ChangeSpec := { name := "journalAll", fn := fun _ => fun
  | [d1, d2, d3, d4] => { results := [.lit (.bool true)], args := [d1, d2, d3, d4] }
  | _ => none }
def journalAllRow : OpenClaim := { program := "ytephlppgappcnaa", sum := "f1b94da8e271af8d6dfe68f23f811413466d4abb7c8c0213ae713d7e6d3d37ab", func := "watershed/watershedlaw03.JournalAll", spec := "journalAll", unfollowed := true, recurses := true, apart := false }
def JournalAllSaid : Prop := journalAllRow.holds Try.pinned (OpenSpec.ofChange journalAllSpec)

/-- ITS FALSE NEIGHBOUR: 'it returns false'. Refute it at one input. -/
def journalAllWrong : ChangeSpec := { name := "journalAll", fn := fun _ => fun
  | [d1, d2, d3, d4] => { results := [.lit (.bool false)], args := [d1, d2, d3, d4] }
  | _ => none }
def JournalAllWrongFalsely : Prop := journalAllRow.holds Try.pinned (OpenSpec.ofChange journalAllWrong)

/-- 'watershedlaw03.JournalDoes': WHATEVER THE INPUT: true; the input reads as it did. -/
def journalDoesSpec : ChangeSpec := { name := "journalDoes", fn := fun _ => fun
  | [d] => { results := [.lit (.bool true)], args := [d] }
  | _ => none }
def journalDoesRow : OpenClaim := { program := "ytephlppgappcnaa", sum := "f1b94da8e271af8d6dfe68f23f811413466d4abb7c8c0213ae713d7e6d3d37ab", func := "watershed/watershedlaw03.JournalDoes", spec := "journalDoes", unfollowed := true, recurses := true, apart := false }
def JournalDoesSaid : Prop := journalDoesRow.holds Try.pinned (OpenSpec.ofChange journalDoesSpec)

/-- ITS FALSE NEIGHBOUR: 'it returns false'. Refute it at one input. -/
def journalDoesWrong : ChangeSpec := { name := "journalDoes", fn := fun _ => fun
  | [d] => { results := [.lit (.bool false)], args := [d] }
  | _ => none }
def JournalDoesWrongFalsely : Prop := journalDoesRow.holds Try.pinned (OpenSpec.ofChange journalDoesWrong)

/- THE SECOND FORM. 'bulk': how many values and letters a reading holds, each counted each time it is reached (what is shared counts as often as it is met; a slice's spare places count too). A statement '..UptoSaid' is the law's where the arguments, and the package variables that the reading takes, are together of bulk at most 1048576: NARROWER than '..Said'. Prove '..Said' where nothing that the law and all that it calls make is longer than what came in: it says more and counts as full. Else prove '..UptoSaid'. A law counts once. -/
mutual
def uptoBulk {H : Type} : DataW H → Nat
  | .lit (.string bytes) => bytes.length + 1
  | .lit _ => 1
  | .nil => 1
  | .ptr d => uptoBulk d + 1
  | .slice elems spare => uptoBulkAll elems + uptoBulkAll spare + 1
  | .agg parts => uptoBulkAll parts + 1
  | .iface _ d => uptoBulk d + 1
  | .map entries => uptoBulkEntries entries + 1
  | .held _ => 1
def uptoBulkAll {H : Type} : List (DataW H) → Nat
  | [] => 0
  | d :: r => uptoBulk d + uptoBulkAll r
def uptoBulkEntries {H : Type} : List (Lit × DataW H) → Nat
  | [] => 0
  | x :: r => uptoBulkEntry x + uptoBulkEntries r
def uptoBulkEntry {H : Type} : Lit × DataW H → Nat
  | (.string bytes, d) => bytes.length + uptoBulk d + 1
  | (_, d) => uptoBulk d + 1
 end
def uptoSmall : (H : Type) → List (DataW H) → Bool := fun _ ds => decide (uptoBulkAll ds ≤ 1048576)
def OpenSpec.upto (s : _root_.Go.ChangeSpec) : _root_.Go.OpenSpec := { _root_.Go.OpenSpec.ofChange s with cond := some uptoSmall }

/-- 'watershedlaw03.JournalAny', WHERE WHAT IT READS IS OF BULK AT MOST 1048576: true; the input reads as it did. -/
def journalAnyUptoRow : OpenClaim := { program := "ytephlppgappcnaa", sum := "f1b94da8e271af8d6dfe68f23f811413466d4abb7c8c0213ae713d7e6d3d37ab", func := "watershed/watershedlaw03.JournalAny", spec := "journalAny", unfollowed := true, recurses := true, apart := false, narrowed := true }
def JournalAnyUptoSaid : Prop := journalAnyUptoRow.holds Try.pinned (OpenSpec.upto journalAnySpec)

/-- 'watershedlaw03.JournalReads', WHERE WHAT IT READS IS OF BULK AT MOST 1048576: true; the input reads as it did. -/
def journalReadsUptoRow : OpenClaim := { program := "ytephlppgappcnaa", sum := "f1b94da8e271af8d6dfe68f23f811413466d4abb7c8c0213ae713d7e6d3d37ab", func := "watershed/watershedlaw03.JournalReads", spec := "journalReads", unfollowed := true, recurses := true, apart := false, narrowed := true }
def JournalReadsUptoSaid : Prop := journalReadsUptoRow.holds Try.pinned (OpenSpec.upto journalReadsSpec)

/-- 'watershedlaw03.JournalNil', WHERE WHAT IT READS IS OF BULK AT MOST 1048576: true; the input reads as it did. -/
def journalNilUptoRow : OpenClaim := { program := "ytephlppgappcnaa", sum := "f1b94da8e271af8d6dfe68f23f811413466d4abb7c8c0213ae713d7e6d3d37ab", func := "watershed/watershedlaw03.JournalNil", spec := "journalNil", unfollowed := true, recurses := true, apart := false, narrowed := true }
def JournalNilUptoSaid : Prop := journalNilUptoRow.holds Try.pinned (OpenSpec.upto journalNilSpec)

/-- 'watershedlaw03.JournalAll', WHERE WHAT IT READS IS OF BULK AT MOST 1048576: true; the input reads as it did. -/
def journalAllUptoRow : OpenClaim := { program := "ytephlppgappcnaa", sum := "f1b94da8e271af8d6dfe68f23f811413466d4abb7c8c0213ae713d7e6d3d37ab", func := "watershed/watershedlaw03.JournalAll", spec := "journalAll", unfollowed := true, recurses := true, apart := false, narrowed := true }
def JournalAllUptoSaid : Prop := journalAllUptoRow.holds Try.pinned (OpenSpec.upto journalAllSpec)

/-- 'watershedlaw03.JournalDoes', WHERE WHAT IT READS IS OF BULK AT MOST 1048576: true; the input reads as it did. -/
def journalDoesUptoRow : OpenClaim := { program := "ytephlppgappcnaa", sum := "f1b94da8e271af8d6dfe68f23f811413466d4abb7c8c0213ae713d7e6d3d37ab", func := "watershed/watershedlaw03.JournalDoes", spec := "journalDoes", unfollowed := true, recurses := true, apart := false, narrowed := true }
def JournalDoesUptoSaid : Prop := journalDoesUptoRow.holds Try.pinned (OpenSpec.upto journalDoesSpec)

end Rows
end Go.Proofs.Ytephlppgappcnaa
