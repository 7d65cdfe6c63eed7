/-
  No cell of these rows narrows 'for every input' (looked for: loops, veiled, ifaces, maps, wideKeys, modest, calm, conditions, laid).
  DERIVED. THE GIVEN ROWS OF THIS SEAT. 5 by the template 'for every input the law returns true; each argument reads behind the call as it read before'; 0 by the template 'total and deterministic' (their statements: YtekoilhjlofncaaTotals.lean).
  GIVEN WITH THE SEED: the statements are not yours to turn. If you find one false, say at which input.
  Laid BY PROGRAM, IN A SANDBOX (cutbox-rows.mjs): the forced cells as the released guide's own fill.sh prints them over the translation 446ad40baffb1819… (all of the seat's roots in one cut). By AI agents, Wed Nov 11 2026. No macro, syntax, notation, axiom, sorry.
-/
import Derived.Test.YtekoilhjlofncaaChecked
import GoSem.Claim
import GoSem.ClaimJoined
import GoSem.ClaimMapViews
import Derived.JoinedTies
import Derived.KernelRfl
namespace Go.Proofs.Ytekoilhjlofncaa
/- THE CELL 'sum', in the pinned program and in every row, IS THE sha256 OF THE DUMP (.gsa) THAT YtekoilhjlofncaaProg.lean LOADS. Nothing in Lean hashes anything: it is a label: what it is worth is what the hold of that sum in a sandbox is worth. -/
noncomputable def Try.pinned : Pinned := { name := "ytekoilhjlofncaa", sum := "446ad40baffb18199b6ccb66a4e8052c0f1a5cde9a390516f1aca2a049fd5de5", checked := Try.checked }
namespace Rows
def none {H : Type} : Left H := { results := [], args := [] }

/-- 'watershedlaw19.RaftDoes': WHATEVER THE INPUT: true; the input reads as it did. -/
def raftDoesSpec : ChangeSpec := { name := "raftDoes", fn := fun _ => fun
  | [d1, d2, d3, d4] => { results := [.lit (.bool true)], args := [d1, d2, d3, d4] }
  | _ => none }
def raftDoesRow : OpenClaim := { program := "ytekoilhjlofncaa", sum := "446ad40baffb18199b6ccb66a4e8052c0f1a5cde9a390516f1aca2a049fd5de5", func := "watershed/watershedlaw19.RaftDoes", spec := "raftDoes", unfollowed := true, recurses := true, apart := false }
def RaftDoesSaid : Prop := raftDoesRow.holds Try.pinned (OpenSpec.ofChange raftDoesSpec)

/-- ITS FALSE NEIGHBOUR: 'it returns false'. Refute it at one input. -/
def raftDoesWrong : ChangeSpec := { name := "raftDoes", fn := fun _ => fun
  | [d1, d2, d3, d4] => { results := [.lit (.bool false)], args := [d1, d2, d3, d4] }
  | _ => none }
def RaftDoesWrongFalsely : Prop := raftDoesRow.holds Try.pinned (OpenSpec.ofChange raftDoesWrong)

/-- 'watershedlaw19.RaftSafe': WHATEVER THE INPUT: true; the input reads as it did. -/
def raftSafeSpec : ChangeSpec := { name := "raftSafe", fn := fun _ => fun
  | [d1, d2] => { results := [.lit (.bool true)], args := [d1, d2] }
  | _ => none }
def raftSafeRow : OpenClaim := { program := "ytekoilhjlofncaa", sum := "446ad40baffb18199b6ccb66a4e8052c0f1a5cde9a390516f1aca2a049fd5de5", func := "watershed/watershedlaw19.RaftSafe", spec := "raftSafe", unfollowed := true, recurses := true, apart := false }
def RaftSafeSaid : Prop := raftSafeRow.holds Try.pinned (OpenSpec.ofChange raftSafeSpec)

/-- ITS FALSE NEIGHBOUR: 'it returns false'. Refute it at one input. -/
def raftSafeWrong : ChangeSpec := { name := "raftSafe", fn := fun _ => fun
  | [d1, d2] => { results := [.lit (.bool false)], args := [d1, d2] }
  | _ => none }
def RaftSafeWrongFalsely : Prop := raftSafeRow.holds Try.pinned (OpenSpec.ofChange raftSafeWrong)

/-- 'watershedlaw19.RaftNil': WHATEVER THE INPUT: true; the input reads as it did. -/
def raftNilSpec : ChangeSpec := { name := "raftNil", fn := fun _ => fun
  | [d1, d2] => { results := [.lit (.bool true)], args := [d1, d2] }
  | _ => none }
def raftNilRow : OpenClaim := { program := "ytekoilhjlofncaa", sum := "446ad40baffb18199b6ccb66a4e8052c0f1a5cde9a390516f1aca2a049fd5de5", func := "watershed/watershedlaw19.RaftNil", spec := "raftNil", unfollowed := true, recurses := true, apart := false }
def RaftNilSaid : Prop := raftNilRow.holds Try.pinned (OpenSpec.ofChange raftNilSpec)

/-- ITS FALSE NEIGHBOUR: 'it returns false'. Refute it at one input. -/
def raftNilWrong : ChangeSpec := { name := "raftNil", fn := fun _ => fun
  | [d1, d2] => { results := [.lit (.bool false)], args := [d1, d2] }
  | _ => none }
def RaftNilWrongFalsely : Prop := raftNilRow.holds Try.pinned (OpenSpec.ofChange raftNilWrong)

/-- 'watershedlaw19.RaftKeeps': WHATEVER THE INPUT: true; the input reads as it did. -/
def raftKeepsSpec : ChangeSpec := { name := "raftKeeps", fn := fun _ => fun
  | [d1, d2, d3, d4] => { results := [.lit (.bool true)], args := [d1, d2, d3, d4] }
  | _ => none }
def raftKeepsRow : OpenClaim := { program := "ytekoilhjlofncaa", sum := "446ad40baffb18199b6ccb66a4e8052c0f1a5cde9a390516f1aca2a049fd5de5", func := "watershed/watershedlaw19.RaftKeeps", spec := "raftKeeps", unfollowed := true, recurses := true, apart := false }
def RaftKeepsSaid : Prop := raftKeepsRow.holds Try.pinned (OpenSpec.ofChange raftKeepsSpec)

/-- ITS FALSE NEIGHBOUR: 'it returns false'. Refute it at one input. -/
def raftKeepsWrong : ChangeSpec := { name := "raftKeeps", fn := fun _ => fun
  | [d1, d2, d3, d4] => { results := [.lit (.bool false)], args := [d1, d2, d3, d4] }
  | _ => none }
def RaftKeepsWrongFalsely : Prop := raftKeepsRow.holds Try.pinned (OpenSpec.ofChange raftKeepsWrong)

/-- 'watershedlaw19.RaftWrites': WHATEVER THE INPUT: true; the input reads as it did. -/
def raftWritesSpec : ChangeSpec := { name := "raftWrites", fn := fun _ => fun
  | [d1, d2] => { results := [.lit (.bool true)], args := [d1, d2] }
  | _ => none }
def raftWritesRow : OpenClaim := { program := "ytekoilhjlofncaa", sum := "446ad40baffb18199b6ccb66a4e8052c0f1a5cde9a390516f1aca2a049fd5de5", func := "watershed/watershedlaw19.RaftWrites", spec := "raftWrites", unfollowed := true, recurses := true, apart := false }
def RaftWritesSaid : Prop := raftWritesRow.holds Try.pinned (OpenSpec.ofChange raftWritesSpec)

/-- ITS FALSE NEIGHBOUR: 'it returns false'. Refute it at one input. -/
def raftWritesWrong : ChangeSpec := { name := "raftWrites", fn := fun _ => fun
  | [d1, d2] => { results := [.lit (.bool false)], args := [d1, d2] }
  | _ => none }
def RaftWritesWrongFalsely : Prop := raftWritesRow.holds Try.pinned (OpenSpec.ofChange raftWritesWrong)

/- THE SECOND FORM. 'bulk': how many values and letters a reading holds, each counted each time it is reached (what is shared counts as often as it is met; a slice's spare places count too). A statement '..UptoSaid' is the law's where the arguments, and the package variables that the reading takes, are together of bulk at most 1048576: NARROWER than '..Said'. Prove '..Said' where nothing that the law and all that it calls make is longer than what came in: it says more and counts as full. Else prove '..UptoSaid'. A law counts once. -/
mutual
def uptoBulk {H : Type} : DataW H → Nat
  | .lit (.string bytes) => bytes.length + 1
  | .lit _ => 1
  | .nil => 1
  | .ptr d => uptoBulk d + 1
  | .slice elems spare => uptoBulkAll elems + uptoBulkAll spare + 1
  | .agg parts => uptoBulkAll parts + 1
  | .iface _ d => uptoBulk d + 1
  | .map entries => uptoBulkEntries entries + 1
  | .held _ => 1
def uptoBulkAll {H : Type} : List (DataW H) → Nat
  | [] => 0
  | d :: r => uptoBulk d + uptoBulkAll r
def uptoBulkEntries {H : Type} : List (Lit × DataW H) → Nat
  | [] => 0
  | x :: r => uptoBulkEntry x + uptoBulkEntries r
def uptoBulkEntry {H : Type} : Lit × DataW H → Nat
  | (.string bytes, d) => bytes.length + uptoBulk d + 1
  | (_, d) => uptoBulk d + 1
 end
def uptoSmall : (H : Type) → List (DataW H) → Bool := fun _ ds => decide (uptoBulkAll ds ≤ 1048576)
def OpenSpec.upto (s : _root_.Go.ChangeSpec) : _root_.Go.OpenSpec := { _root_.Go.OpenSpec.ofChange s with cond := some uptoSmall }

/-- 'watershedlaw19.RaftDoes', WHERE WHAT IT READS IS OF BULK AT MOST 1048576: true; the input reads as it did. -/
def raftDoesUptoRow : OpenClaim := { program := "ytekoilhjlofncaa", sum := "446ad40baffb18199b6ccb66a4e8052c0f1a5cde9a390516f1aca2a049fd5de5", func := "watershed/watershedlaw19.RaftDoes", spec := "raftDoes", unfollowed := true, recurses := true, apart := false, narrowed := true }
def RaftDoesUptoSaid : Prop := raftDoesUptoRow.holds Try.pinned (OpenSpec.upto raftDoesSpec)

/-- 'watershedlaw19.RaftSafe', WHERE WHAT IT READS IS OF BULK AT MOST 1048576: true; the input reads as it did. -/
def raftSafeUptoRow : OpenClaim := { program := "ytekoilhjlofncaa", sum := "446ad40baffb18199b6ccb66a4e8052c0f1a5cde9a390516f1aca2a049fd5de5", func := "watershed/watershedlaw19.RaftSafe", spec := "raftSafe", unfollowed := true, recurses := true, apart := false, narrowed := true }
def RaftSafeUptoSaid : Prop := raftSafeUptoRow.holds Try.pinned (OpenSpec.upto raftSafeSpec)

/-- 'watershedlaw19.RaftNil', WHERE WHAT IT READS IS OF BULK AT MOST 1048576: true; the input reads as it did. -/
def raftNilUptoRow : OpenClaim := { program := "ytekoilhjlofncaa", sum := "446ad40baffb18199b6ccb66a4e8052c0f1a5cde9a390516f1aca2a049fd5de5", func := "watershed/watershedlaw19.RaftNil", spec := "raftNil", unfollowed := true, recurses := true, apart := false, narrowed := true }
def RaftNilUptoSaid : Prop := raftNilUptoRow.holds Try.pinned (OpenSpec.upto raftNilSpec)

/-- 'watershedlaw19.RaftKeeps', WHERE WHAT IT READS IS OF BULK AT MOST 1048576: true; the input reads as it did. -/
def raftKeepsUptoRow : OpenClaim := { program := "ytekoilhjlofncaa", sum := "446ad40baffb18199b6ccb66a4e8052c0f1a5cde9a390516f1aca2a049fd5de5", func := "watershed/watershedlaw19.RaftKeeps", spec := "raftKeeps", unfollowed := true, recurses := true, apart := false, narrowed := true }
def RaftKeepsUptoSaid : Prop := raftKeepsUptoRow.holds Try.pinned (OpenSpec.upto raftKeepsSpec)

/-- 'watershedlaw19.RaftWrites', WHERE WHAT IT READS IS OF BULK AT MOST 1048576: true; the input reads as it did. -/
def raftWritesUptoRow : OpenClaim := { program := "ytekoilhjlofncaa", sum := "446ad40baffb18199b6ccb66a4e8052c0f1a5cde9a390516f1aca2a049fd5de5", func := "watershed/watershedlaw19.RaftWrites", spec := "raftWrites", unfollowed := true, recurses := true, apart := false, narrowed := true }
def RaftWritesUptoSaid : Prop := raftWritesUptoRow.holds Try.pinned (OpenSpec.upto raftWritesSpec)

end Rows
end Go.Proofs.Ytekoilhjlofncaa
