/-
  No cell of these rows narrows 'for every input' (looked for: loops, veiled, ifaces, maps, wideKeys, modest, calm, conditions, laid).
  DERIVED. THE GIVEN ROWS OF THIS SEAT. 4 by the template 'for every input the law returns true; each argument reads behind the call as it read before'; 0 by the template 'total and deterministic' (their statements: YtigjompojlhomaaTotals.lean).
  GIVEN WITH THE SEED: the statements are not yours to turn. If you find one false, say at which input.
  Laid BY PROGRAM, IN A SANDBOX (cutbox-rows.mjs): the forced cells as the released guide's own fill.sh prints them over the translation 1f9c0e01dabb0142… (all of the seat's roots in one cut). By AI agents, Wed Nov 11 2026. No macro, syntax, notation, axiom, sorry.
-/
import Derived.Test.YtigjompojlhomaaChecked
import GoSem.Claim
import GoSem.ClaimJoined
import GoSem.ClaimMapViews
import Derived.JoinedTies
import Derived.KernelRfl
namespace Go.Proofs.Ytigjompojlhomaa
/- THE CELL 'sum', in the pinned program and in every row, IS THE sha256 OF THE DUMP (.gsa) THAT YtigjompojlhomaaProg.lean LOADS. Nothing in Lean hashes anything: it is a label: what it is worth is what the hold of that sum in a sandbox is worth. -/
noncomputable def Try.pinned : Pinned := { name := "ytigjompojlhomaa", sum := "1f9c0e01dabb0142d957476009c35a8c7cb9f8a17a0f3a64f9a16c7caea9d058", checked := Try.checked }
namespace Rows
def none {H : Type} : Left H := { results := [], args := [] }

/-- 'watershedlaw20.CouncilSafe': WHATEVER THE INPUT: true; the input reads as it did. -/
def councilSafeSpec : ChangeSpec := { name := "councilSafe", fn := fun _ => fun
  | [d1, d2] => { results := [.lit (.bool true)], args := [d1, d2] }
  | _ => none }
def councilSafeRow : OpenClaim := { program := "ytigjompojlhomaa", sum := "1f9c0e01dabb0142d957476009c35a8c7cb9f8a17a0f3a64f9a16c7caea9d058", func := "watershed/watershedlaw20.CouncilSafe", spec := "councilSafe", unfollowed := true, recurses := true, apart := false }
def CouncilSafeSaid : Prop := councilSafeRow.holds Try.pinned (OpenSpec.ofChange councilSafeSpec)

/-- ITS FALSE NEIGHBOUR: 'it returns false'. Refute it at one input. -/
def councilSafeWrong : ChangeSpec := { name := "councilSafe", fn := fun _ => fun
  | [d1, d2] => { results := [.lit (.bool false)], args := [d1, d2] }
  | _ => none }
def CouncilSafeWrongFalsely : Prop := councilSafeRow.holds Try.pinned (OpenSpec.ofChange councilSafeWrong)

/-- 'watershedlaw20.CouncilLasts': WHATEVER THE INPUT: true; the input reads as it did. -/
def councilLastsSpec : ChangeSpec := { name := "councilLasts", fn := fun _ => fun
  | [d1, d2] => { results := [.lit (.bool true)], args := [d1, d2] }
  | _ => none }
def councilLastsRow : OpenClaim := { program := "ytigjompojlhomaa", sum := "1f9c0e01dabb0142d957476009c35a8c7cb9f8a17a0f3a64f9a16c7caea9d058", func := "watershed/watershedlaw20.CouncilLasts", spec := "councilLasts", unfollowed := true, recurses := true, apart := false }
def CouncilLastsSaid : Prop := councilLastsRow.holds Try.pinned (OpenSpec.ofChange councilLastsSpec)

/-- ITS FALSE NEIGHBOUR: 'it returns false'. Refute it at one input. -/
def councilLastsWrong : ChangeSpec := { name := "councilLasts", fn := fun _ => fun
  | [d1, d2] => { results := [.lit (.bool false)], args := [d1, d2] }
  | _ => none }
def CouncilLastsWrongFalsely : Prop := councilLastsRow.holds Try.pinned (OpenSpec.ofChange councilLastsWrong)

/-- 'watershedlaw20.CouncilNil': WHATEVER THE INPUT: true; the input reads as it did. -/
def councilNilSpec : ChangeSpec := { name := "councilNil", fn := fun _ => fun
  | [d1, d2] => { results := [.lit (.bool true)], args := [d1, d2] }
  | _ => none }
def councilNilRow : OpenClaim := { program := "ytigjompojlhomaa", sum := "1f9c0e01dabb0142d957476009c35a8c7cb9f8a17a0f3a64f9a16c7caea9d058", func := "watershed/watershedlaw20.CouncilNil", spec := "councilNil", unfollowed := true, recurses := true, apart := false }
def CouncilNilSaid : Prop := councilNilRow.holds Try.pinned (OpenSpec.ofChange councilNilSpec)

/-- ITS FALSE NEIGHBOUR: 'it returns false'. Refute it at one input. -/
def councilNilWrong : ChangeSpec := { name := "councilNil", fn := fun _ => fun
  | [d1, d2] => { results := [.lit (.bool false)], args := [d1, d2] }
  | _ => none }
def CouncilNilWrongFalsely : Prop := councilNilRow.holds Try.pinned (OpenSpec.ofChange councilNilWrong)

/-- 'watershedlaw20.CouncilDown': WHATEVER THE INPUT: true; the input reads as it did. -/
def councilDownSpec : ChangeSpec := { name := "councilDown", fn := fun _ => fun
  | [d1, d2, d3] => { results := [.lit (.bool true)], args := [d1, d2, d3] }
  | _ => none }
def councilDownRow : OpenClaim := { program := "ytigjompojlhomaa", sum := "1f9c0e01dabb0142d957476009c35a8c7cb9f8a17a0f3a64f9a16c7caea9d058", func := "watershed/watershedlaw20.CouncilDown", spec := "councilDown", unfollowed := true, recurses := true, apart := false }
def CouncilDownSaid : Prop := councilDownRow.holds Try.pinned (OpenSpec.ofChange councilDownSpec)

/-- ITS FALSE NEIGHBOUR: 'it returns false'. Refute it at one input. -/
def councilDownWrong : ChangeSpec := { name := "councilDown", fn := fun _ => fun
  | [d1, d2, d3] => { results := [.lit (.bool false)], args := [d1, d2, d3] }
  | _ => none }
def CouncilDownWrongFalsely : Prop := councilDownRow.holds Try.pinned (OpenSpec.ofChange councilDownWrong)

/- THE SECOND FORM. 'bulk': how many values and letters a reading holds, each counted each time it is reached (what is shared counts as often as it is met; a slice's spare places count too). A statement '..UptoSaid' is the law's where the arguments, and the package variables that the reading takes, are together of bulk at most 1048576: NARROWER than '..Said'. Prove '..Said' where nothing that the law and all that it calls make is longer than what came in: it says more and counts as full. Else prove '..UptoSaid'. A law counts once. -/
mutual
def uptoBulk {H : Type} : DataW H → Nat
  | .lit (.string bytes) => bytes.length + 1
  | .lit _ => 1
  | .nil => 1
  | .ptr d => uptoBulk d + 1
  | .slice elems spare => uptoBulkAll elems + uptoBulkAll spare + 1
  | .agg parts => uptoBulkAll parts + 1
  | .iface _ d => uptoBulk d + 1
  | .map entries => uptoBulkEntries entries + 1
  | .held _ => 1
def uptoBulkAll {H : Type} : List (DataW H) → Nat
  | [] => 0
  | d :: r => uptoBulk d + uptoBulkAll r
def uptoBulkEntries {H : Type} : List (Lit × DataW H) → Nat
  | [] => 0
  | x :: r => uptoBulkEntry x + uptoBulkEntries r
def uptoBulkEntry {H : Type} : Lit × DataW H → Nat
  | (.string bytes, d) => bytes.length + uptoBulk d + 1
  | (_, d) => uptoBulk d + 1
 end
def uptoSmall : (H : Type) → List (DataW H) → Bool := fun _ ds => decide (uptoBulkAll ds ≤ 1048576)
def OpenSpec.upto (s : _root_.Go.ChangeSpec) : _root_.Go.OpenSpec := { _root_.Go.OpenSpec.ofChange s with cond := some uptoSmall }

/-- 'watershedlaw20.CouncilSafe', WHERE WHAT IT READS IS OF BULK AT MOST 1048576: true; the input reads as it did. -/
def councilSafeUptoRow : OpenClaim := { program := "ytigjompojlhomaa", sum := "1f9c0e01dabb0142d957476009c35a8c7cb9f8a17a0f3a64f9a16c7caea9d058", func := "watershed/watershedlaw20.CouncilSafe", spec := "councilSafe", unfollowed := true, recurses := true, apart := false, narrowed := true }
def CouncilSafeUptoSaid : Prop := councilSafeUptoRow.holds Try.pinned (OpenSpec.upto councilSafeSpec)

/-- 'watershedlaw20.CouncilLasts', WHERE WHAT IT READS IS OF BULK AT MOST 1048576: true; the input reads as it did. -/
def councilLastsUptoRow : OpenClaim := { program := "ytigjompojlhomaa", sum := "1f9c0e01dabb0142d957476009c35a8c7cb9f8a17a0f3a64f9a16c7caea9d058", func := "watershed/watershedlaw20.CouncilLasts", spec := "councilLasts", unfollowed := true, recurses := true, apart := false, narrowed := true }
def CouncilLastsUptoSaid : Prop := councilLastsUptoRow.holds Try.pinned (OpenSpec.upto councilLastsSpec)

/-- 'watershedlaw20.CouncilNil', WHERE WHAT IT READS IS OF BULK AT MOST 1048576: true; the input reads as it did. -/
def councilNilUptoRow : OpenClaim := { program := "ytigjompojlhomaa", sum := "1f9c0e01dabb0142d957476009c35a8c7cb9f8a17a0f3a64f9a16c7caea9d058", func := "watershed/watershedlaw20.CouncilNil", spec := "councilNil", unfollowed := true, recurses := true, apart := false, narrowed := true }
def CouncilNilUptoSaid : Prop := councilNilUptoRow.holds Try.pinned (OpenSpec.upto councilNilSpec)

/-- 'watershedlaw20.CouncilDown', WHERE WHAT IT READS IS OF BULK AT MOST 1048576: true; the input reads as it did. -/
def councilDownUptoRow : OpenClaim := { program := "ytigjompojlhomaa", sum := "1f9c0e01dabb0142d957476009c35a8c7cb9f8a17a0f3a64f9a16c7caea9d058", func := "watershed/watershedlaw20.CouncilDown", spec := "councilDown", unfollowed := true, recurses := true, apart := false, narrowed := true }
def CouncilDownUptoSaid : Prop := councilDownUptoRow.holds Try.pinned (OpenSpec.upto councilDownSpec)

end Rows
end Go.Proofs.Ytigjompojlhomaa
