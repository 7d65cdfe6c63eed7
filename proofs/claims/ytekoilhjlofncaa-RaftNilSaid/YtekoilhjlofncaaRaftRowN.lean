/-
  Layer 19: no node, its arguments as they read.
-/
import Derived.Test.YtekoilhjlofncaaRaftViews
import Derived.Test.YtekoilhjlofncaaRaftNil
namespace Go.Proofs.Ytekoilhjlofncaa
open Go.Sl Go.RowKit Go.Raft
theorem row_nil {w0 : World} {A : List HProp} {d : ByteArray} (m : MV) : Fun Try.prog w0 5 [.agg (cellM m).toArray, .string d] A (Ret w0 (fun _ : Unit => True) (fun _ => .bool true) (fun _ => A)) := by
  rw [cellM_eq]; exact walk_nil
end Go.Proofs.Ytekoilhjlofncaa
