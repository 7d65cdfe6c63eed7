/-
  Layer 2's disk: the closures of its deeds.
-/
import Derived.Test.YthljpljbpbkkcaaDoorDiskSpecD
set_option linter.unusedVariables false
set_option linter.unusedSimpArgs false
set_option maxRecDepth 4000
namespace Go.Proofs.YthljpljbpbkkcaaDoor
open Go.Sl Go.RowKit

theorem disk_sync_do {w0 : World} {R : List HProp} {v f k c : Nat} {base : Option Addr} {s : Int} :
    Fun Tryd.prog w0 80 [.pointer (some ⟨v, 0, none⟩)] (cel f [.slice base k c, .int .i64 s] 96 :: cel v [.pointer (some ⟨f, 0, none⟩)] 92 :: R)
      (Ret w0 (fun _ : Unit => True) (fun _ => .tuple #[]) (fun _ => cel f [.slice base k c, .int .i64 k] 96 :: cel v [.pointer (some ⟨f, 0, none⟩)] 92 :: R)) := by
  refine Fun.enter Tryd.func80 rfl Tryd.ntmps80 rfl ?_
  exact WC.plan (.bar [0, 1, 2, 3, 4, 5, 6, 7] 8 (.done [])) rfl (by kernel_rfl) <| WPl.bar (trivial) <| dv (fun g => (vldc pl92 rfl)) <| dv (fun g => (vldc pl92 rfl)) <| dv (fun g => (vnil rfl)) <| dv (fun g => (vfld fl96f0 rfl)) <| dv (fun g => (vldc pl25 rfl)) <| dv (fun g => (vlen Tryd.underlying25 rfl)) <| dv (fun g => (vnil rfl)) <| dv (fun g => (vfld fl96f1 rfl)) <| WD.eff rfl <| stc (v := .int _ _) pl3 sz3 rfl rfl rfl <| WL.nil <| WX.brT <| WPl.fin (trivial) <| WD.nil <| WX.end0 rfl (()) (trivial) rfl (fun _ h => h)
theorem disk_sync_late {w0 : World} {A : List HProp} : Fun Tryd.prog w0 81 [] A (Ret w0 (fun _ : Unit => True) (fun _ => .tuple #[]) (fun _ => A)) := by
  refine Fun.enter Tryd.func81 rfl Tryd.ntmps81 rfl ?_
  exact WC.skip <| WX.end0 rfl (()) (trivial) rfl (fun _ h => h)
end Go.Proofs.YthljpljbpbkkcaaDoor
