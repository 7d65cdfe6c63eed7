/-
  Layer 2's disk: the closures of its deeds.
-/
import Derived.Test.YtijbgeboaakmmaaDiskSpecD
set_option linter.unusedVariables false
set_option linter.unusedSimpArgs false
set_option maxRecDepth 4000
namespace Go.Proofs.Ytijbgeboaakmmaa
open Go.Sl Go.RowKit

theorem disk_sync_do {w0 : World} {R : List HProp} {v f k c : Nat} {base : Option Addr} {s : Int} :
    Fun Try.prog w0 28 [.pointer (some ⟨v, 0, none⟩)] (cel f [.slice base k c, .int .i64 s] 62 :: cel v [.pointer (some ⟨f, 0, none⟩)] 60 :: R)
      (Ret w0 (fun _ : Unit => True) (fun _ => .tuple #[]) (fun _ => cel f [.slice base k c, .int .i64 k] 62 :: cel v [.pointer (some ⟨f, 0, none⟩)] 60 :: R)) := by
  refine Fun.enter Try.func28 rfl Try.ntmps28 rfl ?_
  exact WC.plan (.bar [0, 1, 2, 3, 4, 5, 6, 7] 8 (.done [])) rfl (by kernel_rfl) <| WPl.bar (trivial) <| dv (fun g => (vldc pl60 rfl)) <| dv (fun g => (vldc pl60 rfl)) <| dv (fun g => (vnil rfl)) <| dv (fun g => (vfld fl62f0 rfl)) <| dv (fun g => (vldc pl27 rfl)) <| dv (fun g => (vlen Try.underlying27 rfl)) <| dv (fun g => (vnil rfl)) <| dv (fun g => (vfld fl62f1 rfl)) <| WD.eff rfl <| stc (v := .int _ _) pl3 sz3 rfl rfl rfl <| WL.nil <| WX.brT <| WPl.fin (trivial) <| WD.nil <| WX.end0 rfl (()) (trivial) rfl (fun _ h => h)
theorem disk_sync_late {w0 : World} {A : List HProp} : Fun Try.prog w0 29 [] A (Ret w0 (fun _ : Unit => True) (fun _ => .tuple #[]) (fun _ => A)) := by
  refine Fun.enter Try.func29 rfl Try.ntmps29 rfl ?_
  exact WC.skip <| WX.end0 rfl (()) (trivial) rfl (fun _ h => h)
end Go.Proofs.Ytijbgeboaakmmaa
