/-
  Layer 2's disk: one deed, its closures given by their contracts.
-/
import Derived.Test.YthljpljbpbkkcaaDoorDiskSpecC
set_option linter.unusedVariables false
set_option linter.unusedSimpArgs false
set_option maxRecDepth 4000
namespace Go.Proofs.YthljpljbpbkkcaaDoor
open Go.Sl Go.RowKit

section
variable {w0 : World} {R : List HProp} {d m : Nat} {st : DSt} {ι κ : Type} {pr : ι → Prop} {post : ι → List HProp} {pr2 : κ → Prop} {post2 : κ → List HProp} {fdo fl : FuncId} {capdo capl : List Value} {vl : Value}
theorem disk_deed (hne : st.fuse - 1 ≠ 0) (hb : -9223372036854775808 ≤ st.fuse - 1 ∧ st.deeds + 1 ≤ 9223372036854775807) (hb2 : -9223372036854775808 ≤ st.deeds + 1 ∧ st.fuse - 1 ≤ 9223372036854775807) (hct : callT Tryd.prog fdo = true)
    (hdo : Fun Tryd.prog w0 fdo capdo (cel d (dcells m { st with deeds := st.deeds + 1, fuse := max (st.fuse - 1) 0 }) 60 :: R) (Ret w0 pr (fun _ => .tuple #[]) post)) :
    Fun Tryd.prog w0 50 [.pointer (some ⟨d, 0, none⟩), .func (.func fdo) #[] capdo.toArray, .func (.func fl) #[] capl.toArray] (cel d (dcells m st) 60 :: R)
      (Ret w0 pr (fun _ => .int .i64 0) post) := by
  refine Fun.enter Tryd.func50 rfl Tryd.ntmps50 rfl ?_
  refine WC.seq <| WC.region <| sv (vaI rfl) <| WL.nil <| WX.thenN <| WC.seq <| WC.region <| sv (vmP rfl) <| sv (vnil rfl) <| sv (vfld fl60f4 rfl) <| sv (vldc pl3 rfl) <| sv (vadd rfl rfl (by omega)) <| sv (vnil rfl) <| sv (vfld fl60f4 rfl) <| stc (v := .int _ _) pl3 sz3 rfl rfl rfl <| WL.nil <| WX.thenN <| WC.seq <| WC.seq <| WC.region <| sv (vmP rfl) <| sv (vnil rfl) <| sv (vfld fl60f2 rfl) <| sv (vldc pl3 rfl) <| sv (vsub rfl rfl (by omega)) <| sv (vnil rfl) <| sv (vfld fl60f2 rfl) <| stc (v := .int _ _) pl3 sz3 rfl rfl rfl <| WL.nil <| WX.thenN <| WC.seq <| WC.region <| sv (vmP rfl) <| sv (vnil rfl) <| sv (vfld fl60f2 rfl) <| sv (vldc pl3 rfl) <| sv (veq rfl rfl) <| WL.nil <| WX.thenN <| ?_
  refine WC.ite rfl (fun h1 => ?_) (fun h1 => ?_)
  · -- then
    exact absurd h1 hne
  · -- else
    exact WC.skip <| WX.thenN <| WC.seq <| WC.region <| sv (vmP rfl) <| sv (vmP rfl) <| sv (vnil rfl) <| sv (vfld fl60f2 rfl) <| sv (vldc pl3 rfl) <| sv (vmax rfl rfl) <| sv (vnil rfl) <| sv (vfld fl60f2 rfl) <| stc (v := .int _ _) pl3 sz3 rfl rfl rfl <| WL.nil <| WX.thenN <| WC.seq <| WC.region <| sv (vmF rfl) <| clv hdo hct rfl rfl fun i hi =>WL.nil <| WX.thenN <| WC.seq <| WC.region <| sv (vaI rfl) <| WL.nil <| WX.thenN <| WC.ret <| WX.ret1 rfl (i) (hi) rfl (fun _ h => h)
theorem disk_deed_fuse (he : st.fuse - 1 = 0) (hb : -9223372036854775808 ≤ st.deeds + 1 ∧ st.deeds + 1 ≤ 9223372036854775807) (hct : callT Tryd.prog fl = true)
    (hlate : Fun Tryd.prog w0 fl capl (cel d (dcells m { st with deeds := st.deeds + 1, fuse := 0 }) 60 :: R) (Ret w0 pr (fun _ => .tuple #[]) (fun i => cel d (dcells m { st with deeds := st.deeds + 1, fuse := 0 }) 60 :: post i)))
    (hoff : ∀ i, pr i → Fun Tryd.prog w0 69 [.pointer (some ⟨d, 0, none⟩), .int .i64 st.keep] (cel d (dcells m { st with deeds := st.deeds + 1, fuse := 0 }) 60 :: post i) (Ret w0 pr2 (fun _ => .tuple #[]) post2)) :
    Fun Tryd.prog w0 50 [.pointer (some ⟨d, 0, none⟩), .func (.func fdo) #[] capdo.toArray, .func (.func fl) #[] capl.toArray] (cel d (dcells m st) 60 :: R)
      (Ret w0 pr2 (fun _ => .int .i64 20) post2) := by
  have hf : st.fuse = 1 := by omega
  unfold dcells at *
  rw [hf]
  refine Fun.enter Tryd.func50 rfl Tryd.ntmps50 rfl ?_
  refine WC.seq <| WC.region <| sv (vaI rfl) <| WL.nil <| WX.thenN <| WC.seq <| WC.region <| sv (vmP rfl) <| sv (vnil rfl) <| sv (vfld fl60f4 rfl) <| sv (vldc pl3 rfl) <| sv (vadd rfl rfl (by omega)) <| sv (vnil rfl) <| sv (vfld fl60f4 rfl) <| stc (v := .int _ _) pl3 sz3 rfl rfl rfl <| WL.nil <| WX.thenN <| WC.seq <| WC.seq <| WC.region <| sv (vmP rfl) <| sv (vnil rfl) <| sv (vfld fl60f2 rfl) <| sv (vldc pl3 rfl) <| sv (vsub rfl rfl (by omega)) <| sv (vnil rfl) <| sv (vfld fl60f2 rfl) <| stc (v := .int _ _) pl3 sz3 rfl rfl rfl <| WL.nil <| WX.thenN <| WC.seq <| WC.region <| sv (vmP rfl) <| sv (vnil rfl) <| sv (vfld fl60f2 rfl) <| sv (vldc pl3 rfl) <| sv (veq rfl rfl) <| WL.nil <| WX.thenN <| ?_
  refine WC.tt rfl ?_
  exact WC.seq <| WC.region <| sv (vmF rfl) <| clv hlate hct rfl rfl fun i hi =>WL.nil <| WX.thenN <| WC.seq <| WC.region <| sv (vmP rfl) <| sv (vmP rfl) <| sv (vnil rfl) <| sv (vfld fl60f3 rfl) <| sv (vldc pl3 rfl) <| cl (hoff i hi) ct69 rfl fun j hj => WL.nil <| WX.thenN <| WC.seq <| WC.region <| sv (vaI rfl) <| WL.nil <| WX.thenN <| WC.ret <| WX.thenR <| WX.ret1 rfl (j) (hj) rfl (fun _ h => h)
end
end Go.Proofs.YthljpljbpbkkcaaDoor
