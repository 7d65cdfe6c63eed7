/-
  Layer 2: the document's example; what was safe is there after any power cut.
-/
import Derived.Test.YtijbgeboaakmmaaDiskLawA
import Derived.Test.YtijbgeboaakmmaaSlView
set_option linter.unusedVariables false
set_option linter.unusedSimpArgs false
set_option maxRecDepth 4000
namespace Go.Proofs.Ytijbgeboaakmmaa
open Go.Sl Go.RowKit

def nmA : ByteArray := ⟨#[97]⟩
theorem law2_awake {w0 : World} {A : List HProp} : Fun Try.prog w0 15 [] A (Ret w0 (fun _ : Unit => True) (fun _ => .bool true) (fun _ => A)) := by
  have hnA : okName nmA := by decide +kernel
  obtain ⟨s1, e1, o1⟩ := One.append0 (st := newD) (nm := nmA) (all := []) (safe := 0) (n := 0) (b := [120, 121, 122]) rfl rfl rfl rfl hnA (by decide)
  obtain ⟨s2, e2, o2⟩ := o1.sync
  obtain ⟨s3, e3, o3⟩ := o2.append (b := [112, 113]) hnA (by decide)
  obtain ⟨e4, o4⟩ := o3.offon 1
  have e5 := o4.read
  obtain ⟨s6, s7, e6, d6, e7, h7, d7⟩ := o4.armed (b := [49]) hnA (by decide)
  have d1 := o1.deeds
  have d2 := o2.deeds
  have d4 := o4.deeds
  refine Fun.enter Try.func15 rfl Try.ntmps15 rfl ?_
  refine WC.seq <| WC.region <| sv (vaB rfl) <| WL.nil <| WX.thenN <| WC.seq <| WC.region <| cl (disk_new) ct9 rfl fun d hd => sv (vaP rfl) <| WL.nil <| WX.thenN <| WC.seq <| WC.seq <| WC.region <| sv (vmP rfl) <| sv (vpeqF Try.underlying25 rfl rfl) <| WL.nil <| WX.thenN <| ?_
  refine WC.ff rfl ?_
  refine WC.skip <| WX.thenN <| WC.seq <| WC.region <| sv (vmP rfl) <| bslb [120, 121, 122] rfl Try.underlying27 zt5 (by simp [enumP, ev, u8s, u8v]) (by decide) fun b3 => cvm Try.underlying27 Try.underlying5 rfl <| pm (fun _ h => h.pk1) <| cl (disk_append_at (nm := nmA) (b := [120, 121, 122]) (by decide +kernel) (by decide) (by decide) rfl e1) ct10 rfl fun _ _ => sv (vaI rfl) <| WL.nil <| WX.thenN <| WC.seq <| WC.region <| sv (vmP rfl) <| cl (disk_sync_at (nm := nmA) (by omega) e2) ct11 rfl fun _ _ => sv (vaI rfl) <| WL.nil <| WX.thenN <| WC.seq <| WC.region <| sv (vmP rfl) <| bslb [112, 113] rfl Try.underlying27 zt5 (by simp [enumP, ev, u8s, u8v]) (by decide) fun b7 => cvm Try.underlying27 Try.underlying5 rfl <| pm (fun _ h => h.pk1) <| cl (disk_append_at (nm := nmA) (b := [112, 113]) (by decide +kernel) (by omega) (by decide) rfl e3) ct10 rfl fun _ _ => sv (vaI rfl) <| WL.nil <| WX.thenN <| WC.seq <| WC.region <| sv (vmP rfl) <| cl (disk_off_at) ct12 rfl fun _ _ => WL.nil <| WX.thenN <| WC.seq <| WC.region <| sv (vmP rfl) <| cl (disk_on) ct14 rfl fun _ _ => WL.nil <| WX.thenN <| WC.seq <| WC.region <| sv (vmP rfl) <| cl (disk_read_at (nm := nmA) e5) ct13 rfl fun b12 hb12 => sv vmv <| sv (vex rfl rfl) <| sv (vex rfl rfl) <| sv (vaS rfl) <| sv (vaI rfl) <| WL.nil <| WX.thenN <| WC.seq <| WC.region <| sv (vmP rfl) <| pm (fun _ h => h.pk1) <| cl (disk_arm (by decide)) ct22 rfl fun _ _ => WL.nil <| WX.thenN <| WC.seq <| WC.region <| sv (vmP rfl) <| bslb [49] rfl Try.underlying27 zt5 (by simp [enumP, ev, u8s, u8v]) (by decide) fun b14 => cvm Try.underlying27 Try.underlying5 rfl <| pm (fun _ h => h.pk1) <| cl (disk_append_at (nm := nmA) (b := [49]) (by decide +kernel) (by have := d4; dsimp only at this ⊢; omega) (by decide) rfl e6) ct10 rfl fun _ _ => sv (vaI rfl) <| WL.nil <| WX.thenN <| WC.seq <| WC.region <| sv (vmP rfl) <| cl (disk_sync_at (nm := nmA) (by omega) e7) ct11 rfl fun _ _ => sv (vaI rfl) <| WL.nil <| WX.thenN <| WC.seq <| WC.region <| sv (vmP rfl) <| cl (disk_up_at h7) ct20 rfl fun _ _ => sv (vaB rfl) <| WL.nil <| WX.thenN <| ?_
  refine WC.cut0 [(0, .bool true)] [] (A) trivial ?_ fun ρh => ?_
  · -- law.go:49
    exact WC.region <| sv (vmI rfl) <| sv (vT (veq rfl rfl) (by omega)) <| sv (vmB rfl) <| svg rfl (vmI rfl) <| svg rfl (vT (veq rfl rfl) (by omega)) <| sv (vpkt rfl) <| sv (vmB rfl) <| svg rfl (vmI rfl) <| svg rfl (vT (veq rfl rfl) (by omega)) <| sv (vpkt rfl) <| sv (vmB rfl) <| svg rfl (vmS rfl) <| svg rfl (vstr Try.underlying27 Try.underlying5 Try.underlying9 rfl reads (by simp)) <| svg rfl (vT (veqs rfl rfl) (by rfl)) <| sv (vpkt rfl) <| sv (vmB rfl) <| svg rfl (vmI rfl) <| svg rfl (vT (veq rfl rfl) (by omega)) <| sv (vpkt rfl) <| sv (vmB rfl) <| svg rfl (vmI rfl) <| svg rfl (vT (veq rfl rfl) (by omega)) <| sv (vpkt rfl) <| sv (vmB rfl) <| svg rfl (vmI rfl) <| svg rfl (vT (veq rfl rfl) (by omega)) <| sv (vpkt rfl) <| sv (vmB rfl) <| svg rfl (vmB rfl) <| svg rfl (vnot rfl) <| sv (vpkt rfl) <| sv (vmB rfl) <| svg rfl (vmP rfl) <| gy rfl <| cl (disk_deeds_at d7) ct21 rfl fun _ _ => svg rfl (vT (veq rfl rfl) (by omega)) <| sv (vpkt rfl) <| sv (vaB rfl) <| WL.nil <| WX.mid () trivial ⟨rfl, trivial⟩ trivial (fun w h => h.suf)
  exact WC.ret <| WX.ret1 rfl (()) (trivial) rfl (fun _ h => h)
end Go.Proofs.Ytijbgeboaakmmaa
