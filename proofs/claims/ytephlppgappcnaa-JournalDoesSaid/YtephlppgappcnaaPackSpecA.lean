/-
  What the functions of layer 1 compute: contracts, walked from the translation.
-/
import Derived.Test.YtephlppgappcnaaPackPure
import Derived.Test.YtephlppgappcnaaBase
set_option linter.unusedVariables false
set_option linter.unusedSimpArgs false
set_option maxRecDepth 4000
namespace Go.Proofs.Ytephlppgappcnaa
open Go.Sl Go.Pack Go.RowKit

theorem Own.cel_row {w0 w : World} {g : Nat} {cur vs : List Value} {c s : Nat} {e : TypeId} {R : List HProp} (hp : vs <+: cur) (hl : cur.length = c * s) (hc : c ≤ maxLen) (H : Own w0 (cel g cur e :: R) w) : Own w0 (row (some ⟨g, 0, none⟩) c s e vs :: R) w := H.intro_row hp hl hc
theorem madeU8 (k : Nat) : (madeCells (Value.int .u8 0).cells k).toList = List.replicate k (.int .u8 0) := made_rep rfl k

theorem pack_sum {w0 : World} {A : List HProp} {base : Option Addr} {c : Nat} {bs : List UInt8} [hR : Reads w0 A base (u8s bs)] (hb : bs.length ≤ 140737488355328) :
    Fun Try.prog w0 46 [.slice base bs.length c] A (Ret w0 (fun _ : Unit => True) (fun _ => .int .u32 (sum bs)) (fun _ => A)) := by
  refine Fun.enter Try.func46 rfl Try.ntmps46 rfl ?_
  refine WC.seq <| WC.region <| sv (vaI rfl) <| WL.nil <| WX.thenN <| WC.seq <| WC.region <| sv (vaI rfl) <| WL.nil <| WX.thenN <| WC.seq <| WC.seq <| WC.region <| sv (vmS rfl) <| sv (vlen Try.underlying22 rfl) <| sv (vmI rfl) <| WL.nil <| WX.thenN <| WC.block <| ?_
  refine WC.loop (ι := Nat) (fun i => [(3, .int .u32 (crc (BitVec.allOnes 32) (bs.take i)).toNat), (8, .int .i64 i)]) [(6, .slice _ _ _), (7, .int _ _)] (fun i => A) (fun i => i ≤ bs.length) (fun i => bs.length - i) 0 (Nat.zero_le _) ⟨iv (by simp [crc]), rfl, trivial⟩ ⟨rfl, rfl, trivial⟩ (fun _ h => h) ?_
  intro i hi ρh
  refine WC.seq <| WC.region <| sv (vlt rfl rfl) <| WL.nil <| WX.thenN <| WC.seq <| ?_
  refine WC.ite rfl (fun h1 => ?_) (fun h1 => ?_)
  · -- then
    have h1' : i < bs.length := by omega
    refine WC.skip <| WX.thenN <| WC.seq <| WC.block <| WC.seq <| WC.region <| sv (vixb Try.underlying22 sz5 rfl rfl (by omega) (by omega) (by omega)) <| sv (vldb pl5 rfl h1') <| sv (vaI rfl) <| WL.nil <| WX.thenN <| WC.seq <| WC.region <| sv (vmI rfl) <| sv (vmI rfl) <| sv (vcv is5 Try.underlying81 rfl) <| sv (vxor rfl rfl) <| sv (vaI rfl) <| WL.nil <| WX.thenN <| WC.seq <| WC.region <| sv (vmI rfl) <| WL.nil <| WX.thenN <| WC.block <| ?_
    refine WC.loop (ι := Nat) (fun k => [(3, .int .u32 (gsteps k (crc (BitVec.allOnes 32) (bs.take i) ^^^ BitVec.ofNat 32 bs[i].toNat)).toNat), (16, .int .i64 k)]) [(6, .slice _ _ _), (7, .int _ _), (8, .int _ _)] (fun _ => A) (fun k => k ≤ 8) (fun k => 8 - k) 0 (by omega) ⟨iv (xor_byte _ _), rfl, trivial⟩ ⟨rfl, rfl, rfl, trivial⟩ (fun _ h => h) ?_
    intro k hk ρh2
    refine WC.seq <| WC.region <| sv (vlt rfl rfl) <| WL.nil <| WX.thenN <| WC.seq <| ?_
    refine WC.ite rfl (fun h2 => ?_) (fun h2 => ?_)
    · -- then
      exact WC.skip <| WX.thenN <| WC.seq <| WC.block <| WC.region <| sv (vmI rfl) <| sv (vshr rfl rfl (by omega)) <| sv (vmI rfl) <| sv (vand rfl rfl) <| sv (vneg rfl) <| sv (vand rfl rfl) <| sv (vxor rfl rfl) <| sv (vaI rfl) <| WL.nil <| WX.blockN <| WX.thenN <| WC.region <| sv (vadd rfl rfl (by omega)) <| sv (vmI rfl) <| WL.nil <| WX.again (k + 1) (by omega) (by omega) ⟨iv (by rw [gsteps_succ]; exact step_raw _), rfl, trivial⟩ ⟨rfl, rfl, rfl, trivial⟩ (fun _ h => h)
    · -- else
      have hk8 : k = 8 := by omega
      subst hk8
      exact WC.exit <| WX.thenE <| WX.thenE <| WX.blockH <| WX.blockN <| WX.thenN <| WC.region <| sv (vadd rfl rfl (by omega)) <| sv (vmI rfl) <| WL.nil <| WX.again (i + 1) (by omega) (by omega) ⟨iv (by rw [List.take_succ_eq_append_getElem h1', crc_snoc]; rfl), rfl, trivial⟩ ⟨rfl, rfl, trivial⟩ (fun _ h => h)
  · -- else
    have hi' : i = bs.length := by omega
    subst hi'
    exact WC.exit <| WX.thenE <| WX.thenE <| WX.blockH <| WX.thenN <| WC.seq <| WC.region <| sv (vmI rfl) <| sv (vcom rfl) <| sv (vaI rfl) <| WL.nil <| WX.thenN <| WC.ret <| WX.ret1 rfl () trivial (iv (by rw [List.take_length]; exact com_raw _)) (fun _ h => h)
end Go.Proofs.Ytephlppgappcnaa
