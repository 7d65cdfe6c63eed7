/-
  Layer 1's reference: sums.
-/
import Derived.Test.YtephlppgappcnaaPackSpecA
set_option linter.unusedVariables false
set_option linter.unusedSimpArgs false
set_option maxRecDepth 4000
namespace Go.Proofs.Ytephlppgappcnaa
open Go.Sl Go.RowKit Go.Pack

theorem ref_sum {w0 : World} {A : List HProp} {base : Option Addr} {c : Nat} {bs : List UInt8} [hR : Reads w0 A base (u8s bs)] (hb : bs.length ≤ 140737488355328) :
    Fun Try.prog w0 53 [.slice base bs.length c] A (Ret w0 (fun _ : Unit => True) (fun _ => .int .u32 (sum bs)) (fun _ => A)) := by
  refine Fun.enter Try.func53 rfl Try.ntmps53 rfl ?_
  refine WC.seq <| WC.region <| sv (vaI rfl) <| WL.nil <| WX.thenN <| WC.seq <| WC.region <| sv (vaI rfl) <| WL.nil <| WX.thenN <| WC.seq <| WC.seq <| WC.region <| sv (vaI rfl) <| WL.nil <| WX.thenN <| WC.block <| ?_
  refine WC.loop (ι := Nat) (fun i => [(3, .int .u32 (crc (BitVec.allOnes 32) (bs.take i)).toNat), (4, .int .i64 i)]) [(0, .slice _ _ _)] (fun i => A) (fun i => i ≤ bs.length) (fun i => bs.length - i) (0) (by omega) ⟨iv (by simp [crc]), rfl, trivial⟩ ⟨rfl, trivial⟩ (fun _ h => h) ?_
  intro i hi ρh
  refine WC.seq <| WC.seq <| WC.region <| sv (vmI rfl) <| sv (vmS rfl) <| sv (vlen Try.underlying22 rfl) <| sv (vlt rfl rfl) <| WL.nil <| WX.thenN <| ?_
  refine WC.ite rfl (fun h1 => ?_) (fun h1 => ?_)
  · -- then
    have h1' : i < bs.length := by omega
    generalize hr : crc (BitVec.allOnes 32) (bs.take i) = r
    refine WC.skip <| WX.thenN <| WC.seq <| WC.block <| WC.seq <| WC.region <| sv (vaI rfl) <| WL.nil <| WX.thenN <| WC.block <| ?_
    refine WC.loop (ι := Nat) (fun k => [(3, .int .u32 (refbits r bs[i] k).toNat), (5, .int .i64 k)]) [(0, .slice _ _ _), (4, .int _ _)] (fun k => A) (fun k => k ≤ 8) (fun k => 8 - k) (0) (by omega) ⟨iv (by rw [refbits_zero]), rfl, trivial⟩ ⟨rfl, rfl, trivial⟩ (fun _ h => h) ?_
    intro k hk ρh2
    refine WC.seq <| WC.seq <| WC.region <| sv (vmI rfl) <| sv (vlt rfl rfl) <| WL.nil <| WX.thenN <| ?_
    refine WC.ite rfl (fun h2 => ?_) (fun h2 => ?_)
    · -- then
      have hk8 : k < 8 := by omega
      have hbit := bit_raw bs[i] k hk8
      have hlt := (refbits r bs[i] k).isLt
      have hm1 : ((refbits r bs[i] k).toNat : Int).tmod 2 = (((refbits r bs[i] k).toNat % 2 : Nat) : Int) := by rw [Int.tmod_eq_emod_of_nonneg (by omega)]; omega
      have hm2 : ((bs[i].toNat >>> k : Nat) : Int).tmod 2 = (((bs[i].toNat >>> k) % 2 : Nat) : Int) := by generalize bs[i].toNat >>> k = m; rw [Int.tmod_eq_emod_of_nonneg (by omega)]; omega
      have hd : IntKind.u32.wrap (((refbits r bs[i] k).toNat : Int).tdiv 2) = ((refbits r bs[i] k >>> 1).toNat : Int) := by
        rw [Int.tdiv_eq_ediv_of_nonneg (by omega), IntKind.wrap_u32, BitVec.toNat_ushiftRight]; omega
      refine WC.skip <| WX.thenN <| WC.seq <| WC.block <| WC.seq <| WC.region <| sv (vmI rfl) <| sv (vrem rfl rfl (by decide)) <| sv (vmS rfl) <| sv (vmI rfl) <| sv (vixb Try.underlying22 sz5 rfl rfl (by omega) (by omega) (by omega)) <| sv (vldb pl5 rfl h1') <| sv (vmI rfl) <| sv (vshr rfl rfl (by omega)) <| sv (vcv is5 Try.underlying81 rfl) <| sv (vrem rfl rfl (by decide)) <| sv (vne rfl rfl) <| sv (vaB rfl) <| WL.nil <| WX.thenN <| WC.seq <| WC.region <| sv (vmI rfl) <| sv (vquo rfl rfl (by decide)) <| sv (vaI rfl) <| WL.nil <| WX.thenN <| WC.seq <| WC.region <| sv (vmB rfl) <| WL.nil <| WX.thenN <| ?_
      refine WC.ite rfl (fun h3 => ?_) (fun h3 => ?_)
      · -- then
        rw [hbit, hm1, hm2] at h3
        have hs := refbits_succ r bs[i] k
        rw [if_pos (by omega)] at hs
        exact WC.region <| sv (vmI rfl) <| sv (vxor rfl rfl) <| sv (vaI rfl) <| WL.nil <| WX.blockN <| WX.thenN <| WC.region <| sv (vmI rfl) <| sv (vadd rfl rfl (by omega)) <| sv (vaI rfl) <| WL.nil <| WX.again (k + 1) (by omega) (by omega) ⟨iv (by rw [hs, hd]; exact Pack.u32_xor _ poly), rfl, trivial⟩ ⟨rfl, rfl, trivial⟩ (fun _ h => h)
      · -- else
        rw [hbit, hm1, hm2] at h3
        have hs := refbits_succ r bs[i] k
        rw [if_neg (by omega), BitVec.xor_zero] at hs
        exact WC.skip <| WX.blockN <| WX.thenN <| WC.region <| sv (vmI rfl) <| sv (vadd rfl rfl (by omega)) <| sv (vaI rfl) <| WL.nil <| WX.again (k + 1) (by omega) (by omega) ⟨iv (by rw [hs, hd]), rfl, trivial⟩ ⟨rfl, rfl, trivial⟩ (fun _ h => h)
    · -- else
      have hk8 : k = 8 := by omega
      subst hk8
      exact WC.exit <| WX.thenE <| WX.thenE <| WX.blockH <| WX.blockN <| WX.thenN <| WC.region <| sv (vmI rfl) <| sv (vadd rfl rfl (by omega)) <| sv (vaI rfl) <| WL.nil <| WX.again (i + 1) (by omega) (by omega) ⟨iv (by rw [List.take_succ_eq_append_getElem h1', crc_snoc, hr, refbits_eight]), rfl, trivial⟩ ⟨rfl, trivial⟩ (fun _ h => h)
  · -- else
    have hi' : i = bs.length := by omega
    subst hi'
    exact WC.exit <| WX.thenE <| WX.thenE <| WX.blockH <| WX.thenN <| WC.seq <| WC.region <| sv (vmI rfl) <| sv (vcom rfl) <| sv (vaI rfl) <| WL.nil <| WX.thenN <| WC.ret <| WX.ret1 rfl (()) (trivial) (iv (by rw [List.take_length]; exact com_raw _)) (fun _ h => h)
end Go.Proofs.Ytephlppgappcnaa
