/-
  What the document's functions of layer 1 compute: contracts, walked from the translation.
-/
import Derived.Test.YtbmfcfddbcbdgaaPackSpecC
set_option linter.unusedVariables false
set_option linter.unusedSimpArgs false
set_option maxRecDepth 4000
namespace Go.Proofs.Ytbmfcfddbcbdgaa
open Go.Sl Go.Pack Go.RowKit

theorem ref_num {w0 : World} {A : List HProp} {x : Int} (hx : -9223372036854775808 ≤ x ∧ x ≤ 9223372036854775807) :
    Fun Try.prog w0 11 [.int .i64 x] A
      (Ret w0 (fun i : Option Addr × Nat => (num x).length ≤ i.2) (fun i => .slice i.1 (num x).length i.2) (fun i => row i.1 i.2 1 5 (u8s (num x)) :: A)) := by
  have hz := zig_lt hx
  have hn := leb_len10 hz
  refine Fun.enter Try.func11 rfl Try.ntmps11 rfl ?_
  refine WC.seq <| WC.region <| sv (vaS rfl) <| WL.nil <| WX.thenN <| WC.seq <| WC.region <| sv (vaI rfl) <| WL.nil <| WX.thenN <| WC.seq <| WC.seq <| WC.region <| sv (vmI rfl) <| sv (vge rfl rfl) <| WL.nil <| WX.thenN <| ?_
  refine WC.ite rfl (fun h1 => ?_) (fun h1 => ?_)
  · -- then
    refine WC.region <| sv (vmI rfl) <| sv (vcv is3 Try.underlying47 rfl) <| sv (vmulr rfl rfl) <| sv (vaI rfl) <| WL.nil <| WX.thenN <| WC.seq <| WC.region <| sv (vaS rfl) <| WL.nil <| WX.thenN <| WC.seq <| WC.block <| ?_
    refine WC.loop (ι := Nat × List UInt8 × Option Addr × Nat) (fun i => [(3, .int .u64 i.1), (4, .slice i.2.2.1 i.2.1.length i.2.2.2)]) [] (fun i => row i.2.2.1 i.2.2.2 1 5 (u8s i.2.1) :: A) (fun i => i.2.1 ++ leb i.1 = leb (zig x)) (fun i => i.1) ((zig x, [], none, 0)) (rfl) ⟨iv (ref_zig_pos hx h1), rfl, trivial⟩ trivial (fun w h => h.intro_row_nil) ?_
    rintro ⟨z, out, base', c'⟩ hi ρh
    dsimp only at hi ⊢
    have hlen : out.length + (leb z).length ≤ 10 := by rw [← List.length_append, hi]; exact hn
    have hpos := leb_pos z
    have hzl : z < 18446744073709551616 ∨ True := .inr trivial
    refine WC.seq <| WC.seq <| WC.region <| sv (vmI rfl) <| sv (vge rfl rfl) <| WL.nil <| WX.thenN <| ?_
    refine WC.ite rfl (fun h2 => ?_) (fun h2 => ?_)
    · -- then
      have h3 := leb_ge (z := z) (by omega)
      refine WC.skip <| WX.thenN <| WC.block <| WC.seq <| WC.region <| sv (vmS rfl) <| sv (vmI rfl) <| sv (vrem rfl rfl (by decide)) <| sv (vaddr rfl rfl) <| sv (vcv is47 Try.underlying5 rfl) <| ap1 (v := .int _ _) Try.underlying22 zt5 rfl (fun _ => rfl) (fun _ => rfl) rfl rfl rfl (by simp) (by simp only [maxLen]; omega) (by omega) fun _ base10 c10 hc10 => sv (vaS rfl) <| WL.nil <| WX.thenN <| WC.region <| sv (vmI rfl) <| sv (vquo rfl rfl (by decide)) <| sv (vaI rfl) <| WL.nil <| WX.blockN <| WX.again ((z / 128, out ++ [UInt8.ofNat (z % 128 + 128)], base10, c10)) (by simp only; rw [List.append_assoc, List.singleton_append, ← h3]; exact hi) (by simp only; omega) ⟨iv (ref_quo (by have : z ≤ zig x := (leb_sub hi); omega)), by simp only [List.length_append]; rfl, trivial⟩ trivial (fun w h => ?_)
      rw [ref_more] at h
      have e : u8s out ++ [u8v (UInt8.ofNat (z % 128 + 128))] = u8s (out ++ [UInt8.ofNat (z % 128 + 128)]) := by simp [u8s]
      rw [e] at h
      exact h
    · -- else
      have h3 := leb_lt (z := z) (by omega)
      refine WC.exit <| WX.thenE <| WX.thenE <| WX.blockH <| WX.thenN <| WC.seq <| WC.region <| sv (vmS rfl) <| sv (vmI rfl) <| sv (vcv is47 Try.underlying5 rfl) <| ap1 (v := .int _ _) Try.underlying22 zt5 rfl (fun _ => rfl) (fun _ => rfl) rfl rfl rfl (by simp) (by simp only [maxLen]; omega) (by omega) fun _ base14 c14 hc14 => sv (vaS rfl) <| WL.nil <| WX.thenN <| WC.seq <| WC.region <| sv (vmS rfl) <| sv (vaS rfl) <| WL.nil <| WX.thenN <| WC.ret <| WX.ret1 rfl ((base14, c14)) (by unfold num; rw [← hi, h3, List.length_append, List.length_singleton]; dsimp only; omega) (by unfold num; rw [← hi, h3, List.length_append]; rfl) (fun w h => ?_)
      rw [byte_last z (by omega)] at h
      have e : u8s out ++ [u8v (UInt8.ofNat z)] = u8s (num x) := by unfold num; rw [← hi, h3]; simp [u8s]
      rw [e] at h
      exact h
  · -- else
    refine WC.region <| sv (vmI rfl) <| sv (vadd rfl rfl (by omega)) <| sv (vneg rfl) <| sv (vcv is3 Try.underlying47 rfl) <| sv (vmulr rfl rfl) <| sv (vaddr rfl rfl) <| sv (vaI rfl) <| WL.nil <| WX.thenN <| WC.seq <| WC.region <| sv (vaS rfl) <| WL.nil <| WX.thenN <| WC.seq <| WC.block <| ?_
    refine WC.loop (ι := Nat × List UInt8 × Option Addr × Nat) (fun i => [(3, .int .u64 i.1), (4, .slice i.2.2.1 i.2.1.length i.2.2.2)]) [] (fun i => row i.2.2.1 i.2.2.2 1 5 (u8s i.2.1) :: A) (fun i => i.2.1 ++ leb i.1 = leb (zig x) ∧ i.1 < 18446744073709551616) (fun i => i.1) ((zig x, [], none, 0)) (⟨rfl, hz⟩) ⟨iv (ref_zig_neg hx h1), rfl, trivial⟩ trivial (fun w h => h.intro_row_nil) ?_
    rintro ⟨z, out, base', c'⟩ ⟨hi, hzl⟩ ρh
    dsimp only at hi hzl ⊢
    have hlen : out.length + (leb z).length ≤ 10 := by rw [← List.length_append, hi]; exact hn
    have hpos := leb_pos z
    refine WC.seq <| WC.seq <| WC.region <| sv (vmI rfl) <| sv (vge rfl rfl) <| WL.nil <| WX.thenN <| ?_
    refine WC.ite rfl (fun h3 => ?_) (fun h3 => ?_)
    · -- then
      have h3 := leb_ge (z := z) (by omega)
      refine WC.skip <| WX.thenN <| WC.block <| WC.seq <| WC.region <| sv (vmS rfl) <| sv (vmI rfl) <| sv (vrem rfl rfl (by decide)) <| sv (vaddr rfl rfl) <| sv (vcv is47 Try.underlying5 rfl) <| ap1 (v := .int _ _) Try.underlying22 zt5 rfl (fun _ => rfl) (fun _ => rfl) rfl rfl rfl (by simp) (by simp only [maxLen]; omega) (by omega) fun _ base10 c10 hc10 => sv (vaS rfl) <| WL.nil <| WX.thenN <| WC.region <| sv (vmI rfl) <| sv (vquo rfl rfl (by decide)) <| sv (vaI rfl) <| WL.nil <| WX.blockN <| WX.again ((z / 128, out ++ [UInt8.ofNat (z % 128 + 128)], base10, c10)) (⟨by simp only; rw [List.append_assoc, List.singleton_append, ← h3]; exact hi, by simp only; omega⟩) (by simp only; omega) ⟨iv (ref_quo hzl), by simp only [List.length_append]; rfl, trivial⟩ trivial (fun w h => ?_)
      rw [ref_more] at h
      have e : u8s out ++ [u8v (UInt8.ofNat (z % 128 + 128))] = u8s (out ++ [UInt8.ofNat (z % 128 + 128)]) := by simp [u8s]
      rw [e] at h
      exact h
    · -- else
      have h3 := leb_lt (z := z) (by omega)
      refine WC.exit <| WX.thenE <| WX.thenE <| WX.blockH <| WX.thenN <| WC.seq <| WC.region <| sv (vmS rfl) <| sv (vmI rfl) <| sv (vcv is47 Try.underlying5 rfl) <| ap1 (v := .int _ _) Try.underlying22 zt5 rfl (fun _ => rfl) (fun _ => rfl) rfl rfl rfl (by simp) (by simp only [maxLen]; omega) (by omega) fun _ base14 c14 hc14 => sv (vaS rfl) <| WL.nil <| WX.thenN <| WC.seq <| WC.region <| sv (vmS rfl) <| sv (vaS rfl) <| WL.nil <| WX.thenN <| WC.ret <| WX.ret1 rfl ((base14, c14)) (by unfold num; rw [← hi, h3, List.length_append, List.length_singleton]; dsimp only; omega) (by unfold num; rw [← hi, h3, List.length_append]; rfl) (fun w h => ?_)
      rw [byte_last z (by omega)] at h
      have e : u8s out ++ [u8v (UInt8.ofNat z)] = u8s (num x) := by unfold num; rw [← hi, h3]; simp [u8s]
      rw [e] at h
      exact h

theorem ref_text {w0 : World} {A : List HProp} {s : ByteArray} (hs : s.size ≤ 140737488351232) :
    Fun Try.prog w0 12 [.string s] A
      (Ret w0 (fun i : Option Addr × Nat => (text s.data.toList).length ≤ i.2) (fun i => .slice i.1 (text s.data.toList).length i.2) (fun i => row i.1 i.2 1 5 (u8s (text s.data.toList)) :: A)) := by
  have hx : -9223372036854775808 ≤ (s.size : Int) ∧ (s.size : Int) ≤ 9223372036854775807 := by omega
  have hn := num_len hx
  have hz : s.data.toList.length = s.size := by simp
  refine Fun.enter Try.func12 rfl Try.ntmps12 rfl ?_
  refine WC.seq <| WC.region <| sv (vaS rfl) <| WL.nil <| WX.thenN <| WC.seq <| WC.region <| sv (vmT rfl) <| sv (vlens Try.underlying9 rfl) <| cl (ref_num hx) ct11 rfl fun r _ => sv (vaS rfl) <| WL.nil <| WX.thenN <| WC.seq <| WC.region <| sv (vmS rfl) <| sv (vmT rfl) <| aps Try.underlying22 (.inl Try.underlying9) zt5 rfl rfl rfl (by simp) (by simp only [maxLen]; omega) (by omega) fun base' c' hc' => sv (vaS rfl) <| WL.nil <| WX.thenN <| WC.seq <| WC.region <| sv (vmS rfl) <| sv (vaS rfl) <| WL.nil <| WX.thenN <| WC.ret <| WX.ret1 rfl ((base', c')) (by unfold text; rw [List.length_append, hz]; dsimp only; omega) (by unfold text; rw [List.length_append, hz]; rfl) (fun w h => ?_)
  have e : u8s (num (s.size : Int)) ++ u8s s.data.toList = u8s (text s.data.toList) := by unfold text; rw [hz]; simp [u8s]
  rw [e] at h
  exact h

theorem ref_sum {w0 : World} {A : List HProp} {base : Option Addr} {c : Nat} {bs : List UInt8} [hR : Reads w0 A base (u8s bs)] (hb : bs.length ≤ 140737488355328) :
    Fun Try.prog w0 18 [.slice base bs.length c] A (Ret w0 (fun _ : Unit => True) (fun _ => .int .u32 (sum bs)) (fun _ => A)) := by
  refine Fun.enter Try.func18 rfl Try.ntmps18 rfl ?_
  refine WC.seq <| WC.region <| sv (vaI rfl) <| WL.nil <| WX.thenN <| WC.seq <| WC.region <| sv (vaI rfl) <| WL.nil <| WX.thenN <| WC.seq <| WC.seq <| WC.region <| sv (vaI rfl) <| WL.nil <| WX.thenN <| WC.block <| ?_
  refine WC.loop (ι := Nat) (fun i => [(3, .int .u32 (crc (BitVec.allOnes 32) (bs.take i)).toNat), (4, .int .i64 i)]) [(0, .slice _ _ _)] (fun i => A) (fun i => i ≤ bs.length) (fun i => bs.length - i) (0) (by omega) ⟨iv (by simp [crc]), rfl, trivial⟩ ⟨rfl, trivial⟩ (fun _ h => h) ?_
  intro i hi ρh
  refine WC.seq <| WC.seq <| WC.region <| sv (vmI rfl) <| sv (vmS rfl) <| sv (vlen Try.underlying22 rfl) <| sv (vlt rfl rfl) <| WL.nil <| WX.thenN <| ?_
  refine WC.ite rfl (fun h1 => ?_) (fun h1 => ?_)
  · -- then
    have h1' : i < bs.length := by omega
    generalize hr : crc (BitVec.allOnes 32) (bs.take i) = r
    refine WC.skip <| WX.thenN <| WC.seq <| WC.block <| WC.seq <| WC.region <| sv (vaI rfl) <| WL.nil <| WX.thenN <| WC.block <| ?_
    refine WC.loop (ι := Nat) (fun k => [(3, .int .u32 (refbits r bs[i] k).toNat), (5, .int .i64 k)]) [(0, .slice _ _ _), (4, .int _ _)] (fun k => A) (fun k => k ≤ 8) (fun k => 8 - k) (0) (by omega) ⟨iv (by rw [refbits_zero]), rfl, trivial⟩ ⟨rfl, rfl, trivial⟩ (fun _ h => h) ?_
    intro k hk ρh2
    refine WC.seq <| WC.seq <| WC.region <| sv (vmI rfl) <| sv (vlt rfl rfl) <| WL.nil <| WX.thenN <| ?_
    refine WC.ite rfl (fun h2 => ?_) (fun h2 => ?_)
    · -- then
      have hk8 : k < 8 := by omega
      have hbit := bit_raw bs[i] k hk8
      have hlt := (refbits r bs[i] k).isLt
      have hm1 : ((refbits r bs[i] k).toNat : Int).tmod 2 = (((refbits r bs[i] k).toNat % 2 : Nat) : Int) := by rw [Int.tmod_eq_emod_of_nonneg (by omega)]; omega
      have hm2 : ((bs[i].toNat >>> k : Nat) : Int).tmod 2 = (((bs[i].toNat >>> k) % 2 : Nat) : Int) := by generalize bs[i].toNat >>> k = m; rw [Int.tmod_eq_emod_of_nonneg (by omega)]; omega
      have hd : IntKind.u32.wrap (((refbits r bs[i] k).toNat : Int).tdiv 2) = ((refbits r bs[i] k >>> 1).toNat : Int) := by
        rw [Int.tdiv_eq_ediv_of_nonneg (by omega), IntKind.wrap_u32, BitVec.toNat_ushiftRight]; omega
      refine WC.skip <| WX.thenN <| WC.seq <| WC.block <| WC.seq <| WC.region <| sv (vmI rfl) <| sv (vrem rfl rfl (by decide)) <| sv (vmS rfl) <| sv (vmI rfl) <| sv (vixb Try.underlying22 sz5 rfl rfl (by omega) (by omega) (by omega)) <| sv (vldb pl5 rfl h1') <| sv (vmI rfl) <| sv (vshr rfl rfl (by omega)) <| sv (vcv is5 Try.underlying31 rfl) <| sv (vrem rfl rfl (by decide)) <| sv (vne rfl rfl) <| sv (vaB rfl) <| WL.nil <| WX.thenN <| WC.seq <| WC.region <| sv (vmI rfl) <| sv (vquo rfl rfl (by decide)) <| sv (vaI rfl) <| WL.nil <| WX.thenN <| WC.seq <| WC.region <| sv (vmB rfl) <| WL.nil <| WX.thenN <| ?_
      refine WC.ite rfl (fun h3 => ?_) (fun h3 => ?_)
      · -- then
        rw [hbit, hm1, hm2] at h3
        have hs := refbits_succ r bs[i] k
        rw [if_pos (by omega)] at hs
        exact WC.region <| sv (vmI rfl) <| sv (vxor rfl rfl) <| sv (vaI rfl) <| WL.nil <| WX.blockN <| WX.thenN <| WC.region <| sv (vmI rfl) <| sv (vadd rfl rfl (by omega)) <| sv (vaI rfl) <| WL.nil <| WX.again (k + 1) (by omega) (by omega) ⟨iv (by rw [hs, hd]; exact Pack.u32_xor _ poly), rfl, trivial⟩ ⟨rfl, rfl, trivial⟩ (fun _ h => h)
      · -- else
        rw [hbit, hm1, hm2] at h3
        have hs := refbits_succ r bs[i] k
        rw [if_neg (by omega), BitVec.xor_zero] at hs
        exact WC.skip <| WX.blockN <| WX.thenN <| WC.region <| sv (vmI rfl) <| sv (vadd rfl rfl (by omega)) <| sv (vaI rfl) <| WL.nil <| WX.again (k + 1) (by omega) (by omega) ⟨iv (by rw [hs, hd]), rfl, trivial⟩ ⟨rfl, rfl, trivial⟩ (fun _ h => h)
    · -- else
      have hk8 : k = 8 := by omega
      subst hk8
      exact WC.exit <| WX.thenE <| WX.thenE <| WX.blockH <| WX.blockN <| WX.thenN <| WC.region <| sv (vmI rfl) <| sv (vadd rfl rfl (by omega)) <| sv (vaI rfl) <| WL.nil <| WX.again (i + 1) (by omega) (by omega) ⟨iv (by rw [List.take_succ_eq_append_getElem h1', crc_snoc, hr, refbits_eight]), rfl, trivial⟩ ⟨rfl, trivial⟩ (fun _ h => h)
  · -- else
    have hi' : i = bs.length := by omega
    subst hi'
    exact WC.exit <| WX.thenE <| WX.thenE <| WX.blockH <| WX.thenN <| WC.seq <| WC.region <| sv (vmI rfl) <| sv (vcom rfl) <| sv (vaI rfl) <| WL.nil <| WX.thenN <| WC.ret <| WX.ret1 rfl (()) (trivial) (iv (by rw [List.take_length]; exact com_raw _)) (fun _ h => h)
end Go.Proofs.Ytbmfcfddbcbdgaa
