/-
  What the functions of layer 1 compute: contracts, walked from the translation.
-/
import Derived.Test.YthljpljbpbkkcaaDoorPackPure
import Derived.Test.YthljpljbpbkkcaaDoorBase
set_option linter.unusedVariables false
set_option linter.unusedSimpArgs false
set_option maxRecDepth 4000
namespace Go.Proofs.YthljpljbpbkkcaaDoor
open Go.Sl Go.Pack Go.RowKit

theorem Own.cel_row {w0 w : World} {g : Nat} {cur vs : List Value} {c s : Nat} {e : TypeId} {R : List HProp} (hp : vs <+: cur) (hl : cur.length = c * s) (hc : c ≤ maxLen) (H : Own w0 (cel g cur e :: R) w) : Own w0 (row (some ⟨g, 0, none⟩) c s e vs :: R) w := H.intro_row hp hl hc
theorem madeU8 (k : Nat) : (madeCells (Value.int .u8 0).cells k).toList = List.replicate k (.int .u8 0) := made_rep rfl k

theorem pack_num {w0 : World} {A : List HProp} {base : Option Addr} {c : Nat} {bs : List UInt8} {x : Int} [hR : Reads w0 A base (u8s bs)] (hb : bs.length ≤ 140737488351232) (hx : -9223372036854775808 ≤ x ∧ x ≤ 9223372036854775807) :
    Fun Tryd.prog w0 20 [.slice base bs.length c, .int .i64 x] A
      (Ret w0 (fun i : Option Addr × Nat => bs.length + (num x).length ≤ i.2) (fun i => .slice i.1 (bs.length + (num x).length) i.2) (fun i => row i.1 i.2 1 5 (u8s (bs ++ num x)) :: A)) := by
  have hz := zig_lt hx
  have hn := leb_len10 hz
  refine Fun.enter Tryd.func20 rfl Tryd.ntmps20 rfl ?_
  refine WC.seq <| WC.region <| sv (vaS rfl) <| WL.nil <| WX.thenN <| WC.seq <| WC.region <| sv (vmI rfl) <| sv (vcv is3 Tryd.underlying86 rfl) <| sv (vshl rfl rfl (by omega)) <| sv (vmI rfl) <| sv (vshr rfl rfl (by omega)) <| sv (vcv is3 Tryd.underlying86 rfl) <| sv (vxor rfl rfl) <| sv (vaI rfl) <| WL.nil <| WX.thenN <| ?_
  refine WC.seq <| WC.region <| sv (vmS rfl) <| sv (vlen Tryd.underlying25 rfl) <| sv (vmS rfl) <| sv (vlen Tryd.underlying25 rfl) <| sv (vadd rfl rfl (by omega)) <| mk Tryd.underlying25 zt5 rfl rfl (by omega) (by omega) (by omega) (by omega) fun g => sv (vaS rfl) <| WL.nil <| WX.thenN <| ?_
  have hc1 : ((bs.length : Int) + 10).toNat * 1 = bs.length + 10 := by omega
  rw [madeU8, hc1]
  refine WC.seq <| WC.region <| sv (vmS rfl) <| sv (vmS rfl) <| cp sz5 Tryd.underlying25 rfl rfl (reads (vs := u8s bs)) (by simp) (u8s_one bs) (by simp) <| WL.nil <| WX.thenN <| WC.seq <| WC.block <| ?_
  have hp : u8s bs <+: splice (List.replicate (bs.length + 10) (.int .u8 0)) 0 (u8s bs) := by simp [splice]
  have hl : (splice (List.replicate (bs.length + 10) (Value.int .u8 0)) 0 (u8s bs)).length = (bs.length + 10) * 1 := by rw [splice_length (by simp)]; simp
  refine WC.loop (ι := Nat × List UInt8 × Option Addr × Nat) (fun i => [(5, .int .u64 i.1), (6, .slice i.2.2.1 (bs.length + i.2.1.length) i.2.2.2)]) [] (fun i => row i.2.2.1 i.2.2.2 1 5 (u8s (bs ++ i.2.1)) :: A) (fun i => i.2.1 ++ leb i.1 = leb (zig x)) (fun i => i.1) (zig x, [], some ⟨g, 0, none⟩, bs.length + 10) rfl ⟨congrArg _ (zig_raw hx), rfl, trivial⟩ trivial (fun w h => ?_) ?_
  · simp only [List.append_nil]; exact Own.cel_row hp hl (by simp only [maxLen]; omega) h
  rintro ⟨z, out, base', c'⟩ hi ρh
  dsimp only at hi ⊢
  have hlen : out.length + (leb z).length ≤ 10 := by rw [← List.length_append, hi]; exact hn
  have hpos := leb_pos z
  refine WC.seq <| WC.seq <| WC.region <| sv (vmI rfl) <| sv (vgt rfl rfl) <| WL.nil <| WX.thenN <| ?_
  refine WC.ite rfl (fun h1 => ?_) (fun h1 => ?_)
  · -- then
    have h2 : ¬ z < 128 := by omega
    have h3 := leb_ge h2
    refine WC.skip <| WX.thenN <| WC.seq <| WC.block <| WC.region <| sv (vmS rfl) <| sv (vmI rfl) <| sv (vcv is86 Tryd.underlying5 rfl) <| sv (vor rfl rfl) <| ap1 (v := .int _ _) Tryd.underlying25 zt5 rfl (fun _ => rfl) (fun _ => rfl) rfl rfl rfl (by simp) (by simp only [maxLen]; omega) (by omega) fun _ base4 c4 hc4 => sv (vaS rfl) <| WL.nil <| WX.blockN <| WX.thenN <| WC.region <| sv (vmI rfl) <| sv (vshr rfl rfl (by omega)) <| sv (vaI rfl) <| WL.nil <| ?_
    refine WX.again (z / 128, out ++ [UInt8.ofNat (z % 128 + 128)], base4, c4) ?_ ?_ ⟨congrArg _ (shr7 z), ?_, trivial⟩ trivial (fun w h => ?_)
    · simp only; rw [List.append_assoc, List.singleton_append, ← h3]; exact hi
    · simp only; omega
    · simp only [List.length_append, List.length_cons, List.length_nil]; rfl
    · rw [byte_more] at h
      have e : u8s (bs ++ out) ++ [u8v (UInt8.ofNat (z % 128 + 128))] = u8s (bs ++ (out ++ [UInt8.ofNat (z % 128 + 128)])) := by simp [u8s]
      rw [e] at h
      exact h
  · -- else
    have h2 : z < 128 := by omega
    have h3 := leb_lt h2
    refine WC.exit <| WX.thenE <| WX.thenE <| WX.blockH <| WX.thenN <| WC.seq <| WC.region <| sv (vmS rfl) <| sv (vmI rfl) <| sv (vcv is86 Tryd.underlying5 rfl) <| ap1 (v := .int _ _) Tryd.underlying25 zt5 rfl (fun _ => rfl) (fun _ => rfl) rfl rfl rfl (by simp) (by simp only [maxLen]; omega) (by omega) fun _ base3 c3 hc3 => sv (vaS rfl) <| WL.nil <| WX.thenN <| WC.ret <| ?_
    refine WX.ret1 rfl (base3, c3) (by unfold num; rw [← hi, h3, List.length_append, List.length_singleton]; dsimp only; omega) ?_ (fun w h => ?_)
    · unfold num; rw [← hi, h3, List.length_append]; rfl
    · rw [byte_last z h2] at h
      have e : u8s (bs ++ out) ++ [u8v (UInt8.ofNat z)] = u8s (bs ++ num x) := by unfold num; rw [← hi, h3]; simp [u8s]
      rw [e] at h
      exact h

theorem pack_text {w0 : World} {A : List HProp} {base : Option Addr} {c : Nat} {bs : List UInt8} {s : ByteArray} [hR : Reads w0 A base (u8s bs)] (hb : bs.length ≤ 140737488351232) (hs : bs.length + s.size ≤ 140737488351232) :
    Fun Tryd.prog w0 21 [.slice base bs.length c, .string s] A
      (Ret w0 (fun i : Option Addr × Nat => bs.length + (text s.data.toList).length ≤ i.2) (fun i => .slice i.1 (bs.length + (text s.data.toList).length) i.2) (fun i => row i.1 i.2 1 5 (u8s (bs ++ text s.data.toList)) :: A)) := by
  have hx : -9223372036854775808 ≤ (s.size : Int) ∧ (s.size : Int) ≤ 9223372036854775807 := by omega
  have hn := num_len hx
  have hz : s.data.toList.length = s.size := by simp
  refine Fun.enter Tryd.func21 rfl Tryd.ntmps21 rfl ?_
  refine WC.seq <| WC.region <| sv (vaS rfl) <| WL.nil <| WX.thenN <| WC.seq <| WC.region <| sv (vmS rfl) <| sv (vmT rfl) <| sv (vlens Tryd.underlying9 rfl) <| cl (pack_num hb hx) ct20 rfl fun r _ => sv (vmT rfl) <| aps Tryd.underlying25 (.inl Tryd.underlying9) zt5 rfl rfl rfl (by simp) (by simp only [maxLen]; omega) (by omega) fun base' c' hc' => sv (vaS rfl) <| WL.nil <| WX.thenN <| WC.ret <| ?_
  refine WX.ret1 rfl (base', c') (by unfold text; rw [List.length_append, hz]; dsimp only; omega) ?_ (fun w h => ?_)
  · unfold text; rw [List.length_append, hz, ← Nat.add_assoc]; rfl
  · have e : u8s (bs ++ num (s.size : Int)) ++ u8s s.data.toList = u8s (bs ++ text s.data.toList) := by unfold text; rw [hz]; simp [u8s]
    rw [e] at h
    exact h

theorem pack_sum {w0 : World} {A : List HProp} {base : Option Addr} {c : Nat} {bs : List UInt8} [hR : Reads w0 A base (u8s bs)] (hb : bs.length ≤ 140737488355328) :
    Fun Tryd.prog w0 49 [.slice base bs.length c] A (Ret w0 (fun _ : Unit => True) (fun _ => .int .u32 (sum bs)) (fun _ => A)) := by
  refine Fun.enter Tryd.func49 rfl Tryd.ntmps49 rfl ?_
  refine WC.seq <| WC.region <| sv (vaI rfl) <| WL.nil <| WX.thenN <| WC.seq <| WC.region <| sv (vaI rfl) <| WL.nil <| WX.thenN <| WC.seq <| WC.seq <| WC.region <| sv (vmS rfl) <| sv (vlen Tryd.underlying25 rfl) <| sv (vmI rfl) <| WL.nil <| WX.thenN <| WC.block <| ?_
  refine WC.loop (ι := Nat) (fun i => [(3, .int .u32 (crc (BitVec.allOnes 32) (bs.take i)).toNat), (8, .int .i64 i)]) [(6, .slice _ _ _), (7, .int _ _)] (fun i => A) (fun i => i ≤ bs.length) (fun i => bs.length - i) 0 (Nat.zero_le _) ⟨iv (by simp [crc]), rfl, trivial⟩ ⟨rfl, rfl, trivial⟩ (fun _ h => h) ?_
  intro i hi ρh
  refine WC.seq <| WC.region <| sv (vlt rfl rfl) <| WL.nil <| WX.thenN <| WC.seq <| ?_
  refine WC.ite rfl (fun h1 => ?_) (fun h1 => ?_)
  · -- then
    have h1' : i < bs.length := by omega
    refine WC.skip <| WX.thenN <| WC.seq <| WC.block <| WC.seq <| WC.region <| sv (vixb Tryd.underlying25 sz5 rfl rfl (by omega) (by omega) (by omega)) <| sv (vldb pl5 rfl h1') <| sv (vaI rfl) <| WL.nil <| WX.thenN <| WC.seq <| WC.region <| sv (vmI rfl) <| sv (vmI rfl) <| sv (vcv is5 Tryd.underlying97 rfl) <| sv (vxor rfl rfl) <| sv (vaI rfl) <| WL.nil <| WX.thenN <| WC.seq <| WC.region <| sv (vmI rfl) <| WL.nil <| WX.thenN <| WC.block <| ?_
    refine WC.loop (ι := Nat) (fun k => [(3, .int .u32 (gsteps k (crc (BitVec.allOnes 32) (bs.take i) ^^^ BitVec.ofNat 32 bs[i].toNat)).toNat), (16, .int .i64 k)]) [(6, .slice _ _ _), (7, .int _ _), (8, .int _ _)] (fun _ => A) (fun k => k ≤ 8) (fun k => 8 - k) 0 (by omega) ⟨iv (xor_byte _ _), rfl, trivial⟩ ⟨rfl, rfl, rfl, trivial⟩ (fun _ h => h) ?_
    intro k hk ρh2
    refine WC.seq <| WC.region <| sv (vlt rfl rfl) <| WL.nil <| WX.thenN <| WC.seq <| ?_
    refine WC.ite rfl (fun h2 => ?_) (fun h2 => ?_)
    · -- then
      exact WC.skip <| WX.thenN <| WC.seq <| WC.block <| WC.region <| sv (vmI rfl) <| sv (vshr rfl rfl (by omega)) <| sv (vmI rfl) <| sv (vand rfl rfl) <| sv (vneg rfl) <| sv (vand rfl rfl) <| sv (vxor rfl rfl) <| sv (vaI rfl) <| WL.nil <| WX.blockN <| WX.thenN <| WC.region <| sv (vadd rfl rfl (by omega)) <| sv (vmI rfl) <| WL.nil <| WX.again (k + 1) (by omega) (by omega) ⟨iv (by rw [gsteps_succ]; exact step_raw _), rfl, trivial⟩ ⟨rfl, rfl, rfl, trivial⟩ (fun _ h => h)
    · -- else
      have hk8 : k = 8 := by omega
      subst hk8
      exact WC.exit <| WX.thenE <| WX.thenE <| WX.blockH <| WX.blockN <| WX.thenN <| WC.region <| sv (vadd rfl rfl (by omega)) <| sv (vmI rfl) <| WL.nil <| WX.again (i + 1) (by omega) (by omega) ⟨iv (by rw [List.take_succ_eq_append_getElem h1', crc_snoc]; rfl), rfl, trivial⟩ ⟨rfl, rfl, trivial⟩ (fun _ h => h)
  · -- else
    have hi' : i = bs.length := by omega
    subst hi'
    exact WC.exit <| WX.thenE <| WX.thenE <| WX.blockH <| WX.thenN <| WC.seq <| WC.region <| sv (vmI rfl) <| sv (vcom rfl) <| sv (vaI rfl) <| WL.nil <| WX.thenN <| WC.ret <| WX.ret1 rfl () trivial (iv (by rw [List.take_length]; exact com_raw _)) (fun _ h => h)
end Go.Proofs.YthljpljbpbkkcaaDoor
