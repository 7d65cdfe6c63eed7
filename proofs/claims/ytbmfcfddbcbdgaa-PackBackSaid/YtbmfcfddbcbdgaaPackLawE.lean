/-
  Statements of layer 1 as walks: what is handed in stays.
-/
import Derived.Test.YtbmfcfddbcbdgaaPackLawD
set_option linter.unusedVariables false
set_option linter.unusedSimpArgs false
set_option maxRecDepth 4000
namespace Go.Proofs.Ytbmfcfddbcbdgaa
open Go.Sl Go.Pack Go.RowKit

theorem reads_pre {w0 : World} {A : List HProp} {base : Option Addr} {xs ys : List UInt8} (h : RdC w0 A base (u8s (xs ++ ys))) : RdC w0 A base (u8s xs) := by
  have := rd_take h xs.length
  simpa using this
theorem app_at {bs : List UInt8} {k : Nat} {c : UInt8} {ys : List UInt8} (h : ys[k]? = some c) : (u8s (bs ++ ys))[bs.length + k]? = some (u8v c) := by
  have : (bs ++ ys)[bs.length + k]? = some c := by rw [List.getElem?_append_right (by omega)]; simpa using h
  show (List.map u8v (bs ++ ys))[_]? = _
  rw [List.getElem?_map, this]; rfl
theorem walk_keeps {w0 : World} {A : List HProp} {base : Option Addr} {c : Nat} {bs : List UInt8} {x : Int} {s : ByteArray} [hR : Reads w0 A base (u8s bs)] (hx : -9223372036854775808 ≤ x ∧ x ≤ 9223372036854775807) :
    Fun Try.prog w0 10 [.slice base bs.length c, .int .i64 x, .string s] A (Ret w0 (fun _ : Unit => True) (fun _ => .bool true) (fun _ => A)) := by
  have hn := num_len hx
  refine Fun.enter Try.func10 rfl Try.ntmps10 rfl ?_
  refine WC.seq <| WC.region <| sv (vaB rfl) <| WL.nil <| WX.thenN <| WC.seq <| ?_
  refine WC.cut0 [(21, .bool (decide (4096 < bs.length ∨ 4096 < s.size)))] [(0, .slice _ _ _), (1, .int _ _), (2, .string _)] (A) ⟨rfl, rfl, rfl, trivial⟩ ?_ fun ρh => ?_
  · -- law.go:162
    refine WC.region <| sv (vmS rfl) <| sv (vlen Try.underlying22 rfl) <| svs (vgt rfl rfl) (fun q1 => ?_) (fun q1 => ?_)
    ·
      exact sv (vmB rfl) <| sng rfl <| sng rfl <| sng rfl <| sv (vpkt rfl) <| WL.nil <| WX.mid () trivial ⟨bT (by first | omega | simp_all | grind), trivial⟩ ⟨rfl, rfl, rfl, trivial⟩ (fun _ h => h)
    ·
      exact sv (vmB rfl) <| svg rfl (vmT rfl) <| svg rfl (vlens Try.underlying9 rfl) <| svg rfl (vgt rfl rfl) <| sv (vpkf rfl) <| WL.nil <| WX.mid () trivial ⟨bI (by first | omega | simp_all | grind), trivial⟩ ⟨rfl, rfl, rfl, trivial⟩ (fun _ h => h)
  refine WC.ite rfl (fun h1 => ?_) (fun h1 => ?_)
  · -- then
    exact WC.seq <| WC.region <| sv (vaB rfl) <| WL.nil <| WX.thenN <| WC.ret <| WX.thenR <| WX.ret1 rfl (()) (trivial) rfl (fun _ h => h)
  · -- else
    have hs : s.size ≤ 4096 := by omega
    have hx2 : -9223372036854775808 ≤ (s.size : Int) ∧ (s.size : Int) ≤ 9223372036854775807 := by omega
    have ht : (text s.data.toList).length ≤ 10 + s.size := by
      have h2 := num_len hx2
      unfold text; rw [List.length_append]; simp at *; omega
    refine WC.skip <| WX.thenN <| WC.seq <| WC.region <| bsl0 Try.underlying22 zt5 fun b1 => sv (vmS rfl) <| apb Try.underlying22 zt5 rfl rfl (by simp) (by simp) reads (by omega) fun base2 c2 hc2 => bslb [71, 72, 73] rfl Try.underlying22 zt5 (by simp [enumP, ev, u8s, u8v]) (by decide) fun b3 => pm (fun _ h => h.pk1) <| apb Try.underlying22 zt5 rfl rfl (by simp) (by simp) reads (by omega) fun base4 c4 hc4 => sv (vaS rfl) <| WL.nil <| WX.thenN <| WC.seq <| WC.region <| sv (vmS rfl) <| sv (vmS rfl) <| sv (vlen Try.underlying22 rfl) <| sv (vslH Try.underlying22 sz5 rfl rfl (by omega) (by omega)) <| sv (vmI rfl) <| cl (pack_num (bs := bs) (hR := ⟨reads_pre (xs := bs) (ys := [71, 72, 73]) reads⟩) (by omega) hx) ct15 rfl fun i1 hi1 => sv (vaS rfl) <| WL.nil <| WX.thenN <| WC.seq <| WC.region <| sv (vmS rfl) <| sv (vmS rfl) <| sv (vlen Try.underlying22 rfl) <| sv (vslH Try.underlying22 sz5 rfl rfl (by omega) (by omega)) <| sv (vmT rfl) <| cl (pack_text (bs := bs) (hR := ⟨reads_pre (xs := bs) (ys := [71, 72, 73]) reads⟩) (by omega) (by omega)) ct16 rfl fun i2 hi2 => sv (vaS rfl) <| WL.nil <| WX.thenN <| WC.seq <| WC.region <| bsl0 Try.underlying22 zt5 fun b9 => sv (vmS rfl) <| apb Try.underlying22 zt5 rfl rfl (by simp) (by simp) reads (by omega) fun base10 c10 hc10 => sv (vaS rfl) <| WL.nil <| WX.thenN <| WC.seq <| ?_
    refine WC.cut0 [(74, .bool false)] [(7, .slice _ _ _), (8, .slice _ _ _), (9, .slice _ _ _), (10, .slice _ _ _)] (row base10 c10 1 5 (u8s (bs ++ text s.data.toList)) :: row i2.1 i2.2 1 5 (u8s (bs ++ text s.data.toList)) :: row i1.1 i1.2 1 5 (u8s (bs ++ num x)) :: row base4 c4 1 5 (u8s (bs ++ [71, 72, 73])) :: cel b3 (u8s [71, 72, 73]) 5 :: A) ⟨rfl, rfl, rfl, rfl, trivial⟩ ?_ fun ρh => ?_
    · -- law.go:169
      exact WC.region <| sv (vmS rfl) <| sv (vmS rfl) <| sv (vlen Try.underlying22 rfl) <| sv (vslH Try.underlying22 sz5 rfl rfl (by omega) (by omega)) <| sv (vmS rfl) <| cl (law_same_true bs bs (reads_pre (xs := bs) (ys := [71, 72, 73]) reads) reads rfl rfl (by omega) rfl) ct14 rfl fun _ _ => sv (vnot rfl) <| sv (vmB rfl) <| svg rfl (vmS rfl) <| svg rfl (vmS rfl) <| svg rfl (vlen Try.underlying22 rfl) <| svg rfl (vixb Try.underlying22 sz5 rfl rfl (by omega) (by omega) (by simp)) <| svg rfl (vldr pl5 rfl (app_at (k := 0) rfl)) <| svg rfl (vF (vne rfl rfl) (by decide)) <| sv (vpkf rfl) <| sv (vmB rfl) <| svg rfl (vmS rfl) <| svg rfl (vmS rfl) <| svg rfl (vlen Try.underlying22 rfl) <| svg rfl (vadd rfl rfl (by omega)) <| svg rfl (vixb Try.underlying22 sz5 rfl rfl (by omega) (by omega) (by simp)) <| svg rfl (vldr pl5 rfl (app_at (k := 1) rfl)) <| svg rfl (vF (vne rfl rfl) (by decide)) <| sv (vpkf rfl) <| sv (vmB rfl) <| svg rfl (vmS rfl) <| svg rfl (vmS rfl) <| svg rfl (vlen Try.underlying22 rfl) <| svg rfl (vadd rfl rfl (by omega)) <| svg rfl (vixb Try.underlying22 sz5 rfl rfl (by omega) (by omega) (by simp)) <| svg rfl (vldr pl5 rfl (app_at (k := 2) rfl)) <| svg rfl (vF (vne rfl rfl) (by decide)) <| sv (vpkf rfl) <| WL.nil <| WX.mid () trivial ⟨rfl, trivial⟩ ⟨rfl, rfl, rfl, rfl, trivial⟩ (fun _ h => h)
    refine WC.ff rfl ?_
    refine WC.skip <| WX.thenN <| WC.seq <| WC.seq <| WC.region <| sv (vaI rfl) <| WL.nil <| WX.thenN <| WC.block <| ?_
    refine WC.loop (ι := Nat × List UInt8) (fun i => [(11, .int .i64 i.1)]) [(7, .slice _ _ _), (8, .slice _ _ _), (9, .slice _ _ _), (10, .slice _ _ _)] (fun i => row i1.1 i1.2 1 5 (u8s i.2) :: row base10 c10 1 5 (u8s (bs ++ text s.data.toList)) :: row i2.1 i2.2 1 5 (u8s (bs ++ text s.data.toList)) :: row base4 c4 1 5 (u8s (bs ++ [71, 72, 73])) :: cel b3 (u8s [71, 72, 73]) 5 :: A) (fun i => i.1 ≤ bs.length + (num x).length ∧ i.2.length = bs.length + (num x).length) (fun i => bs.length + (num x).length - i.1) ((0, bs ++ num x)) (⟨by omega, by simp⟩) ⟨rfl, trivial⟩ ⟨rfl, rfl, rfl, rfl, trivial⟩ (fun w h => h.pk2) ?_
    rintro ⟨k, L⟩ ⟨hk, hl⟩ ρh
    dsimp only at hk hl ⊢
    refine WC.seq <| WC.seq <| WC.region <| sv (vmI rfl) <| sv (vmS rfl) <| sv (vlen Try.underlying22 rfl) <| sv (vlt rfl rfl) <| WL.nil <| WX.thenN <| ?_
    refine WC.ite rfl (fun h3 => ?_) (fun h3 => ?_)
    · -- then
      have hkk : ((k : Int)).toNat < L.length := by omega
      exact WC.skip <| WX.thenN <| WC.seq <| WC.block <| WC.region <| sv (vmS rfl) <| sv (vmI rfl) <| sv (vixb Try.underlying22 sz5 rfl rfl (by omega) (by omega) (by omega)) <| str (v := u8v 5) pl5 sz5 rfl rfl rfl (by simpa using hkk) <| WL.nil <| WX.blockN <| WX.thenN <| WC.region <| sv (vmI rfl) <| sv (vadd rfl rfl (by omega)) <| sv (vaI rfl) <| WL.nil <| WX.again ((k + 1, L.set (k : Int).toNat 5)) (⟨by dsimp only; omega, by simp [hl]⟩) (by omega) ⟨rfl, trivial⟩ ⟨rfl, rfl, rfl, rfl, trivial⟩ (fun w h => by rw [← u8s_set]; exact h)
    · -- else
      refine WC.exit <| WX.thenE <| WX.thenE <| WX.blockH <| WX.thenN <| WC.seq <| WC.seq <| WC.region <| sv (vaI rfl) <| WL.nil <| WX.thenN <| WC.block <| ?_
      refine WC.loop (ι := Nat × List UInt8) (fun i => [(12, .int .i64 i.1)]) [(7, .slice _ _ _), (9, .slice _ _ _), (10, .slice _ _ _)] (fun i => row base4 c4 1 5 (u8s i.2) :: row i1.1 i1.2 1 5 (u8s L) :: row base10 c10 1 5 (u8s (bs ++ text s.data.toList)) :: row i2.1 i2.2 1 5 (u8s (bs ++ text s.data.toList)) :: cel b3 (u8s [71, 72, 73]) 5 :: A) (fun i => i.1 ≤ bs.length + 3 ∧ i.2.length = bs.length + 3) (fun i => bs.length + 3 - i.1) ((0, bs ++ [71, 72, 73])) (⟨by omega, by simp⟩) ⟨rfl, trivial⟩ ⟨rfl, rfl, rfl, trivial⟩ (fun w h => h.pk3) ?_
      rintro ⟨k2, M⟩ ⟨hk2, hm2⟩ ρh2
      dsimp only at hk2 hm2 ⊢
      refine WC.seq <| WC.seq <| WC.region <| sv (vmI rfl) <| sv (vmS rfl) <| sv (vlen Try.underlying22 rfl) <| sv (vlt rfl rfl) <| WL.nil <| WX.thenN <| ?_
      refine WC.ite rfl (fun h4 => ?_) (fun h4 => ?_)
      · -- then
        have hkk : ((k2 : Int)).toNat < M.length := by omega
        exact WC.skip <| WX.thenN <| WC.seq <| WC.block <| WC.region <| sv (vmS rfl) <| sv (vmI rfl) <| sv (vixb Try.underlying22 sz5 rfl rfl (by omega) (by omega) (by omega)) <| str (v := u8v 6) pl5 sz5 rfl rfl rfl (by simpa using hkk) <| WL.nil <| WX.blockN <| WX.thenN <| WC.region <| sv (vmI rfl) <| sv (vadd rfl rfl (by omega)) <| sv (vaI rfl) <| WL.nil <| WX.again ((k2 + 1, M.set (k2 : Int).toNat 6)) (⟨by dsimp only; omega, by simp [hm2]⟩) (by omega) ⟨rfl, trivial⟩ ⟨rfl, rfl, rfl, trivial⟩ (fun w h => by rw [← u8s_set]; exact h)
      · -- else
        refine WC.exit <| WX.thenE <| WX.thenE <| WX.blockH <| WX.thenN <| WC.seq <| WC.region <| sv (vaP rfl) <| WL.nil <| WX.thenN <| ?_
        refine WC.cut0 [(6, .bool true)] [] (A) trivial ?_ fun ρh => ?_
        · -- law.go:179
          exact WC.region <| cl (law_awake) ct13 rfl fun _ _ => sv (vmB rfl) <| svg rfl (vmS rfl) <| svg rfl (vmS rfl) <| gy rfl <| cl (law_same_true (bs ++ text s.data.toList) (bs ++ text s.data.toList) reads reads (by simp) (by simp) (by simp; omega) rfl) ct14 rfl fun _ _ => sv (vpkt rfl) <| sv (vmB rfl) <| svg rfl (vmP rfl) <| gy rfl <| cl (pack_rnum_nil) ct20 rfl fun _ _ => svg rfl (vT (veq rfl rfl) (by omega)) <| sv (vpkt rfl) <| sv (vmB rfl) <| svg rfl (vmP rfl) <| gy rfl <| cl (pack_rtext_nil) ct22 rfl fun _ _ => svg rfl (vT (veqs rfl rfl) (rfl)) <| sv (vpkt rfl) <| sv (vmB rfl) <| svg rfl (vmP rfl) <| gy rfl <| cl (pack_left_nil) ct24 rfl fun _ _ => svg rfl (vT (veq rfl rfl) (by omega)) <| sv (vpkt rfl) <| sv (vmB rfl) <| svg rfl (vmP rfl) <| gy rfl <| cl (pack_bad_nil) ct26 rfl fun _ _ => svg rfl (vnot rfl) <| sv (vpkt rfl) <| sv (vmB rfl) <| svg rfl (vmP rfl) <| gy rfl <| cl (pack_done_nil) ct27 rfl fun _ _ => svg rfl (vnot rfl) <| sv (vpkt rfl) <| sv (vaB rfl) <| WL.nil <| WX.mid () trivial ⟨rfl, trivial⟩ trivial (fun w h => h.suf)
        exact WC.ret <| WX.ret1 rfl (()) (trivial) rfl (fun _ h => h)
end Go.Proofs.Ytbmfcfddbcbdgaa
