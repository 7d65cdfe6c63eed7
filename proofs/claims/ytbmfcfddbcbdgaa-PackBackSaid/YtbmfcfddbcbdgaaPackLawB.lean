/-
  Statements of layer 1 as walks: numbers and texts are laid as the form says; what is read is what is laid.
-/
import Derived.Test.YtbmfcfddbcbdgaaPackLawA
set_option linter.unusedVariables false
set_option linter.unusedSimpArgs false
set_option maxRecDepth 4000
namespace Go.Proofs.Ytbmfcfddbcbdgaa
open Go.Sl Go.Pack Go.RowKit

theorem walk_puts {w0 : World} {A : List HProp} {base : Option Addr} {c : Nat} {bs : List UInt8} {x : Int} {s : ByteArray} [hR : Reads w0 A base (u8s bs)] (hx : -9223372036854775808 ≤ x ∧ x ≤ 9223372036854775807) :
    Fun Try.prog w0 3 [.slice base bs.length c, .int .i64 x, .string s] A (Ret w0 (fun _ : Unit => True) (fun _ => .bool true) (fun _ => A)) := by
  have hn := num_len hx
  refine Fun.enter Try.func3 rfl Try.ntmps3 rfl ?_
  refine WC.seq <| WC.region <| sv (vaB rfl) <| WL.nil <| WX.thenN <| WC.seq <| ?_
  refine WC.cut0 [(16, .bool (decide (4096 < bs.length ∨ 4096 < s.size)))] [(0, .slice _ _ _), (1, .int _ _), (2, .string _)] (A) ⟨rfl, rfl, rfl, trivial⟩ ?_ fun ρh => ?_
  · -- law.go:38
    refine WC.region <| sv (vmS rfl) <| sv (vlen Try.underlying22 rfl) <| svs (vgt rfl rfl) (fun q1 => ?_) (fun q1 => ?_)
    ·
      exact sv (vmB rfl) <| sng rfl <| sng rfl <| sng rfl <| sv (vpkt rfl) <| WL.nil <| WX.mid () trivial ⟨bT (by first | omega | simp_all | grind), trivial⟩ ⟨rfl, rfl, rfl, trivial⟩ (fun _ h => h)
    ·
      exact sv (vmB rfl) <| svg rfl (vmT rfl) <| svg rfl (vlens Try.underlying9 rfl) <| svg rfl (vgt rfl rfl) <| sv (vpkf rfl) <| WL.nil <| WX.mid () trivial ⟨bI (by first | omega | simp_all | grind), trivial⟩ ⟨rfl, rfl, rfl, trivial⟩ (fun _ h => h)
  refine WC.ite rfl (fun h1 => ?_) (fun h1 => ?_)
  · -- then
    exact WC.seq <| WC.region <| sv (vaB rfl) <| WL.nil <| WX.thenN <| WC.ret <| WX.thenR <| WX.ret1 rfl (()) (trivial) rfl (fun _ h => h)
  · -- else
    have hs : s.size ≤ 4096 := by omega
    have hx2 : -9223372036854775808 ≤ (s.size : Int) ∧ (s.size : Int) ≤ 9223372036854775807 := by omega
    have ht : (text s.data.toList).length ≤ 10 + s.size := by
      have h2 := num_len hx2
      unfold text; rw [List.length_append]; simp at *; omega
    refine WC.skip <| WX.thenN <| WC.seq <| WC.region <| bsl0 Try.underlying22 zt5 fun b1 => sv (vmS rfl) <| apb Try.underlying22 zt5 rfl rfl (by simp) (by simp) reads (by omega) fun base2 c2 hc2 => sv (vmI rfl) <| cl (ref_num hx) ct11 rfl fun i1 _ => pm (fun _ h => h.pk1) <| apb Try.underlying22 zt5 rfl rfl (by simp) (by simp) reads (by omega) fun base4 c4 hc4 => sv (vaS rfl) <| WL.nil <| WX.thenN <| WC.seq <| WC.region <| bsl0 Try.underlying22 zt5 fun b5 => sv (vmS rfl) <| apb Try.underlying22 zt5 rfl rfl (by simp) (by simp) reads (by omega) fun base6 c6 hc6 => sv (vmT rfl) <| cl (ref_text (by omega)) ct12 rfl fun i2 _ => pm (fun _ h => h.pk1) <| apb Try.underlying22 zt5 rfl rfl (by simp) (by simp) reads (by omega) fun base8 c8 hc8 => sv (vaS rfl) <| WL.nil <| WX.thenN <| ?_
    refine WC.cut0 [(6, .bool true)] [] (A) trivial ?_ fun ρh => ?_
    · -- law.go:43
      exact WC.region <| cl (law_awake) ct13 rfl fun _ _ => sv (vmB rfl) <| svg rfl (vmS rfl) <| svg rfl (vmI rfl) <| gy rfl <| cl (pack_num (by omega) hx) ct15 rfl fun i3 _ => svg rfl (vmS rfl) <| gy rfl <| cl (law_same_true (bs ++ num x) ([] ++ bs ++ num x) reads reads (by simp) (by simp) (by simp; omega) (by simp)) ct14 rfl fun _ _ => sv (vpkt rfl) <| sv (vmB rfl) <| svg rfl (vmS rfl) <| svg rfl (vmT rfl) <| gy rfl <| cl (pack_text (by omega) (by omega)) ct16 rfl fun i4 _ => svg rfl (vmS rfl) <| gy rfl <| cl (law_same_true (bs ++ text s.data.toList) ([] ++ bs ++ text s.data.toList) reads reads (by simp) (by simp) (by simp; omega) (by simp)) ct14 rfl fun _ _ => sv (vpkt rfl) <| sv (vaB rfl) <| WL.nil <| WX.mid () trivial ⟨rfl, trivial⟩ trivial (fun w h => h.suf)
    exact WC.ret <| WX.ret1 rfl (()) (trivial) rfl (fun _ h => h)

theorem walk_lays_bad {w0 : World} {A : List HProp} {base : Option Addr} {c : Nat} {bs : List UInt8} [hR : Reads w0 A base (u8s bs)] (ht : take bs = none) :
    Fun Try.prog w0 9 [.slice base bs.length c] A (Ret w0 (fun _ : Unit => True) (fun _ => .bool true) (fun _ => A)) := by
  have hN : bs.length ≤ 140737488355328 → ∀ {A : List HProp} {r : Nat}, Fun Try.prog w0 20 [.pointer (some ⟨r, 0, none⟩)] (preader r bs false :: A) (Ret w0 (fun _ : Unit => True) (fun _ => .int .i64 0) (fun _ => preader r [] true :: A)) := by
    intro hb A r
    have := pack_rnum (w0 := w0) (A := A) (r := r) (bs := bs) (bad := false) hb
    simpa [ht] using this
  have hM : ∀ {A : List HProp} {r : Nat}, Fun Try.prog w0 20 [.pointer (some ⟨r, 0, none⟩)] (preader r [] true :: A) (Ret w0 (fun _ : Unit => True) (fun _ => .int .i64 0) (fun _ => preader r [] true :: A)) := by
    intro A r
    have := pack_rnum (w0 := w0) (A := A) (r := r) (bs := []) (bad := true) (by simp)
    simpa using this
  refine Fun.enter Try.func9 rfl Try.ntmps9 rfl ?_
  refine WC.seq <| WC.region <| sv (vaB rfl) <| WL.nil <| WX.thenN <| WC.seq <| WC.seq <| WC.region <| sv (vmS rfl) <| sv (vlen Try.underlying22 rfl) <| sv (vgt rfl rfl) <| WL.nil <| WX.thenN <| ?_
  refine WC.ite rfl (fun h1 => ?_) (fun h1 => ?_)
  · -- then
    exact WC.seq <| WC.region <| sv (vaB rfl) <| WL.nil <| WX.thenN <| WC.ret <| WX.thenR <| WX.ret1 rfl (()) (trivial) rfl (fun _ h => h)
  · -- else
    refine WC.skip <| WX.thenN <| WC.seq <| WC.region <| sv (vmS rfl) <| cl (pack_new (by omega)) ct19 rfl fun r1 _ => sv (vaP rfl) <| WL.nil <| WX.thenN <| WC.seq <| WC.seq <| WC.region <| sv (vmP rfl) <| sv (vpeqF Try.underlying37 rfl rfl) <| WL.nil <| WX.thenN <| ?_
    refine WC.ff rfl ?_
    refine WC.skip <| WX.thenN <| WC.seq <| WC.region <| sv (vmP rfl) <| cl (hN (by omega)) ct20 rfl fun _ _ => sv (vaI rfl) <| WL.nil <| WX.thenN <| WC.seq <| WC.seq <| WC.region <| sv (vmP rfl) <| cl (pack_bad) ct26 rfl fun _ _ => WL.nil <| WX.thenN <| ?_
    refine WC.tt rfl ?_
    refine WC.cut0 [(2, .bool true)] [] (A) trivial ?_ fun ρh => ?_
    · -- law.go:122
      exact WC.region <| cl (law_awake) ct13 rfl fun _ _ => sv (vmB rfl) <| svg rfl (vmI rfl) <| svg rfl (vT (veq rfl rfl) (by omega)) <| sv (vpkt rfl) <| sv (vmB rfl) <| svg rfl (vmP rfl) <| gy rfl <| cl (pack_left) ct24 rfl fun _ _ => svg rfl (vT (veq rfl rfl) (rfl)) <| sv (vpkt rfl) <| sv (vmB rfl) <| svg rfl (vmP rfl) <| gy rfl <| cl (hM) ct20 rfl fun _ _ => svg rfl (vT (veq rfl rfl) (by omega)) <| sv (vpkt rfl) <| sv (vmB rfl) <| svg rfl (vmP rfl) <| gy rfl <| cl (pack_rtext_bad (by simp)) ct22 rfl fun _ _ => svg rfl (vT (veqs rfl rfl) (rfl)) <| sv (vpkt rfl) <| sv (vaB rfl) <| WL.nil <| WX.mid () trivial ⟨rfl, trivial⟩ trivial (fun w h => h.suf)
    exact WC.ret <| WX.thenR <| WX.ret1 rfl (()) (trivial) rfl (fun _ h => h)
end Go.Proofs.Ytbmfcfddbcbdgaa
