/-
  Statements of layer 1 as walks: the document's examples; numbers and texts are laid as the form says; unlike numbers; sums.
-/
import Derived.Test.YtbmfcfddbcbdgaaPackSpecD
set_option linter.unusedVariables false
set_option linter.unusedSimpArgs false
set_option maxRecDepth 4000
namespace Go.Proofs.Ytbmfcfddbcbdgaa
open Go.Sl Go.Pack Go.RowKit

theorem rtext_ex : rtext [4, 97, 98, 1] = some ([97, 98], [1]) := by decide +kernel
theorem take_ex : take [1] = some (-1, 1) := by decide +kernel
theorem sum_ex : sum [49, 50, 51, 52, 53, 54, 55, 56, 57] = 3421780262 := by decide +kernel
theorem num_ex : num (-65) = [129, 1] := by
  have h : zig (-65) = 129 := by decide
  unfold num; rw [h, leb_ge (by omega), leb_lt (by omega)]; rfl
theorem text_ex : text [97, 98] = [4, 97, 98] := by
  have h : zig ((2 : Nat) : Int) = 4 := by decide
  unfold text num; rw [show ([97, 98] : List UInt8).length = 2 from rfl, h, leb_lt (by omega)]; rfl
theorem aw_text {w0 : World} {A : List HProp} {r : Nat} :
    Fun Try.prog w0 22 [.pointer (some ⟨r, 0, none⟩)] (preader r [4, 97, 98, 1] false :: A) (Ret w0 (fun _ : Unit => True) (fun _ => .string ⟨#[97, 98]⟩) (fun _ => preader r [1] false :: A)) := by
  have := pack_rtext (w0 := w0) (A := A) (r := r) (bs := [4, 97, 98, 1]) (by simp)
  rw [rtext_ex] at this
  exact this
theorem aw_num {w0 : World} {A : List HProp} {r : Nat} :
    Fun Try.prog w0 20 [.pointer (some ⟨r, 0, none⟩)] (preader r [1] false :: A) (Ret w0 (fun _ : Unit => True) (fun _ => .int .i64 (-1)) (fun _ => preader r [] false :: A)) := by
  have := pack_rnum (w0 := w0) (A := A) (r := r) (bs := [1]) (bad := false) (by simp)
  simp only [take_ex] at this
  exact this

theorem law_awake {w0 : World} {A : List HProp} : Fun Try.prog w0 13 [] A (Ret w0 (fun _ : Unit => True) (fun _ => .bool true) (fun _ => A)) := by
  refine Fun.enter Try.func13 rfl Try.ntmps13 rfl ?_
  refine WC.seq <| WC.region <| sv (vaB rfl) <| WL.nil <| WX.thenN <| WC.seq <| WC.region <| bslb [4, 97, 98, 1] rfl Try.underlying22 zt5 (by simp [enumP, ev, u8s, u8v]) (by decide) fun b1 => cl (pack_new (bs := [4, 97, 98, 1]) (hR := Reads.cel) (by simp)) ct19 rfl fun r _ => sv (vaP rfl) <| WL.nil <| WX.thenN <| WC.seq <| WC.seq <| WC.region <| sv (vmP rfl) <| sv (vpeqF Try.underlying37 rfl rfl) <| WL.nil <| WX.thenN <| ?_
  refine WC.ff rfl ?_
  refine WC.skip <| WX.thenN <| WC.seq <| WC.region <| sv (vmP rfl) <| cl (aw_text) ct22 rfl fun _ _ => sv (vaT rfl) <| WL.nil <| WX.thenN <| WC.seq <| WC.region <| sv (vmP rfl) <| cl (aw_num) ct20 rfl fun _ _ => sv (vaI rfl) <| WL.nil <| WX.thenN <| ?_
  refine WC.cut0 [(0, .bool true)] [] (A) trivial ?_ fun ρh => ?_
  · -- law.go:33
    exact WC.region <| sv (vmT rfl) <| sv (vT (veqs rfl rfl) (rfl)) <| sv (vmB rfl) <| svg rfl (vmI rfl) <| svg rfl (vT (veq rfl rfl) (rfl)) <| sv (vpkt rfl) <| sv (vmB rfl) <| svg rfl (vmP rfl) <| gy rfl <| cl (pack_done) ct27 rfl fun _ _ => sv (vpkt rfl) <| sv (vmB rfl) <| gy rfl <| bslb [49, 50, 51, 52, 53, 54, 55, 56, 57] rfl Try.underlying22 zt5 (by simp [enumP, ev, u8s, u8v]) (by decide) fun b7 => gy rfl <| cvm Try.underlying22 Try.underlying5 rfl <| gy rfl <| cl (pack_sum (bs := [49, 50, 51, 52, 53, 54, 55, 56, 57]) (hR := Reads.cel) (by simp)) ct17 rfl fun _ _ => svg rfl (vT (veq rfl rfl) (by rw [sum_ex]; rfl)) <| sv (vpkt rfl) <| sv (vmB rfl) <| gy rfl <| cl (pack_num (bs := []) (hR := ⟨RdC.nil⟩) (by simp) (by omega)) ct15 rfl fun i1 _ => gy rfl <| bslb [129, 1] rfl Try.underlying22 zt5 (by simp [enumP, ev, u8s, u8v]) (by decide) fun b11 => gy rfl <| cl (law_same_true ([] ++ num (-65)) [129, 1] reads reads (by simp) rfl (by rw [num_ex]; simp) num_ex) ct14 rfl fun _ _ => sv (vpkt rfl) <| sv (vmB rfl) <| gy rfl <| cl (pack_text (bs := []) (hR := ⟨RdC.nil⟩) (by simp) (by decide)) ct16 rfl fun i2 _ => gy rfl <| bslb [4, 97, 98] rfl Try.underlying22 zt5 (by simp [enumP, ev, u8s, u8v]) (by decide) fun b14 => gy rfl <| cl (law_same_true ([] ++ text [97, 98]) [4, 97, 98] reads reads (by simp) rfl (by rw [text_ex]; simp) text_ex) ct14 rfl fun _ _ => sv (vpkt rfl) <| sv (vaB rfl) <| WL.nil <| WX.mid () trivial ⟨rfl, trivial⟩ trivial (fun w h => h.suf)
  exact WC.ret <| WX.ret1 rfl (()) (trivial) rfl (fun _ h => h)

theorem walk_sums {w0 : World} {A : List HProp} {base : Option Addr} {c : Nat} {bs : List UInt8} [hR : Reads w0 A base (u8s bs)] :
    Fun Try.prog w0 5 [.slice base bs.length c] A (Ret w0 (fun _ : Unit => True) (fun _ => .bool true) (fun _ => A)) := by
  refine Fun.enter Try.func5 rfl Try.ntmps5 rfl ?_
  refine WC.seq <| WC.region <| sv (vaB rfl) <| WL.nil <| WX.thenN <| WC.seq <| WC.seq <| WC.region <| sv (vmS rfl) <| sv (vlen Try.underlying22 rfl) <| sv (vgt rfl rfl) <| WL.nil <| WX.thenN <| ?_
  refine WC.ite rfl (fun h1 => ?_) (fun h1 => ?_)
  · -- then
    exact WC.seq <| WC.region <| sv (vaB rfl) <| WL.nil <| WX.thenN <| WC.ret <| WX.thenR <| WX.ret1 rfl (()) (trivial) rfl (fun _ h => h)
  · -- else
    refine WC.skip <| WX.thenN <| ?_
    refine WC.cut0 [(2, .bool true)] [] (A) trivial ?_ fun ρh => ?_
    · -- law.go:141
      exact WC.region <| cl (law_awake) ct13 rfl fun _ _ => sv (vmB rfl) <| svg rfl (vmS rfl) <| gy rfl <| cl (pack_sum (by omega)) ct17 rfl fun _ _ => svg rfl (vmS rfl) <| gy rfl <| cl (ref_sum (by omega)) ct18 rfl fun _ _ => svg rfl (vT (veq rfl rfl) (by omega)) <| sv (vpkt rfl) <| sv (vaB rfl) <| WL.nil <| WX.mid () trivial ⟨rfl, trivial⟩ trivial (fun _ h => h)
    exact WC.ret <| WX.ret1 rfl (()) (trivial) rfl (fun _ h => h)

theorem walk_unlike {w0 : World} {A : List HProp} {x y : Int} (hx : -9223372036854775808 ≤ x ∧ x ≤ 9223372036854775807) (hy : -9223372036854775808 ≤ y ∧ y ≤ 9223372036854775807) :
    Fun Try.prog w0 4 [.int .i64 x, .int .i64 y] A (Ret w0 (fun _ : Unit => True) (fun _ => .bool true) (fun _ => A)) := by
  have h1 := num_len hx
  have h2 := num_len hy
  refine Fun.enter Try.func4 rfl Try.ntmps4 rfl ?_
  refine WC.seq <| WC.region <| sv (vaB rfl) <| WL.nil <| WX.thenN <| WC.seq <| WC.region <| sv (vmI rfl) <| cl (pack_num (bs := []) (hR := ⟨RdC.nil⟩) (by simp) hx) ct15 rfl fun i1 hi1 => sv (vaS rfl) <| WL.nil <| WX.thenN <| WC.seq <| WC.region <| sv (vmI rfl) <| cl (pack_num (bs := []) (hR := ⟨RdC.nil⟩) (by simp) hy) ct15 rfl fun i2 hi2 => sv (vaS rfl) <| WL.nil <| WX.thenN <| WC.seq <| WC.region <| sv (vmS rfl) <| sv (vlen Try.underlying22 rfl) <| sv (vmS rfl) <| sv (vlen Try.underlying22 rfl) <| sv (vmin rfl rfl) <| sv (vaI rfl) <| WL.nil <| WX.thenN <| ?_
  refine WC.cut0 [(4, .bool true)] [] (A) trivial ?_ fun ρh => ?_
  · -- law.go:133
    exact WC.draws rfl (by kernel_rfl) <| qcl (Fun.quiet (law_awake)) ct13 rfl <| qv (vmB rfl) <| qvg rfl (vmI rfl) <| qvg rfl (vT (vgt rfl rfl) (by simp; omega)) <| qv (vpkt rfl) <| qv (vmB rfl) <| qvg rfl (vmS rfl) <| qvg rfl (vmI rfl) <| qvg rfl (vslH Try.underlying22 sz5 rfl rfl (by omega) (by simp at *; omega)) <| qvg rfl (vmS rfl) <| qvg rfl (vmI rfl) <| qvg rfl (vslH Try.underlying22 sz5 rfl rfl (by omega) (by simp at *; omega)) <| qclg rfl (Fun.quiet (law_same_at ((num x).take (min (num x).length (num y).length)) ((num y).take (min (num x).length (num y).length)) (rd_take (reads (vs := u8s ([] ++ num x))) _) (rd_take (reads (vs := u8s ([] ++ num y))) _) (by simp; omega) (by simp; omega) (by simp; omega))) ct14 rfl <| qvg rfl (vmI rfl) <| qvg rfl (vmI rfl) <| qvg rfl (veq rfl rfl) <| qvg rfl (vT (veqb Try.underlying4 rfl rfl) (decide_eq_decide.2 (num_unlike hx hy))) <| qv (vpkt rfl) <| qv (vaB rfl) <| WQ.nil <| WX.mid () trivial ⟨rfl, trivial⟩ trivial (fun w h => h.suf)
  exact WC.ret <| WX.ret1 rfl (()) (trivial) rfl (fun _ h => h)
end Go.Proofs.Ytbmfcfddbcbdgaa
