/-
  Statements of layer 1 as walks: bytes that are read are those that are laid; bursts are told.
-/
import Derived.Test.YtbmfcfddbcbdgaaPackLawB
import Derived.Test.YtbmfcfddbcbdgaaSlDraw
set_option linter.unusedVariables false
set_option linter.unusedSimpArgs false
set_option maxRecDepth 4000
namespace Go.Proofs.Ytbmfcfddbcbdgaa
open Go.Sl Go.Pack Go.RowKit

theorem take_wf {bs : List UInt8} {x : Int} {k : Nat} (h : take bs = some (x, k)) : -9223372036854775808 ≤ x ∧ x ≤ 9223372036854775807 := by
  unfold take at h
  cases hr : rdn 0 0 bs with
  | none => simp [hr] at h
  | some p =>
    simp [hr] at h
    have := (rdn_lt bs 0 0 (by decide) (by omega) p hr).1
    rw [← h.1]
    unfold zag
    split <;> omega
theorem walk_lays_some {w0 : World} {A : List HProp} {base : Option Addr} {c : Nat} {bs : List UInt8} [hR : Reads w0 A base (u8s bs)] (hc : bs.length ≤ c) {x : Int} {k : Nat} (ht : take bs = some (x, k)) :
    Fun Try.prog w0 9 [.slice base bs.length c] A (Ret w0 (fun _ : Unit => True) (fun _ => .bool true) (fun _ => A)) := by
  have hx := take_wf ht
  obtain ⟨hn, hk⟩ := num_take ht
  have hl := num_len hx
  have hkb : k ≤ bs.length := by have := congrArg List.length hn; simp at this; omega
  have hN : bs.length ≤ 140737488355328 → ∀ {A : List HProp} {r : Nat}, Fun Try.prog w0 20 [.pointer (some ⟨r, 0, none⟩)] (preader r bs false :: A) (Ret w0 (fun _ : Unit => True) (fun _ => .int .i64 x) (fun _ => preader r (bs.drop k) false :: A)) := by
    intro hb A r
    have := pack_rnum (w0 := w0) (A := A) (r := r) (bs := bs) (bad := false) hb
    simpa [ht] using this
  refine Fun.enter Try.func9 rfl Try.ntmps9 rfl ?_
  refine WC.seq <| WC.region <| sv (vaB rfl) <| WL.nil <| WX.thenN <| WC.seq <| WC.seq <| WC.region <| sv (vmS rfl) <| sv (vlen Try.underlying22 rfl) <| sv (vgt rfl rfl) <| WL.nil <| WX.thenN <| ?_
  refine WC.ite rfl (fun h1 => ?_) (fun h1 => ?_)
  · -- then
    exact WC.seq <| WC.region <| sv (vaB rfl) <| WL.nil <| WX.thenN <| WC.ret <| WX.thenR <| WX.ret1 rfl (()) (trivial) rfl (fun _ h => h)
  · -- else
    refine WC.skip <| WX.thenN <| WC.seq <| WC.region <| sv (vmS rfl) <| cl (pack_new (by omega)) ct19 rfl fun r1 _ => sv (vaP rfl) <| WL.nil <| WX.thenN <| WC.seq <| WC.seq <| WC.region <| sv (vmP rfl) <| sv (vpeqF Try.underlying37 rfl rfl) <| WL.nil <| WX.thenN <| ?_
    refine WC.ff rfl ?_
    refine WC.skip <| WX.thenN <| WC.seq <| WC.region <| sv (vmP rfl) <| cl (hN (by omega)) ct20 rfl fun _ _ => sv (vaI rfl) <| WL.nil <| WX.thenN <| WC.seq <| WC.seq <| WC.region <| sv (vmP rfl) <| cl (pack_bad) ct26 rfl fun _ _ => WL.nil <| WX.thenN <| ?_
    refine WC.ff rfl ?_
    refine WC.skip <| WX.thenN <| WC.seq <| WC.region <| sv (vmS rfl) <| sv (vlen Try.underlying22 rfl) <| sv (vmP rfl) <| cl (pack_left) ct24 rfl fun _ _ => sv (vsub rfl rfl (by simp; omega)) <| sv (vaI rfl) <| WL.nil <| WX.thenN <| ?_
    refine WC.cut0 [(2, .bool true)] [] (A) trivial ?_ fun ρh => ?_
    · -- law.go:125
      exact WC.plan (.one [0, 1, 2, 3, 4, 5, 6, 7, 8, 9, 10, 11, 12, 13, 14, 15, 16, 18, 19, 20] 17 (.done [21, 22, 23])) rfl (by kernel_rfl) <| WPl.one (fun g => g ++ preader r1 (bs.drop k) false :: A) ([]) (fun _ => trivial) (rfl) <| dcl (fun g => Fun.quiet (law_awake)) ct13 rfl <| dv (fun g => (vmB rfl)) <| dvg rfl (fun g => (vmI rfl)) <| dvg rfl (fun g => (vT (vgt rfl rfl) (by simp; omega))) <| dv (fun g => (vpkt rfl)) <| dv (fun g => (vmB rfl)) <| dvg rfl (fun g => (vmI rfl)) <| dvg rfl (fun g => (vT (vle rfl rfl) (by simp; omega))) <| dv (fun g => (vpkt rfl)) <| dv (fun g => (vmB rfl)) <| dvg rfl (fun g => (vmI rfl)) <| dvg rfl (fun g => (vmS rfl)) <| dvg rfl (fun g => (vlen Try.underlying22 rfl)) <| dvg rfl (fun g => (vT (vle rfl rfl) (by simp; omega))) <| dv (fun g => (vpkt rfl)) <| dv (fun g => (vmB rfl)) <| dvg rfl (fun g => (vmI rfl)) <| dvg rfl (fun g => (vmS rfl)) <| dvg rfl (fun g => (vmI rfl)) <| dvg rfl (fun g => (vslH Try.underlying22 sz5 rfl rfl (by rw [List.length_drop]; omega) (by rw [List.length_drop]; omega))) <| WD.eff rfl <| gy rfl <| cl (pack_num (bs := []) (hR := ⟨RdC.nil⟩) (by simp) hx) ct15 rfl fun i1 hi1 => WL.nil <| WX.br <| WPl.fin (⟨[_], rfl⟩) <| dclg rfl (fun g => Fun.quiet (law_same_true ([] ++ num x) (bs.take k) reads (rd_take reads _) (by simp) (by simp; omega) (by simp; omega) (by simp [hn]))) ct14 rfl <| dv (fun g => (vpkt rfl)) <| dv (fun g => (vaB rfl)) <| WD.nil <| WX.mid () trivial ⟨rfl, trivial⟩ trivial (fun w h => h.suf)
    exact WC.ret <| WX.ret1 rfl (()) (trivial) rfl (fun _ h => h)
theorem walk_lays {w0 : World} {A : List HProp} {base : Option Addr} {c : Nat} {bs : List UInt8} [hR : Reads w0 A base (u8s bs)] (hc : bs.length ≤ c) :
    Fun Try.prog w0 9 [.slice base bs.length c] A (Ret w0 (fun _ : Unit => True) (fun _ => .bool true) (fun _ => A)) := by
  cases ht : take bs with
  | none => exact walk_lays_bad ht
  | some p => exact walk_lays_some hc ht
end Go.Proofs.Ytbmfcfddbcbdgaa
