/-
  From the readings of a row's arguments to the heap logic's readings. Plain theorems over any program.
-/
import Derived.Test.YthljpljbpbkkcaaDoorSlMore
import Derived.ProofKit
import Derived.OpenShut
import Derived.ShutString
import Derived.ChangeOld
import Derived.Below
set_option linter.unusedVariables false
set_option linter.unusedSimpArgs false
namespace Go.Sl
open Go.RowKit

theorem i64_of_wf {a : Int} (h : (Lit.int .i64 a).wf = true) : -9223372036854775808 ≤ a ∧ a ≤ 9223372036854775807 := by
  have e1 : IntKind.i64.min = -9223372036854775808 := by decide
  simp [Lit.wf, IntKind.has, e1] at h
  omega
theorem u8_of_wf {a : Int} (h : (Lit.int .u8 a).wf = true) : 0 ≤ a ∧ a ≤ 255 := by
  have e1 : IntKind.u8.min = 0 := by decide
  have e2 : IntKind.u8.max = 255 := by decide
  simp [Lit.wf, IntKind.has, e1, e2] at h
  omega
/-- what a slice of whole numbers that came in reads as -/
def IsRow (k : IntKind) (w : World) (a : Option Addr) (len cap : Nat) (zs : List Int) : Prop :=
  (a = none ∧ len = 0 ∧ cap = 0 ∧ zs = []) ∨
  ∃ x, a = some x ∧ len ≤ cap ∧ cap ≤ maxLen ∧ zs.length = cap ∧ (∀ i, i < zs.length → w.cell? (x.add i) = some (.int k (zs.getD i 0))) ∧ ∀ n ∈ zs, (Lit.int k n).wf = true
def i64s (xs : List Int) : List Value := xs.map (Value.int .i64)
@[simp] theorem i64s_length (xs : List Int) : (i64s xs).length = xs.length := by simp [i64s]
theorem i64s_at {xs : List Int} {i : Nat} (h : i < xs.length) : (i64s xs)[i]? = some (.int .i64 xs[i]) := by simp [i64s, h]
theorem ints_of_row {w : World} {a : Option Addr} {len cap : Nat} {zs : List Int} (h : IsRow .i64 w a len cap zs) : ∃ xs : List Int, xs.length = len ∧ Rd w a (i64s xs) ∧ ∀ x ∈ xs, -9223372036854775808 ≤ x ∧ x ≤ 9223372036854775807 := by
  rcases h with ⟨rfl, rfl, rfl, rfl⟩ | ⟨x, rfl, hl, hm, hz, hc, hw⟩
  · exact ⟨[], rfl, fun j v h => by simp [i64s] at h, by simp⟩
  · refine ⟨zs.take len, by simp; omega, fun j v hv => ?_, fun y hy => i64_of_wf (hw y (List.mem_of_mem_take hy))⟩
    simp only [i64s, List.getElem?_map, List.getElem?_take] at hv
    split at hv
    · rename_i hj
      have hj' : j < zs.length := by omega
      rw [List.getElem?_eq_getElem hj'] at hv
      simp at hv
      refine ⟨x, rfl, ?_⟩
      rw [hc j hj', ← hv]
      simp [List.getD_eq_getElem?_getD, List.getElem?_eq_getElem hj']
    · simp at hv
theorem bytes_of_row {w : World} {a : Option Addr} {len cap : Nat} {zs : List Int} (h : IsRow .u8 w a len cap zs) : ∃ bs : List UInt8, bs.length = len ∧ Rd w a (u8s bs) := by
  rcases h with ⟨rfl, rfl, rfl, rfl⟩ | ⟨x, rfl, hl, hm, hz, hc, hw⟩
  · exact ⟨[], rfl, fun j v h => by simp [u8s] at h⟩
  · refine ⟨(zs.take len).map fun n => UInt8.ofNat n.toNat, by simp; omega, fun j v hv => ?_⟩
    simp only [u8s, List.getElem?_map, List.getElem?_take] at hv
    split at hv
    · rename_i hj
      have hj' : j < zs.length := by omega
      rw [List.getElem?_eq_getElem hj'] at hv
      simp at hv
      have hb := u8_of_wf (hw _ (List.getElem_mem hj'))
      refine ⟨x, rfl, ?_⟩
      rw [hc j hj', ← hv]
      unfold u8v
      have : ((UInt8.ofNat zs[j].toNat).toNat : Int) = zs[j] := by rw [UInt8.toNat_ofNat']; omega
      rw [this]
      simp [List.getD_eq_getElem?_getD, List.getElem?_eq_getElem hj']
    · simp at hv
end Go.Sl
