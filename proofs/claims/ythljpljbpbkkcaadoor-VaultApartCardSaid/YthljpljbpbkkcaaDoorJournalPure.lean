/-
  Layer 3 as plain functions of bytes: frames, records.
-/
import Derived.Test.YthljpljbpbkkcaaDoorPackPure
set_option linter.unusedVariables false
set_option linter.unusedSimpArgs false
namespace Go.Journal
open Go.Sl Go.Pack

def le4 (n : Nat) : List UInt8 := [UInt8.ofNat n, UInt8.ofNat (n / 256), UInt8.ofNat (n / 65536), UInt8.ofNat (n / 16777216)]
def num4 (b : List UInt8) : Nat := (b.getD 0 0).toNat + 256 * (b.getD 1 0).toNat + 65536 * (b.getD 2 0).toNat + 16777216 * (b.getD 3 0).toNat
theorem num4_le4 {n : Nat} (h : n < 4294967296) (r : List UInt8) : num4 (le4 n ++ r) = n := by
  simp only [num4, le4, List.cons_append, List.nil_append, List.getD_cons_zero, List.getD_cons_succ, UInt8.toNat_ofNat']
  omega
theorem num4_lt (b : List UInt8) : num4 b < 4294967296 := by
  have h : ∀ i : Nat, (b.getD i 0).toNat < 256 := fun i => (b.getD i 0).toNat_lt
  have h0 := h 0; have h1 := h 1; have h2 := h 2; have h3 := h 3
  unfold num4
  omega
def frameB (rec : List UInt8) : List UInt8 := le4 rec.length ++ le4 (sum (le4 rec.length ++ rec)) ++ rec
/-- the length of the record with which bytes begin -/
def nextB (b : List UInt8) : Option Nat :=
  if b.length < 8 then none else
  if 1048576 < num4 b ∨ b.length - 8 < num4 b then none else
  if sum (b.take 4 ++ (b.drop 8).take (num4 b)) ≠ num4 (b.drop 4) then none else some (num4 b)
theorem nextB_le {b : List UInt8} {n : Nat} (h : nextB b = some n) : 8 + n ≤ b.length ∧ n ≤ 1048576 := by
  unfold nextB at h
  split at h
  · cases h
  · split at h
    · cases h
    · split at h
      · cases h
      · cases h; omega
/-- records one after the other, and what is left -/
def recsB (b : List UInt8) : List (List UInt8) × List UInt8 :=
  match h : nextB b with
  | none => ([], b)
  | some n => let r := recsB (b.drop (8 + n)); ((b.drop 8).take n :: r.1, r.2)
termination_by b.length
decreasing_by
  have := nextB_le h
  rw [List.length_drop]
  omega
theorem recsB_none {b : List UInt8} (h : nextB b = none) : recsB b = ([], b) := by
  rw [recsB]
  split
  · rfl
  · rename_i h2; rw [h] at h2; cases h2
theorem recsB_some {b : List UInt8} {n : Nat} (h : nextB b = some n) : recsB b = ((b.drop 8).take n :: (recsB (b.drop (8 + n))).1, (recsB (b.drop (8 + n))).2) := by
  rw [recsB]
  split
  · rename_i h2; rw [h] at h2; cases h2
  · rename_i h2; rw [h] at h2; cases h2; rfl
end Go.Journal
