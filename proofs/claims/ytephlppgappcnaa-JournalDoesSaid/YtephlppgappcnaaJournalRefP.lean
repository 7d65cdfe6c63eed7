/-
  Layer 3's reference in plain words: a first record by its frame.
-/
import Derived.Test.YtephlppgappcnaaJournalPureC
set_option linter.unusedVariables false
set_option linter.unusedSimpArgs false
namespace Go.Journal
open Go.Sl Go.Pack

theorem num4_congr {a b : List UInt8} (h : ∀ k, k < 4 → a.getD k 0 = b.getD k 0) : num4 a = num4 b := by
  unfold num4
  rw [h 0 (by omega), h 1 (by omega), h 2 (by omega), h 3 (by omega)]
theorem getD_drop (l : List UInt8) (i k : Nat) : (l.drop i).getD k 0 = l.getD (i + k) 0 := by
  rw [List.getD_eq_getElem?_getD, List.getD_eq_getElem?_getD, List.getElem?_drop]
theorem first_iff {b : List UInt8} (h8 : 8 ≤ b.length) (hn : num4 b ≤ b.length - 8) :
    (∀ k, k < 8 → (frameB ((b.drop 8).take (num4 b))).getD k 0 = b.getD k 0) ↔ sum (b.take 4 ++ (b.drop 8).take (num4 b)) = num4 (b.drop 4) := by
  have hl : ((b.drop 8).take (num4 b)).length = num4 b := by rw [List.length_take, List.length_drop]; omega
  have e : frameB ((b.drop 8).take (num4 b)) = b.take 4 ++ (le4 (sum (b.take 4 ++ (b.drop 8).take (num4 b))) ++ (b.drop 8).take (num4 b)) := by
    unfold frameB; rw [hl, le4_num4 (by omega), List.append_assoc]
  rw [e]
  have ht : (b.take 4).length = 4 := by rw [List.length_take]; omega
  constructor
  · intro h
    have h2 : num4 (le4 (sum (b.take 4 ++ (b.drop 8).take (num4 b))) ++ (b.drop 8).take (num4 b)) = num4 (b.drop 4) := by
      apply num4_congr
      intro k hk
      have := h (4 + k) (by omega)
      rw [getD_drop, ← this]
      have e3 : ∀ X : List UInt8, (b.take 4 ++ X).getD (4 + k) 0 = X.getD k 0 := fun X => by rw [List.getD_eq_getElem?_getD, List.getD_eq_getElem?_getD, List.getElem?_append_right (by omega), ht, Nat.add_sub_cancel_left]
      rw [e3]
    rwa [num4_le4 (sum_lt' _)] at h2
  · intro h k hk
    rw [h, le4_num4 (by rw [List.length_drop]; omega), ← List.append_assoc, ← List.take_add]
    rw [List.getD_eq_getElem?_getD, List.getD_eq_getElem?_getD, List.getElem?_append_left (by rw [List.length_take]; omega), List.getElem?_take, if_pos hk]
end Go.Journal
