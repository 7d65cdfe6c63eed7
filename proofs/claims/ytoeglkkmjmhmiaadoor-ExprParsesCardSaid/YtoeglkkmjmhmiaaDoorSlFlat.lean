/-
  Rows of structs: the cells of a list, each element's one behind the other. Plain theorems over any program.
-/
import Derived.Test.YtoeglkkmjmhmiaaDoorSlAuto
set_option linter.unusedVariables false
set_option linter.unusedSimpArgs false
namespace Go.Sl
open Go.RowKit

def fla {α : Type} (f : α → List Value) (l : List α) : List Value := l.flatMap f
section
variable {α : Type} {f : α → List Value} {s : Nat} {l m : List α} {i k : Nat} {a b : α} {v : Value}
theorem fla_nil : fla f [] = [] := rfl
theorem fla_cons : fla f (a :: l) = f a ++ fla f l := List.flatMap_cons
theorem fla_single : fla f [a] = f a := by simp [fla]
theorem fla_length (hs : ∀ x, (f x).length = s) : (fla f l).length = l.length * s := flat_len fun x _ => hs x
theorem fla_at (hs : ∀ x, (f x).length = s) (h : l[i]? = some a) (hk : k < s) : (fla f l)[i * s + k]? = (f a)[k]? := by
  obtain ⟨hi, rfl⟩ := List.getElem?_eq_some_iff.1 h
  exact flat_at (fun x _ => hs x) hi hk
theorem fla_at1 (hs : ∀ x, (f x).length = 1) (h : l[i]? = some a) : (fla f l)[i]? = (f a)[0]? := by
  have := fla_at (k := 0) hs h (by omega)
  simpa using this
theorem fla_of (hs : ∀ x, (f x).length = s) (h : l[i]? = some a) : ((fla f l).drop (i * s)).take s = f a := by
  obtain ⟨hi, rfl⟩ := List.getElem?_eq_some_iff.1 h
  exact flat_take (fun x _ => hs x) hi
theorem fla_append : fla f (l ++ m) = fla f l ++ fla f m := by simp [fla]
theorem fla_snoc : fla f (l ++ [a]) = fla f l ++ f a := by rw [fla_append, fla_single]
theorem fla_one (h : ∀ x, ∀ v ∈ f x, v.oneCell' = true) : ∀ v ∈ fla f l, v.oneCell' = true := by
  intro v hv
  obtain ⟨a, _, ha⟩ := List.mem_flatMap.1 hv
  exact h a v ha
theorem fla_drop (hs : ∀ x, (f x).length = s) (i : Nat) : (fla f l).drop (i * s) = fla f (l.drop i) := by
  by_cases hi : i ≤ l.length
  · have h1 : fla f l = fla f (l.take i) ++ fla f (l.drop i) := by rw [← fla_append, List.take_append_drop]
    rw [h1, List.drop_append_of_le_length (by rw [fla_length hs, List.length_take, Nat.min_eq_left hi]; exact Nat.le_refl _), List.drop_eq_nil_of_le (by rw [fla_length hs, List.length_take, Nat.min_eq_left hi]; exact Nat.le_refl _), List.nil_append]
  · have h2 : l.length * s ≤ i * s := Nat.mul_le_mul_right s (by omega)
    rw [List.drop_eq_nil_of_le (by rw [fla_length hs]; exact h2), List.drop_eq_nil_of_le (by omega)]; rfl
theorem fla_take (hs : ∀ x, (f x).length = s) (i : Nat) : (fla f l).take (i * s) = fla f (l.take i) := by
  by_cases hi : i ≤ l.length
  · have h1 : fla f l = fla f (l.take i) ++ fla f (l.drop i) := by rw [← fla_append, List.take_append_drop]
    rw [h1, List.take_left' (by rw [fla_length hs, List.length_take, Nat.min_eq_left hi])]
  · have h2 : l.length * s ≤ i * s := Nat.mul_le_mul_right s (by omega)
    rw [List.take_of_length_le (by rw [fla_length hs]; exact h2), List.take_of_length_le (by omega)]
/-- a struct of the row is put -/
theorem fla_splice (hs : ∀ x, (f x).length = s) (hi : i < l.length) : splice (fla f l) (i * s) (f b) = fla f (l.set i b) := by
  have e : l.set i b = l.take i ++ b :: l.drop (i + 1) := by
    rw [List.set_eq_take_append_cons_drop, if_pos hi]
  rw [e, fla_append, fla_cons]
  unfold splice
  rw [fla_take hs, hs b, show i * s + s = (i + 1) * s from (Nat.succ_mul i s).symm, fla_drop hs, List.append_assoc]
/-- a field of a struct of the row is put -/
theorem fla_set (hs : ∀ x, (f x).length = s) (h : l[i]? = some a) (hk : k < s) (hb : f b = (f a).set k v) : (fla f l).set (i * s + k) v = fla f (l.set i b) := by
  obtain ⟨hi, rfl⟩ := List.getElem?_eq_some_iff.1 h
  rw [← fla_splice hs hi]
  have hl := fla_length (l := l) hs
  have hle : i * s + s ≤ l.length * s := by rw [← Nat.succ_mul]; exact Nat.mul_le_mul_right s hi
  have e1 : fla f l = (fla f l).take (i * s) ++ (f l[i] ++ (fla f l).drop (i * s + s)) := by
    rw [← fla_of hs h, ← List.drop_drop, List.take_append_drop, List.take_append_drop]
  unfold splice
  rw [hs b]
  conv => lhs; rw [e1]
  rw [List.set_append_right _ _ (by rw [List.length_take]; omega), List.length_take, show i * s + k - min (i * s) (fla f l).length = k by omega, List.set_append_left _ _ (by rw [hs]; exact hk), ← hb, List.append_assoc]
end
end Go.Sl
