/-
  slices.Sort of numbers: from the library's contract to this logic. Plain theorems over any program.
-/
import Derived.Test.YthljpljbpbkkcaaDoorSlLay
import Derived.Test.YthljpljbpbkkcaaDoorSlRow
import Derived.Shelf.Sort.Plain
import Derived.Shelf.Slices.In.SortNone
set_option linter.unusedVariables false
set_option linter.unusedSimpArgs false
namespace Go.Sl
open Go.RowKit Go.Sort Go.Shelf Go.Proofs

def sortI (xs : List Int) : List Int := xs.mergeSort fun x y => decide (x ≤ y)
theorem sortI_perm (xs : List Int) : (sortI xs).Perm xs := List.mergeSort_perm xs _
theorem sortI_sorted (xs : List Int) : (sortI xs).Pairwise (· ≤ ·) := by
  have := List.pairwise_mergeSort (le := fun x y : Int => decide (x ≤ y)) (fun a b c h1 h2 => by simp only [decide_eq_true_eq] at *; omega) (fun a b => by simp only [Bool.or_eq_true, decide_eq_true_eq]; omega) xs
  exact this.imp fun h => by simpa using h
theorem prefix_at {α : Type} {vs cur : List α} {o : Nat} (hp : vs <+: cur.drop o) {j : Nat} (hj : j < vs.length) : cur[o + j]? = vs[j]? := by
  obtain ⟨t, ht⟩ := hp
  rw [← List.getElem?_drop, ← ht, List.getElem?_append_left hj]
theorem putCells_prefix {zs : List Int} {cur : List Value} {o : Nat} (hl : o + zs.length ≤ cur.length) : i64s zs <+: (putCells (Value.int .i64) o zs.toArray cur.toArray).toList.drop o := by
  refine ⟨((putCells (Value.int .i64) o zs.toArray cur.toArray).toList.drop o).drop zs.length, ?_⟩
  apply List.ext_getElem?
  intro j
  by_cases hj : j < zs.length
  · rw [List.getElem?_append_left (by simpa [i64s] using hj), i64s_at hj, List.getElem?_drop]
    simp only [putCells, Array.getElem?_toList, Array.getElem?_mapIdx]
    rw [List.getElem?_toArray, List.getElem?_eq_getElem (by omega), Option.map_some, if_pos ⟨by omega, by simp; omega⟩]
    have : o + j - o = j := by omega
    rw [this, getElem!_pos zs.toArray j (by simpa using hj)]
    simp
  · rw [List.getElem?_append_right (by simp [i64s]; omega), List.getElem?_drop]
    simp only [i64s, List.length_map]
    rw [show zs.length + (j - zs.length) = j by omega]
theorem Own.grow {w0 w : World} {A : List HProp} (H : Own w0 A w) (os : Array Obj) : Own w0 A (Sort.grow w os) :=
  H.grown ⟨rfl, rfl, rfl, by simp [Sort.grow], fun k hk => by simp only [Sort.grow]; rw [Array.getElem?_append_left hk]⟩
theorem sort_ints {P : Program} {ρ : Ren} (L : Lays.n189 P ρ) {w0 : World} {R : List HProp} {base : Option Addr} {c : Nat} {e : TypeId} {xs : List Int} (hl : xs.length ≤ 1099511627776) :
    Fun P w0 (ρ.f 189) [.slice base xs.length c] (row base c 1 e (i64s xs) :: R) (Ret w0 (fun _ : Unit => True) (fun _ => .tuple #[]) (fun _ => row base c 1 e (i64s (sortI xs)) :: R)) := by
  refine ⟨fun w hw => ?_⟩
  rcases hw.row with ⟨rfl, h2, rfl, hO⟩ | ⟨g, o, cur, rfl, hp, hlen, hc, hO⟩
  · have : xs = [] := by simpa [i64s] using h2
    subst this
    exact (Any.slices_Sort_int_none L none 0 w).mono fun e' w' ⟨he, hw'⟩ => ⟨(), trivial, he, by rw [hw']; show Own w0 (Sl.row none 0 1 e (i64s (sortI [])) :: R) w; rw [show sortI [] = [] by simp [sortI]]; exact hw⟩
  · obtain ⟨fz, hf, hO1⟩ := hO.cel
    have hh : w.heap[g]? = some (.cells cur.toArray e fz) := hO1.heap.1
    have hxl : (i64s xs).length = xs.length := by simp
    have hH : Holds (Value.int .i64) w g o xs.toArray := fun j hj => by
      have hj' : j < xs.length := by simpa using hj
      refine ⟨?_, frozen_cel hh hf _ (by omega)⟩
      rw [cell_cel hh, prefix_at hp (by omega), i64s_at hj', getElem!_pos xs.toArray j hj]
      simp
    refine (Any.slices_Sort_int L g o c xs w hH (Array.getElem?_eq_some_iff.1 hh).1 (by omega)).mono ?_
    rintro e' w' ⟨he, n, os, hw'⟩
    refine ⟨(), trivial, he, ?_⟩
    rw [hw']
    refine Own.grow ?_ os
    have hsl : (sortI xs).length = xs.length := (sortI_perm xs).length_eq
    have hcl : (putCells (Value.int .i64) o (sortI xs).toArray cur.toArray).toList.length = cur.length := by simp [putCells]
    have ht : Turned w (putRow (Value.int .i64) (Sort.ahead w n) g o (sortI xs).toArray) g (.cells (putCells (Value.int .i64) o (sortI xs).toArray cur.toArray).toList.toArray e fz) := by
      refine ⟨rfl, rfl, rfl, by simp [putRow, mapBlock, Sort.ahead], ?_, fun k hk => ?_⟩
      · simp only [putRow, mapBlock, Sort.ahead, Array.getElem?_modify]
        simp only [if_true, hh]; rfl
      · simp only [putRow, mapBlock, Sort.ahead, Array.getElem?_modify]
        rw [if_neg (fun h => hk h.symm)]
    refine Own.intro_rowo (cur := (putCells (Value.int .i64) o (sortI xs).toArray cur.toArray).toList) (putCells_prefix (by omega)) ⟨by simp [hsl]; omega, by omega⟩ hc ?_
    exact Own.intro_cel (by rw [hcl]; exact hf) (hO1.turned ht)
end Go.Sl
