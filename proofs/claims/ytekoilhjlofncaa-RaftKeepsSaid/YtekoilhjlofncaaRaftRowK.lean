/-
  Layer 19: terms, votes and committed cells stay, the arguments as they read.
-/
import Derived.Test.YtekoilhjlofncaaRaftViews
import Derived.Test.YtekoilhjlofncaaRaftKeeps
namespace Go.Proofs.Ytekoilhjlofncaa
open Go.Sl Go.RowKit Go.Raft
theorem row_keeps {w0 : World} {A : List HProp} {id n t v : Int} (s : Sla CV) (o : Sla OV) (hs : Rd w0 s.base (s.xs.flatMap cellC)) (hsc : s.xs.length ≤ s.cap ∧ s.cap ≤ maxLen) (ho : Rd w0 o.base (o.xs.flatMap cellO))
    (hx : ∀ y ∈ o.xs, Rd w0 y.2.1.2.2.2.2.2.2.2.2.1.base (y.2.1.2.2.2.2.2.2.2.2.1.xs.flatMap cellC) ∧ y.2.1.2.2.2.2.2.2.2.2.1.xs.length ≤ y.2.1.2.2.2.2.2.2.2.2.1.cap ∧ y.2.1.2.2.2.2.2.2.2.2.1.cap ≤ maxLen) :
    Fun Try.prog w0 6 [.int .i64 id, .int .i64 n, .agg [.int .i64 t, .int .i64 v, .slice s.base s.xs.length s.cap].toArray, .slice o.base o.xs.length o.cap] A (Ret w0 (fun _ : Unit => True) (fun _ => .bool true) (fun _ => A)) := by
  rw [cellC_eq] at hs
  rw [cellO_eq] at ho
  have h := walk_keeps (w0 := w0) (A := A) (id := id) (n := n) (t := t) (v := v) (sc := s.cap) (oc := o.cap) hs (by rw [List.length_map]; simp only [maxLen] at hsc; omega) ho (by
    intro y hy
    obtain ⟨z, hz, rfl⟩ := List.mem_map.1 hy
    have h1 := hx z hz
    rw [cellC_eq] at h1
    refine ⟨h1.1, ?_, ?_⟩
    · show (z.2.1.2.2.2.2.2.2.2.2.1.xs.map toC).length ≤ z.2.1.2.2.2.2.2.2.2.2.1.cap
      rw [List.length_map]; exact h1.2.1
    · show (z.2.1.2.2.2.2.2.2.2.2.1.xs.map toC).length ≤ _
      rw [List.length_map]; have := h1.2; simp only [maxLen] at this; omega)
  rwa [show scells t v s.base (s.xs.map toC) s.cap = [.int .i64 t, .int .i64 v, .slice s.base s.xs.length s.cap] by unfold scells; rw [List.length_map], List.length_map] at h
end Go.Proofs.Ytekoilhjlofncaa
