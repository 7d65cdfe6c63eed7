/-
  Layer 19: the arguments of its laws as they read.
-/
import Derived.Test.YtekoilhjlofncaaRaftDoes
set_option linter.unusedVariables false
set_option linter.unusedSimpArgs false
set_option maxRecDepth 4000
namespace Go.Proofs.Ytekoilhjlofncaa
open Go.Sl Go.RowKit Go.Raft

abbrev CV := Int × ByteArray × Unit
abbrev MV := Int × Int × Int × Int × Int × Int × Int × Bool × Sla CV × Unit
abbrev OV := Int × MV × ByteArray × Unit
def toC (c : CV) : Cl := ⟨c.1, c.2.1⟩
def toM (m : MV) : Mh := ⟨m.1, m.2.1, m.2.2.1, m.2.2.2.1, m.2.2.2.2.1, m.2.2.2.2.2.1, m.2.2.2.2.2.2.1, m.2.2.2.2.2.2.2.1, ⟨m.2.2.2.2.2.2.2.2.1.base, m.2.2.2.2.2.2.2.2.1.xs.map toC, m.2.2.2.2.2.2.2.2.1.cap⟩⟩
def toOp (o : OV) : OpR := ⟨o.1, toM o.2.1, o.2.2.1⟩
abbrev cellC (c : CV) : List Value := [.int .i64 c.1, .string c.2.1]
abbrev cellM (m : MV) : List Value := [.int .i64 m.1, .int .i64 m.2.1, .int .i64 m.2.2.1, .int .i64 m.2.2.2.1, .int .i64 m.2.2.2.2.1, .int .i64 m.2.2.2.2.2.1, .int .i64 m.2.2.2.2.2.2.1, .bool m.2.2.2.2.2.2.2.1, .slice m.2.2.2.2.2.2.2.2.1.base m.2.2.2.2.2.2.2.2.1.xs.length m.2.2.2.2.2.2.2.2.1.cap]
abbrev cellO (o : OV) : List Value := .int .i64 o.1 :: (cellM o.2.1 ++ [.string o.2.2.1])
theorem cellC_eq (l : List CV) : l.flatMap cellC = cvs (l.map toC) := by
  unfold cvs
  rw [List.flatMap_map]; rfl
theorem cellM_eq (m : MV) : cellM m = mv (toM m) := by
  unfold toM
  show _ = [Value.int .i64 m.1, .int .i64 m.2.1, .int .i64 m.2.2.1, .int .i64 m.2.2.2.1, .int .i64 m.2.2.2.2.1, .int .i64 m.2.2.2.2.2.1, .int .i64 m.2.2.2.2.2.2.1, .bool m.2.2.2.2.2.2.2.1, .slice m.2.2.2.2.2.2.2.2.1.base (m.2.2.2.2.2.2.2.2.1.xs.map toC).length m.2.2.2.2.2.2.2.2.1.cap]
  rw [List.length_map]
theorem cellO_eq (l : List OV) : l.flatMap cellO = (l.map toOp).flatMap opr := by
  induction l with
  | nil => rfl
  | cons o l ih =>
    rw [List.map_cons, List.flatMap_cons, List.flatMap_cons, ih]
    congr 1
    show Value.int .i64 o.1 :: (cellM o.2.1 ++ [.string o.2.2.1]) = opr (toOp o)
    rw [cellM_eq]; rfl
theorem row_does {w0 : World} {A : List HProp} {id n t v : Int} (s : Sla CV) (o : Sla OV) (hs : Rd w0 s.base (s.xs.flatMap cellC)) (hsc : s.xs.length ≤ s.cap ∧ s.cap ≤ maxLen) (ho : Rd w0 o.base (o.xs.flatMap cellO))
    (hx : ∀ y ∈ o.xs, Rd w0 y.2.1.2.2.2.2.2.2.2.2.1.base (y.2.1.2.2.2.2.2.2.2.2.1.xs.flatMap cellC) ∧ y.2.1.2.2.2.2.2.2.2.2.1.xs.length ≤ y.2.1.2.2.2.2.2.2.2.2.1.cap ∧ y.2.1.2.2.2.2.2.2.2.2.1.cap ≤ maxLen) :
    Fun Try.prog w0 3 [.int .i64 id, .int .i64 n, .agg [.int .i64 t, .int .i64 v, .slice s.base s.xs.length s.cap].toArray, .slice o.base o.xs.length o.cap] A (Ret w0 (fun _ : Unit => True) (fun _ => .bool true) (fun _ => A)) := by
  rw [cellC_eq] at hs
  rw [cellO_eq] at ho
  have h := walk_does (w0 := w0) (A := A) (id := id) (n := n) (t := t) (v := v) (sc := s.cap) (oc := o.cap) hs (by rw [List.length_map]; simp only [maxLen] at hsc; omega) ho (by
    intro y hy
    obtain ⟨z, hz, rfl⟩ := List.mem_map.1 hy
    have h1 := hx z hz
    rw [cellC_eq] at h1
    refine ⟨h1.1, ?_, ?_⟩
    · show (z.2.1.2.2.2.2.2.2.2.2.1.xs.map toC).length ≤ z.2.1.2.2.2.2.2.2.2.2.1.cap
      rw [List.length_map]; exact h1.2.1
    · show (z.2.1.2.2.2.2.2.2.2.2.1.xs.map toC).length ≤ _
      rw [List.length_map]; have := h1.2; simp only [maxLen] at this; omega)
  rwa [show scells t v s.base (s.xs.map toC) s.cap = [.int .i64 t, .int .i64 v, .slice s.base s.xs.length s.cap] by unfold scells; rw [List.length_map], List.length_map] at h
end Go.Proofs.Ytekoilhjlofncaa
