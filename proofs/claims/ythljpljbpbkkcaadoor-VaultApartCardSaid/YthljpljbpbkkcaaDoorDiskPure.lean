/-
  Layer 2's disk as plain functions of its state.
-/
import Derived.Test.YthljpljbpbkkcaaDoorDiskSpecB
set_option linter.unusedVariables false
namespace Go.Proofs.YthljpljbpbkkcaaDoor

/-- how many bytes of a file are there when the power has failed -/
def keptOf (keep : Int) (x : List UInt8 × Nat) : Nat := x.2 + min (max keep 0).toNat (x.1.length - x.2)
def offV (keep : Int) (x : List UInt8 × Nat) : List UInt8 × Nat := (x.1.take (keptOf keep x), keptOf keep x)
def offS (keep : Int) (st : DSt) : DSt := if st.off then st else { st with off := true, files := fun k => (st.files k).map (offV keep) }
def putV (nm : ByteArray) (v : List UInt8 × Nat) (f : ByteArray → Option (List UInt8 × Nat)) : ByteArray → Option (List UInt8 × Nat) := fun k => if k = nm then some v else f k
def findE (nm : ByteArray) (st : DSt) : Int := if st.off then 20 else if (st.files nm).isSome then 0 else 21
/-- one deed: what it does, and what it does in the last moment of a fuse -/
def deedS (dof late : (ByteArray → Option (List UInt8 × Nat)) → ByteArray → Option (List UInt8 × Nat)) (st : DSt) : DSt × Int :=
  if st.fuse - 1 = 0 then (offS st.keep { st with deeds := st.deeds + 1, fuse := 0, files := late st.files }, 20)
  else ({ st with deeds := st.deeds + 1, fuse := max (st.fuse - 1) 0, files := dof st.files }, 0)
def syncS (nm : ByteArray) (st : DSt) : DSt × Int :=
  if st.off then (st, 20) else match st.files nm with
  | none => (st, 21)
  | some v => deedS (putV nm (v.1, v.1.length)) id st
def cutS (nm : ByteArray) (n : Int) (st : DSt) : DSt × Int :=
  if st.off then (st, 20) else match st.files nm with
  | none => (st, 21)
  | some v => if n < 0 ∨ v.1.length < n then (st, 1) else deedS (putV nm (v.1.take n.toNat, min v.2 n.toNat)) id st
def readS (nm : ByteArray) (st : DSt) : List UInt8 × Int :=
  if st.off then ([], 20) else match st.files nm with
  | none => ([], 21)
  | some v => (v.1, 0)
end Go.Proofs.YthljpljbpbkkcaaDoor
