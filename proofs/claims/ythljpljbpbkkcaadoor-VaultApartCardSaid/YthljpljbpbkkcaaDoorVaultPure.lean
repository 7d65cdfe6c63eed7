/-
  Layer 16 in plain words: parts, floors, calls, records.
-/
import Derived.Test.YthljpljbpbkkcaaDoorPackPure
set_option linter.unusedVariables false
set_option linter.unusedSimpArgs false
namespace Go.Vault
open Go.Pack

/-- a part's place -/
structure PK where
  flow : ByteArray
  num : Int
  kind : Int
  n : Int
deriving DecidableEq
/-- all that a vault has: what is there of each part, each flow's floor -/
structure VD where
  parts : PK → Option (List UInt8)
  floors : ByteArray → Int
def VD.new : VD := ⟨fun _ => none, fun _ => 0⟩
/-- a byte of a flow's name -/
def NmC (c : UInt8) : Prop := (97 ≤ c.toNat ∧ c.toNat ≤ 122) ∨ (48 ≤ c.toNat ∧ c.toNat ≤ 57) ∨ c.toNat = 45
instance (c : UInt8) : Decidable (NmC c) := inferInstanceAs (Decidable (_ ∨ _))
def vName (s : ByteArray) : Prop := s.data.toList ≠ [] ∧ s.size ≤ 16 ∧ ∀ c ∈ s.data.toList, NmC c
instance (s : ByteArray) : Decidable (vName s) := inferInstanceAs (Decidable (_ ∧ _ ∧ _))
def cntP (n : Int) : Prop := 1 ≤ n ∧ n ≤ 1000000000
instance (n : Int) : Decidable (cntP n) := inferInstanceAs (Decidable (_ ∧ _))
def mayP (kind n : Int) : Prop := (kind = 1 ∨ kind = 2) ∧ 0 ≤ n ∧ n < 16
instance (kind n : Int) : Decidable (mayP kind n) := inferInstanceAs (Decidable (_ ∧ _))
/-- may a part be put, and is it not there -/
def whyPut (d : VD) (k : PK) : Int × Bool :=
  if ¬ vName k.flow then (51, false) else if ¬ (cntP k.num ∧ mayP k.kind k.n) then (1, false) else if k.num < d.floors k.flow then (7, false) else (0, (d.parts k).isNone)
def whyDrop (d : VD) (flow : ByteArray) (below : Int) : Int × Bool :=
  if ¬ vName flow then (51, false) else if ¬ cntP below then (1, false) else (0, decide (d.floors flow < below))
def putD (d : VD) (k : PK) (b : List UInt8) : VD := ⟨fun q => if q = k then some b else d.parts q, d.floors⟩
def dropD (d : VD) (flow : ByteArray) (below : Int) : VD := ⟨fun q => if q.flow = flow ∧ q.num < below then none else d.parts q, fun f => if f = flow then below else d.floors f⟩
/-- a call's record -/
def recPut (k : PK) (b : List UInt8) : List UInt8 := num 1 ++ text k.flow.data.toList ++ num k.num ++ num k.kind ++ num k.n ++ text b
def recDrop (flow : ByteArray) (below : Int) : List UInt8 := num 2 ++ text flow.data.toList ++ num below
end Go.Vault
