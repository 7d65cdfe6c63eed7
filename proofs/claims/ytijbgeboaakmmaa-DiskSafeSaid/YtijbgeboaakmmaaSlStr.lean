/-
  Strings turned to bytes, slices with their room cut. Plain theorems over any program.
-/
import Derived.Test.YtijbgeboaakmmaaSlMap
set_option linter.unusedVariables false
set_option linter.unusedSimpArgs false
namespace Go.Sl
open Go.RowKit
section
variable {P : Program} {w0 : World} {n : Nat} {ops : Array Oper} {Q : Exit → Act → World → Prop} {ρ : Env} {A R : List HProp} {rest : List Oper} {T : TypeId} {pos : String} {af : Array Edge} {x y z : Operand} {t t2 e : TypeId} {base : Option Addr} {l c sz dst : Nat} {dd : Option Tmp} {g : Option (Nat × Bool)}
theorem vslHM {k k' : IntKind} {hi mx : Int} (ht : P.underlying t = some (.slice e)) (hs : sizeT P e sz = true) (hx : ev n ρ x = .slice base l c) (hhi : ev n ρ y = .int k hi) (hmx : ev n ρ z = .int k' mx) (h0 : 0 ≤ hi) (h1 : hi ≤ mx) (h2 : mx ≤ c) :
    Val P w0 n ρ A ⟨dd, .slice t x none (some y) (some z), T, pos, af, g⟩ (.slice base hi.toNat mx.toNat) := fun w hw => by
  have h3 : 0 ≤ mx := by omega
  have h4 : hi ≤ (mx.toNat : Int) := by omega
  have h5 : ¬ max mx 0 < hi := by omega
  simp [execOp, hx, hhi, hmx, Instr.sliceAt, run_underlying ht, Instr.slice, Instr.sliceBounds, Instr.sliceBound, asIntOf, h0, h1, h2, h3, h4, h5, run_sizeOf_of hs]
  all_goals (cases base <;> simp [Addr.add])
  all_goals (exact fun h => absurd h h5)
/-- []byte of a string -/
theorem cvs {str : ByteArray} (ht : P.underlying t = some .string) (h2 : P.underlying t2 = some (.slice e)) (he : P.underlying e = some (.int .u8)) (hx : ev n ρ x = .string str) (hl : str.size ≤ maxLen)
    (h : ∀ g c', str.size ≤ c' → WL P w0 n ops Q rest (set ρ dst (.slice (some ⟨g, 0, none⟩) str.size c')) (row (some ⟨g, 0, none⟩) c' 1 e (u8s str.data.toList) :: A)) :
    WL P w0 n ops Q (⟨some dst, .convert t t2 x, T, pos, af, none⟩ :: rest) ρ A :=
  WL.step rfl fun w hw => by
    have hge := grownCap_ge w str.size 0 e
    have hcm := grownCap_le_maxLen w str.size 0 e hl
    have hlen : ((u8s str.data.toList) ++ List.replicate (grownCap w str.size 0 e - str.size) (Value.int .u8 0)).length = grownCap w str.size 0 e := by
      simp; omega
    have hO := (hw.drew.alloc (.cells ((u8s str.data.toList) ++ List.replicate (grownCap w str.size 0 e - str.size) (Value.int .u8 0)).toArray e))
    have hh : (World.alloc w.drew (.cells ((u8s str.data.toList) ++ List.replicate (grownCap w str.size 0 e - str.size) (Value.int .u8 0)).toArray e)).heap[w.heap.size]? = some (.cells ((u8s str.data.toList) ++ List.replicate (grownCap w str.size 0 e - str.size) (Value.int .u8 0)).toArray e) := hO.heap.1
    refine ⟨.value (.slice (some ⟨w.heap.size, 0, none⟩) str.size (grownCap w str.size 0 e)), ((World.alloc w.drew (.cells ((u8s str.data.toList) ++ List.replicate (grownCap w str.size 0 e - str.size) (Value.int .u8 0)).toArray e)).freeze ⟨w.heap.size, grownCap w str.size 0 e, none⟩ 1), _, _, ?_, put_act .., Own.intro_row (cur := (u8s str.data.toList) ++ List.replicate (grownCap w str.size 0 e - str.size) (Value.int .u8 0)) (List.prefix_append _ _) (by simpa using hlen) hcm (Own.intro_cel (fz := (grownCap w str.size 0 e, grownCap w str.size 0 e + 1)) ?_ (hO.turned ?_)), h _ _ hge⟩
    · have hs : (World.alloc w.drew (.cells ((u8s str.data.toList) ++ List.replicate (grownCap w str.size 0 e - str.size) (Value.int .u8 0)).toArray e)).shape? w.heap.size = some (e, grownCap w str.size 0 e) := by
        simp only [World.shape?, hh]
        simp
        omega
      have hA : ∀ k : Nat, ((u8s str.data.toList) ++ List.replicate k (Value.int .u8 0)).toArray = Array.map (fun b : UInt8 => Value.int .u8 (b.toNat : Int)) str.data ++ Array.replicate k (Value.int .u8 0) := fun k => by
        apply Array.ext'
        simp [u8s, u8v]
      rw [hA] at hs ⊢
      unfold grownCap at hs ⊢
      simp [execOp, hx, convert, run_underlying ht, run_underlying h2, run_underlying he, Conv.stringToBytes, Question.forced, markStringish, newRow, Result.andThen, hs]
    · unfold NF; right; rw [hlen]; simp
    · refine ⟨rfl, rfl, rfl, by simp [World.freeze], ?_, fun k hk => ?_⟩
      · simp only [World.freeze]
        rw [if_neg (by decide)]
        rw [Array.getElem?_modify, if_pos rfl, hh]
        rfl
      · have : ¬ w.heap.size = k := fun e => hk e.symm
        simp [World.freeze, Array.getElem?_modify, this]
end
end Go.Sl
