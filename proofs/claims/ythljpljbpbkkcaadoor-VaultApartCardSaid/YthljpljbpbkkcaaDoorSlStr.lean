/-
  Strings turned to bytes, slices with their room cut. Plain theorems over any program.
-/
import Derived.Test.YthljpljbpbkkcaaDoorSlMap
set_option linter.unusedVariables false
set_option linter.unusedSimpArgs false
namespace Go.Sl
open Go.RowKit
section
variable {P : Program} {w0 : World} {n : Nat} {ops : Array Oper} {Q : Exit → Act → World → Prop} {ρ : Env} {A R : List HProp} {rest : List Oper} {T : TypeId} {pos : String} {af : Array Edge} {x y z : Operand} {t t2 e : TypeId} {base : Option Addr} {l c sz dst : Nat} {dd : Option Tmp} {g : Option (Nat × Bool)}
theorem vslLHM {u : Operand} {k k' k2 : IntKind} {lo hi mx : Int} (ht : P.underlying t = some (.slice e)) (hs : sizeT P e sz = true) (hx : ev n ρ x = .slice base l c) (hlo : ev n ρ u = .int k2 lo) (hhi : ev n ρ y = .int k hi) (hmx : ev n ρ z = .int k' mx) (h00 : 0 ≤ lo) (h0 : lo ≤ hi) (h1 : hi ≤ mx) (h2 : mx ≤ c) :
    Val P w0 n ρ A ⟨dd, .slice t x (some u) (some y) (some z), T, pos, af, g⟩ (.slice (slB base lo.toNat mx.toNat sz) (hi.toNat - lo.toNat) (mx.toNat - lo.toNat)) := fun w hw => by
  have h3 : 0 ≤ mx := by omega
  have h6 : 0 ≤ hi := by omega
  have h4 : hi ≤ (mx.toNat : Int) := by omega
  have h5 : ¬ max mx 0 < hi := by omega
  have h7 : lo ≤ (hi.toNat : Int) := by omega
  have h8 : ¬ max hi 0 < lo := by omega
  have h9 : hi ≤ max mx 0 := by omega
  have h10 : lo ≤ max hi 0 := by omega
  simp [execOp, hx, hlo, hhi, hmx, Instr.sliceAt, run_underlying ht, Instr.slice, Instr.sliceBounds, Instr.sliceBound, asIntOf, h0, h00, h1, h2, h3, h4, h5, h6, h7, h8, h9, h10, run_sizeOf_of hs, slB]
/-- an operation's value in other words -/
theorem vw {o : Oper} {v v' : Value} (h : Val P w0 n ρ A o v) (e : v = v') : Val P w0 n ρ A o v' := e ▸ h
/-- a number turned to another kind, its value given -/
theorem vcw {src dst : TypeId} {k k2 : IntKind} {a b : Int} (hs : (P.underlying src).isSome = true) (hd : P.underlying dst = some (.int k)) (hx : ev n ρ x = .int k2 a) (hw : k.wrap a = b) : Val P w0 n ρ A ⟨dd, .convert src dst x, T, pos, af, g⟩ (.int k b) := hw ▸ vcv hs hd hx
theorem rdb {w0 : World} {A : List HProp} {base : Option Addr} {bs : List UInt8} (h : RdC w0 A base (u8s bs)) (lo m k : Nat) (hm : m = lo → k = 0) : RdC w0 A (slB base lo m 1) (u8s ((bs.drop lo).take k)) := by
  have := h.slice lo m 1 k hm
  rwa [Nat.mul_one, u8s_drop, u8s_take] at this
theorem rdbL {w0 : World} {A : List HProp} {base : Option Addr} {bs : List UInt8} (h : RdC w0 A base (u8s bs)) (lo m : Nat) (hm : bs.length ≤ m) : RdC w0 A (slB base lo m 1) (u8s (bs.drop lo)) := by
  have := rdb h lo m (bs.length - lo) (by omega)
  rwa [List.take_of_length_le (by rw [List.length_drop]; omega)] at this
theorem rdbT {w0 : World} {A : List HProp} {base : Option Addr} {bs : List UInt8} (h : RdC w0 A base (u8s bs)) (k : Nat) : RdC w0 A base (u8s (bs.take k)) := by
  have := h.take k
  rwa [u8s_take] at this
theorem made_row {w0 w : World} {R : List HProp} {b n : Nat} {e : TypeId} (hn : n ≤ maxLen) (H : Own w0 (cel b (madeCells (Value.int .u8 0).cells (n * 1)).toList e :: R) w) : Own w0 (row (some ⟨b, 0, none⟩) n 1 e (u8s []) :: R) w :=
  H.intro_row (List.nil_prefix) (by rw [made_rep rfl, List.length_replicate]) hn
theorem vslHM {k k' : IntKind} {hi mx : Int} (ht : P.underlying t = some (.slice e)) (hs : sizeT P e sz = true) (hx : ev n ρ x = .slice base l c) (hhi : ev n ρ y = .int k hi) (hmx : ev n ρ z = .int k' mx) (h0 : 0 ≤ hi) (h1 : hi ≤ mx) (h2 : mx ≤ c) :
    Val P w0 n ρ A ⟨dd, .slice t x none (some y) (some z), T, pos, af, g⟩ (.slice base hi.toNat mx.toNat) := fun w hw => by
  have h3 : 0 ≤ mx := by omega
  have h4 : hi ≤ (mx.toNat : Int) := by omega
  have h5 : ¬ max mx 0 < hi := by omega
  simp [execOp, hx, hhi, hmx, Instr.sliceAt, run_underlying ht, Instr.slice, Instr.sliceBounds, Instr.sliceBound, asIntOf, h0, h1, h2, h3, h4, h5, run_sizeOf_of hs]
  all_goals (cases base <;> simp [Addr.add])
  all_goals (exact fun h => absurd h h5)
/-- []byte of a string -/
theorem cvs {str : ByteArray} (ht : P.underlying t = some .string) (h2 : P.underlying t2 = some (.slice e)) (he : P.underlying e = some (.int .u8)) (hx : ev n ρ x = .string str) (hl : str.size ≤ maxLen)
    (h : ∀ g c', str.size ≤ c' → WL P w0 n ops Q rest (set ρ dst (.slice (some ⟨g, 0, none⟩) str.size c')) (row (some ⟨g, 0, none⟩) c' 1 e (u8s str.data.toList) :: A)) :
    WL P w0 n ops Q (⟨some dst, .convert t t2 x, T, pos, af, none⟩ :: rest) ρ A :=
  WL.step rfl fun w hw => by
    have hge := grownCap_ge w str.size 0 e
    have hcm := grownCap_le_maxLen w str.size 0 e hl
    have hlen : ((u8s str.data.toList) ++ List.replicate (grownCap w str.size 0 e - str.size) (Value.int .u8 0)).length = grownCap w str.size 0 e := by
      simp; omega
    have hO := (hw.drew.alloc (.cells ((u8s str.data.toList) ++ List.replicate (grownCap w str.size 0 e - str.size) (Value.int .u8 0)).toArray e))
    have hh : (World.alloc w.drew (.cells ((u8s str.data.toList) ++ List.replicate (grownCap w str.size 0 e - str.size) (Value.int .u8 0)).toArray e)).heap[w.heap.size]? = some (.cells ((u8s str.data.toList) ++ List.replicate (grownCap w str.size 0 e - str.size) (Value.int .u8 0)).toArray e) := hO.heap.1
    refine ⟨.value (.slice (some ⟨w.heap.size, 0, none⟩) str.size (grownCap w str.size 0 e)), ((World.alloc w.drew (.cells ((u8s str.data.toList) ++ List.replicate (grownCap w str.size 0 e - str.size) (Value.int .u8 0)).toArray e)).freeze ⟨w.heap.size, grownCap w str.size 0 e, none⟩ 1), _, _, ?_, put_act .., Own.intro_row (cur := (u8s str.data.toList) ++ List.replicate (grownCap w str.size 0 e - str.size) (Value.int .u8 0)) (List.prefix_append _ _) (by simpa using hlen) hcm (Own.intro_cel (fz := (grownCap w str.size 0 e, grownCap w str.size 0 e + 1)) ?_ (hO.turned ?_)), h _ _ hge⟩
    · have hs : (World.alloc w.drew (.cells ((u8s str.data.toList) ++ List.replicate (grownCap w str.size 0 e - str.size) (Value.int .u8 0)).toArray e)).shape? w.heap.size = some (e, grownCap w str.size 0 e) := by
        simp only [World.shape?, hh]
        simp
        omega
      have hA : ∀ k : Nat, ((u8s str.data.toList) ++ List.replicate k (Value.int .u8 0)).toArray = Array.map (fun b : UInt8 => Value.int .u8 (b.toNat : Int)) str.data ++ Array.replicate k (Value.int .u8 0) := fun k => by
        apply Array.ext'
        simp [u8s, u8v]
      rw [hA] at hs ⊢
      unfold grownCap at hs ⊢
      simp [execOp, hx, convert, run_underlying ht, run_underlying h2, run_underlying he, Conv.stringToBytes, Question.forced, markStringish, newRow, Result.andThen, hs]
    · unfold NF; right; rw [hlen]; simp
    · refine ⟨rfl, rfl, rfl, by simp [World.freeze], ?_, fun k hk => ?_⟩
      · simp only [World.freeze]
        rw [if_neg (by decide)]
        rw [Array.getElem?_modify, if_pos rfl, hh]
        rfl
      · have : ¬ w.heap.size = k := fun e => hk e.symm
        simp [World.freeze, Array.getElem?_modify, this]
end
end Go.Sl
