/-
  Slices of byte slices of the call's own. Plain theorems over any program.
-/
import Derived.Test.YthljpljbpbkkcaaDoorSlView
import Derived.Test.YthljpljbpbkkcaaDoorSlStr
set_option linter.unusedVariables false
set_option linter.unusedSimpArgs false
namespace Go.Sl
open Go.RowKit

/-- the arrays of byte slices -/
def rows (e : TypeId) : List (Sla UInt8) → HProp
  | [] => emp
  | a :: l => star (row a.base a.cap 1 e (u8s a.xs)) (rows e l)
theorem rows_snoc {w0 w : World} {e : TypeId} {y : Sla UInt8} : ∀ {l : List (Sla UInt8)} {A : List HProp}, Own w0 (row y.base y.cap 1 e (u8s y.xs) :: rows e l :: A) w → Own w0 (rows e (l ++ [y]) :: A) w
  | [], A, H => H.intro_star
  | z :: l, A, H => by
    have h1 := H.pk1.star.pk1.pk2
    exact ((rows_snoc (l := l) (h1.ix [0, 1, 2])).ix [1, 0]).intro_star
theorem RdC.of_rows {w0 : World} {A : List HProp} {e : TypeId} {l : List (Sla UInt8)} {x : Sla UInt8} (hm : rows e l ∈ A) (hx : x ∈ l) : RdC w0 A x.base (u8s x.xs) := fun w hw => by
  obtain ⟨R, hR⟩ := hw.mem hm
  clear hm hw
  induction l generalizing R with
  | nil => cases hx
  | cons z l ih =>
    have h1 := hR.star
    rcases List.mem_cons.1 hx with rfl | hx
    · exact RdC.of_row (A := row x.base x.cap 1 e (u8s x.xs) :: rows e l :: R) (List.Mem.head _) w h1
    · exact ih hx _ h1.pk1
theorem Own.nil_u8 {w0 w : World} {R : List HProp} {e : TypeId} (h : Own w0 R w) : Own w0 (Sl.row none 0 1 e (u8s []) :: R) w := h.intro_row_nil
theorem bss_snoc (l : List (Sla UInt8)) (y : Sla UInt8) : bss (l ++ [y]) = bss l ++ [.slice y.base y.xs.length y.cap] := by simp [bss]
/-- a fact that every world of a class bears -/
theorem WC.known {P : Program} {w0 : World} {n : Nat} {c : Code} {Q : Exit → Act → World → Prop} {ρ : Env} {A : List HProp} {p : Prop} (hp : ∀ w, Own w0 A w → p) (h : p → WC P w0 n c Q ρ A) : WC P w0 n c Q ρ A := ⟨fun w hw => (h (hp w hw)).run w hw⟩
theorem Fun.known {P : Program} {w0 : World} {f : FuncId} {args : List Value} {A : List HProp} {R : Ending → World → Prop} {p : Prop} (hp : ∀ w, Own w0 A w → p) (h : p → Fun P w0 f args A R) : Fun P w0 f args A R := ⟨fun w hw => (h (hp w hw)).run w hw⟩
end Go.Sl
