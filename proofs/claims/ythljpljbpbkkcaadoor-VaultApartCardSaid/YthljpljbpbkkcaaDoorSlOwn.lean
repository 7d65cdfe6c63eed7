/-
  Stores into slices' arrays; arrays indexed. Plain theorems over any program.
-/
import Derived.Test.YthljpljbpbkkcaaDoorSlDraw
set_option linter.unusedVariables false
set_option linter.unusedSimpArgs false
namespace Go.Sl
open Go.RowKit

/-- chunks in another order, by their places -/
def ixB (l : List Nat) : Bool := (l.isPerm (List.range l.length))
theorem ix_perm (l : List HProp) (is : List Nat) (h : ixB is = true) (hn : (l.take is.length).length = is.length) : l.Perm (is.map (fun i => l.getD i emp) ++ l.drop is.length) := by
  have h1 : (is.map (fun i => l.getD i emp)).Perm ((List.range is.length).map fun i => l.getD i emp) := (List.isPerm_iff.1 h).map _
  have h2 : (List.range is.length).map (fun i => l.getD i emp) = l.take is.length := by
    apply List.ext_getElem?
    intro j
    rw [List.getElem?_map]
    by_cases hj : j < is.length
    · have hjl : j < l.length := by rw [List.length_take] at hn; omega
      rw [List.getElem?_range hj, List.getElem?_take, if_pos hj]
      simp [List.getD, hjl]
    · rw [List.getElem?_eq_none (by simpa using hj), List.getElem?_eq_none (by rw [hn]; omega)]; rfl
  rw [h2] at h1
  have h3 := h1.symm.append_right (l.drop is.length)
  rwa [List.take_append_drop] at h3
theorem Own.ix {w0 w : World} {l : List HProp} (H : Own w0 l w) (is : List Nat) (h : ixB is = true := by decide) (hn : (l.take is.length).length = is.length := by rfl) : Own w0 (is.map (fun i => l.getD i emp) ++ l.drop is.length) w := H.perm (ix_perm l is h hn)
theorem prefix_set {vs cur : List Value} {o j : Nat} {v : Value} (hp : vs <+: cur.drop o) (hj : j < vs.length) : vs.set j v <+: (cur.set (o + j) v).drop o ∧ o + j < cur.length := by
  obtain ⟨t, ht⟩ := hp
  have hl : vs.length + t.length = cur.length - o := by have := congrArg List.length ht; simpa using this
  refine ⟨⟨t, ?_⟩, by omega⟩
  rw [List.drop_set, if_neg (by omega), ← ht, Nat.add_sub_cancel_left, List.set_append_left _ _ hj]
section
variable {P : Program} {w0 : World} {n : Nat} {ops : Array Oper} {Q : Exit → Act → World → Prop} {ρ : Env} {A R : List HProp} {rest : List Oper} {T : TypeId} {pos : String} {af : Array Edge} {x y : Operand} {t e : TypeId} {vs : List Value} {v : Value} {base : Option Addr} {j c s : Nat}
/-- a store into an array of the call's own -/
theorem sto (ht : plainT P t = true) (hs : sizeT P t 1 = true) (hx : ev n ρ x = .pointer (base.map (·.add j))) (hv : ev n ρ y = v) (h1 : v.oneCell' = true) (hj : j < vs.length)
    (h : WL P w0 n ops Q rest ρ (own base e (vs.set j v) :: R)) : WL P w0 n ops Q (⟨none, .store t x y, T, pos, af, none⟩ :: rest) ρ (own base e vs :: R) := ⟨fun w hw => by
  rcases hw.own with ⟨rfl, _⟩ | ⟨g, o, cur, rfl, hp, hO⟩
  · simp at hj
  · have hps := prefix_set (v := v) hp hj
    exact (st (vs := cur) (off := o + j) ht hs (by rw [hx]; simp [Addr.add]) hv h1 (by rw [Nat.blt_eq]; exact hps.2) (pm (fun w hw => hw.intro_own hps.1) h)).run w hO⟩
/-- a store into a row -/
theorem str (ht : plainT P t = true) (hs : sizeT P t 1 = true) (hx : ev n ρ x = .pointer (base.map (·.add j))) (hv : ev n ρ y = v) (h1 : v.oneCell' = true) (hj : j < vs.length)
    (h : WL P w0 n ops Q rest ρ (row base c s e (vs.set j v) :: R)) : WL P w0 n ops Q (⟨none, .store t x y, T, pos, af, none⟩ :: rest) ρ (row base c s e vs :: R) := ⟨fun w hw => by
  rcases hw.row with ⟨_, rfl, _⟩ | ⟨g, o, cur, rfl, hp, hl, hc, hO⟩
  · simp at hj
  · have hps := prefix_set (v := v) hp hj
    exact (st (vs := cur) (off := o + j) ht hs (by rw [hx]; simp only [Option.map_some, add_at]) hv h1 (by rw [Nat.blt_eq]; exact hps.2) (pm (fun w hw => hw.intro_rowo hps.1 (by simpa using hl) hc) h)).run w hO⟩
/-- an array by its address -/
theorem vixa {k : IntKind} {i : Int} {N sz : Nat} {ad : Addr} {d : Option Tmp} {g : Option (Nat × Bool)} (ht : P.underlying t = some (.array N e)) (hs : sizeT P e sz = true) (hx : ev n ρ x = .pointer (some ad)) (hy : ev n ρ y = .int k i) (h0 : 0 ≤ i) (h1 : i < N) :
    Val P w0 n ρ A ⟨d, .indexAddr t x y, T, pos, af, g⟩ (.pointer (some (ad.add (i.toNat * sz)))) := fun w _ => by
  simp [execOp, hx, hy, Instr.indexAt, Instr.sureAddr, asIntOf, run_underlying ht, h0, h1, run_sizeOf_of hs]
theorem vixa1 {k : IntKind} {i : Int} {N b : Nat} {d : Option Tmp} {g : Option (Nat × Bool)} (ht : P.underlying t = some (.array N e)) (hs : sizeT P e 1 = true) (hx : ev n ρ x = .pointer (some ⟨b, 0, none⟩)) (hy : ev n ρ y = .int k i) (h0 : 0 ≤ i) (h1 : i < N) :
    Val P w0 n ρ A ⟨d, .indexAddr t x y, T, pos, af, g⟩ (.pointer (some ⟨b, i.toNat, none⟩)) := by
  have := vixa (P := P) (w0 := w0) (A := A) (d := d) (T := T) (pos := pos) (af := af) (g := g) ht hs hx hy h0 h1
  simpa only [add_at, Nat.mul_one, Nat.zero_add] using this
end
theorem vldo {P : Program} {w0 : World} {n : Nat} {ρ : Env} {A : List HProp} {dd : Option Tmp} {t T : TypeId} {x : Operand} {pos : String} {af : Array Edge} {g : Option (Nat × Bool)} {base : Option Addr} {vs : List Value} {v : Value} {j : Nat} (ht : plainT P t = true) (hx : ev n ρ x = .pointer (base.map (·.add j))) (hR : RdC w0 A base vs) (hj : vs[j]? = some v) :
    Val P w0 n ρ A ⟨dd, .load t x, T, pos, af, g⟩ v := by
  have : Reads w0 A base vs := ⟨hR⟩
  exact vldr ht hx hj
end Go.Sl
