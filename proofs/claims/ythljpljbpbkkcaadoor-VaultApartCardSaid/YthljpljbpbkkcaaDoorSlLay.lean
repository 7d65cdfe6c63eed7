/-
  From the library's contracts on slices.Sorted of maps.Keys to this logic: plain theorems over any program.
-/
import Derived.Test.YthljpljbpbkkcaaDoorSlMap
import Derived.Shelf.SlIter.Nil
import Derived.Shelf.SortM.Plain
import Derived.Shelf.SortM.SortNone
set_option linter.unusedVariables false
set_option linter.unusedSimpArgs false
namespace Go.Sl
open Go.RowKit Go.Maps Go.Sort Go.Shelf Go.Proofs Go.WideElems

theorem Own.grown {w0 w w' : World} {A : List HProp} (H : Own w0 A w) (hb : Below w.heap.size w w') : Own w0 A w' := by
  obtain ⟨h0, h, a, hw⟩ := H
  refine ⟨h0.trans (hb.mono h0.size), h, a, fun b o ho => ⟨(hw b o ho).1, ?_⟩⟩
  have h2 := (hw b o ho).2
  rw [hb.block b (Array.getElem?_eq_some_iff.1 h2).1]
  exact h2
theorem Own.grown_add {w0 w w' : World} {A : List HProp} (H : Own w0 A w) (hb : Below w.heap.size w w') {g : Nat} {o : Obj} (hg : w.heap.size ≤ g) (ho : w'.heap[g]? = some o) : Own w0 (pt g o :: A) w' := by
  have hl := H.1.size
  obtain ⟨h0, h, a, hw⟩ := H.grown hb
  obtain ⟨_, h1, a1, hw1⟩ := H
  refine ⟨h0, fun b => if b = g then some o else h1 b, ⟨fun b => if b = g then some o else none, h1, fun b => rfl, a1, fun b => ?_, fun b => ?_⟩, fun b o' ho' => ?_⟩
  · by_cases hs : b = g
    · right
      cases hh : h1 b with
      | none => rfl
      | some x =>
        have := (Array.getElem?_eq_some_iff.1 (hw1 b x hh).2).1
        omega
    · left; simp [hs]
  · by_cases hs : b = g
    · have : h1 b = none := by
        cases hh : h1 b with
        | none => rfl
        | some x =>
          have := (Array.getElem?_eq_some_iff.1 (hw1 b x hh).2).1
          omega
      simp [hs]
    · simp [hs]
  · dsimp only at ho'
    split at ho'
    · cases ho'; subst_vars; exact ⟨by omega, ho⟩
    · have h2 := (hw1 b o' ho').2
      refine ⟨(hw1 b o' ho').1, ?_⟩
      rw [hb.block b (Array.getElem?_eq_some_iff.1 h2).1]
      exact h2
/-- a row that a library's contract hands back -/
theorem Own.of_owns {w0 w w' : World} {A : List HProp} (H : Own w0 A w) (hb : Below w.heap.size w w') {e : TypeId} {v : Value} {n : Nat} {xs : List Value} (hr : w'.ownsRow w.heap.size e 1 v n xs) : ∃ i : Option Addr × Nat, n ≤ i.2 ∧ v = .slice i.1 n i.2 ∧ Own w0 (Sl.row i.1 i.2 1 e xs :: A) w' := by
  obtain ⟨h1, hr⟩ := hr
  rcases hr with ⟨rfl, rfl⟩ | ⟨g, cap, cur, rfl, hg, hc, hn, hm, hs, ht⟩
  · have : xs = [] := List.eq_nil_of_length_eq_zero (by omega)
    subst this
    exact ⟨(none, 0), Nat.le_refl _, rfl, (H.grown hb).intro_row_nil⟩
  · refine ⟨(some ⟨g, 0, none⟩, cap), hn, rfl, ?_⟩
    have h2 := H.grown_add hb hg hc
    refine Own.intro_row (s := 1) (cur := cur.toList) ?_ (by simpa using hs) hm (h2.head fun _ h => ?_)
    · rw [← ht]; exact List.take_prefix _ _
    · exact ⟨(0, 0), .inl rfl, h⟩
def anyR (v : Value) : Option (DataW Unit × List MemPlace) := some (.nil, [])
theorem insert_perm {H : Type} (x : Lit × DataW H) : ∀ l, (DataW.insert x l).Perm (x :: l)
  | [] => List.Perm.refl _
  | y :: r => by
    unfold DataW.insert
    split
    · exact List.Perm.refl _
    · exact ((insert_perm x r).cons y).trans (List.Perm.swap x y r)
theorem inserts_perm {H : Type} : ∀ l : List (Lit × DataW H), (l.foldr DataW.insert []).Perm l
  | [] => List.Perm.refl _
  | x :: l => (insert_perm x _).trans ((inserts_perm l).cons x)
def keyB : Value → List UInt8
  | .string s => s.data.toList
  | _ => []
theorem owns_of_mp {P : Program} {w0 w : World} {A : List HProp} {k : TypeId} {m : Nat} {ps : List (Value × Value)} (hk : P.underlying k = some .string) [hm : MpAt w0 A m .string ps] (H : Own w0 A w) (hs : ∀ p ∈ ps, ∃ s : ByteArray, p.1 = .string s ∧ s.size ≤ maxLen) (hl : ps.length ≤ maxLen) :
    ∃ D0 : DataW Unit, w.ownsMap P k anyR m ps.length D0 ∧ Maps.size D0 = ps.length ∧ (strKeys D0).Perm (ps.map fun p => keyB p.1) := by
  obtain ⟨es, clk, ⟨h1, h2, h3⟩, hb⟩ := hm.mp w H
  have hsz : es.toList.length = ps.length := by rw [← h1, List.length_map]
  have hrd : ∀ x ∈ es.toList, WideElems.rd P k anyR x = some (.string (keyB x.key), .nil) := fun x hx => by
    obtain ⟨s, e, hs⟩ := hs (x.key, x.val) (by rw [← h1]; exact List.mem_map.2 ⟨x, hx, rfl⟩)
    dsimp only at e
    unfold WideElems.rd
    simp [keyOf, hk, mapKey, e, hs, anyR, keyB]
  have hmap : es.toList.map (WideElems.rg P k anyR) = es.toList.map fun x => (.string (keyB x.key), .nil) := List.map_congr_left fun x hx => WideElems.rg_of (hrd x hx)
  refine ⟨_, ⟨es, clk, hb, ⟨by rw [← Array.length_toList]; omega, h2, fun x hx => ⟨_, hrd x hx⟩⟩, by rw [← Array.length_toList]; omega, rfl⟩, ?_, ?_⟩
  · rw [Maps.size_eq, (inserts_perm _).length_eq, List.length_map, hsz]
  · show List.Perm (List.map _ _) _
    refine ((inserts_perm _).map _).trans ?_
    rw [hmap, List.map_map, ← h1, List.map_map]
    exact List.Perm.of_eq rfl
end Go.Sl
