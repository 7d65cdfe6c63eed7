/-
  Layer 2: the names of a disk's files, sorted: by the library's contracts.
-/
import Derived.Test.YtijbgeboaakmmaaSlLay
import Derived.Test.YtijbgeboaakmmaaLay
import Derived.Test.YtijbgeboaakmmaaRefDiskA
set_option linter.unusedVariables false
set_option linter.unusedSimpArgs false
set_option maxRecDepth 4000
namespace Go.Proofs.Ytijbgeboaakmmaa
open Go.Sl Go.RowKit Go.Maps Go.Sort Go.Shelf

theorem fun_keys {w0 : World} {A : List HProp} {m : Nat} :
    Fun Try.prog w0 31 [.map (some m)] A (Ret w0 (fun _ : Nat => True) (fun b => .func (.func 43) #[] #[.pointer (some ⟨b, 0, none⟩)]) (fun b => cel b [.map (some m)] 57 :: A)) :=
  ⟨fun w hw => ((callsIn_wide (n := 5)).1 (AnyZ.keys_in ly_keysA Fence.wide 5 trivial rfl (some m) w)).mono fun e w' ⟨he, hw'⟩ => ⟨w.heap.size, trivial, he, by
    rw [hw']
    exact (hw.alloc _).head fun h a => ⟨(0, 0), .inl rfl, a⟩⟩⟩
theorem sorts_in (m : Nat) : AnyZ.SortsIn Try.prog ly_sorted_ren Fence.wide m :=
  ⟨fun blk off cap ss W hH hblk hsz => callsIn_wide.2 (AnyM.slices_Sort_string ly_sort blk off cap ss W hH hblk hsz),
   fun p cap W => callsIn_wide.2 (AnyM.slices_Sort_string_none ly_sort p cap W)⟩
theorem cel_at {w0 w : World} {A : List HProp} {b : Nat} {v : Value} {e : TypeId} (H : Own w0 (cel b [v] e :: A) w) : b < w.heap.size ∧ w.cell? ⟨b, 0, none⟩ = some v := by
  obtain ⟨h0, h, ⟨h1, h2, ⟨fz, hf, a⟩, a2, dd, x⟩, hw⟩ := H
  have h3 : h b = some (.cells #[v] e fz) := by rw [x b, a b, if_pos rfl]; rfl
  have h4 := (hw b _ h3).2
  refine ⟨(Array.getElem?_eq_some_iff.1 h4).1, ?_⟩
  simp [World.cell?, h4]
theorem fun_sorted {w0 : World} {R : List HProp} {b m : Nat} {ps : List (Value × Value)} (hs : ∀ p ∈ ps, ∃ s : ByteArray, p.1 = .string s ∧ s.size ≤ maxLen) (hl : ps.length ≤ 1099511627776) :
    Fun Try.prog w0 30 [.func (.func 43) #[] #[.pointer (some ⟨b, 0, none⟩)]] (cel b [.map (some m)] 57 :: mp .string m ps :: R)
      (Ret w0 (fun i : Option Addr × Nat × List (List UInt8) => i.2.2.Perm (ps.map fun p => keyB p.1) ∧ i.2.2.Pairwise (fun x y => leB x y = true) ∧ i.2.2.length ≤ i.2.1) (fun i => .slice i.1 i.2.2.length i.2.1) (fun i => row i.1 i.2.1 1 9 (i.2.2.map encStr) :: cel b [.map (some m)] 57 :: mp .string m ps :: R)) := by
  refine ⟨fun w hw => ?_⟩
  obtain ⟨hb, hc⟩ := cel_at hw
  obtain ⟨D0, hown, hsz, hkp⟩ := owns_of_mp (P := Try.prog) (k := 9) (m := m) (ps := ps) Try.underlying9 hw hs (by simp only [maxLen]; omega)
  have hseq : SeqGives Fence.wide 2 Try.prog 43 #[.pointer (some ⟨b, 0, none⟩)] encStr (fun ss => ss.Perm (strKeys D0)) (Maps.size D0) w :=
    AnyZ.keys_gives (ρ := ly_keysA_ren) { ly_keysA with } Fence.wide _ trivial rfl (by omega) b m ps.length D0 w hb hc hown
  have cS := AnyZ.sorted_in ly_sorted Fence.wide 5 trivial trivial trivial trivial rfl (by omega) (sorts_in _) (enters_of Try.func42 (by kernel_rfl) rfl) 43 #[.pointer (some ⟨b, 0, none⟩)] trivial (enters_of Try.func43 (by kernel_rfl) rfl) _ _ (by rw [hsz]; simp only [maxLen]; omega) (by rw [hsz]; omega) _ hseq
  refine ((callsIn_wide (n := 5)).1 cS).mono ?_
  rintro e w' ⟨v, ss, rfl, hS, hrow, _, hbl⟩
  obtain ⟨i, hi, rfl, hO⟩ := hw.of_owns hbl hrow
  have hp := List.mergeSort_perm ss leB
  have hle : (ss.mergeSort leB).length = ss.length := hp.length_eq
  refine ⟨(i.1, i.2, ss.mergeSort leB), ⟨hp.trans (hS.trans hkp), ?_, by rw [hle]; exact hi⟩, by show _ = Ending.returned (.slice i.1 (ss.mergeSort leB).length i.2); rw [hle], hO⟩
  exact List.pairwise_mergeSort (fun a b c h1 h2 => by
    simp only [leB, decide_eq_true_eq] at *
    exact List.le_trans h1 h2) (fun a b => by
    simp only [leB, Bool.or_eq_true, decide_eq_true_eq]
    exact List.le_total a b) ss
end Go.Proofs.Ytijbgeboaakmmaa
