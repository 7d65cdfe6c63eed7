/-
  Layer 2's disk: files found, deeds.
-/
import Derived.Test.YthljpljbpbkkcaaDoorDiskPure
set_option linter.unusedVariables false
set_option linter.unusedSimpArgs false
set_option maxRecDepth 4000
namespace Go.Proofs.YthljpljbpbkkcaaDoor
open Go.Sl Go.RowKit

theorem ents_at {l : List DF} {j : Nat} {x : DF} (h : l[j]? = some x) : (ents l)[j]? = some (.string x.name, .pointer (some ⟨x.ptr, 0, none⟩)) := by simp [ents, h]
theorem ents_no {l : List DF} {nm : ByteArray} (h : ∀ x ∈ l, x.name ≠ nm) : ∀ p ∈ ents l, p.1 ≠ .string nm := by
  intro p hp
  simp only [ents, List.mem_map] at hp
  obtain ⟨x, hx, rfl⟩ := hp
  intro he
  exact h x hx (Value.string.inj he)
theorem disk_find_off {w0 : World} {R : List HProp} {d m : Nat} {st : DSt} {nm : ByteArray} (ho : st.off = true) :
    Fun Tryd.prog w0 47 [.pointer (some ⟨d, 0, none⟩), .string nm] (cel d (dcells m st) 60 :: R)
      (Ret w0 (fun _ : Unit => True) (fun _ => .tuple #[.pointer none, .int .i64 20]) (fun _ => cel d (dcells m st) 60 :: R)) := by
  unfold dcells
  rw [ho]
  refine Fun.enter Tryd.func47 rfl Tryd.ntmps47 rfl ?_
  refine WC.seq <| WC.region <| sv (vaP rfl) <| sv (vaI rfl) <| WL.nil <| WX.thenN <| WC.seq <| WC.seq <| WC.region <| sv (vmP rfl) <| sv (vpeqF Tryd.underlying31 rfl rfl) <| WL.nil <| WX.thenN <| ?_
  refine WC.ff rfl ?_
  refine WC.skip <| WX.thenN <| WC.seq <| WC.seq <| WC.region <| sv (vmP rfl) <| sv (vnil rfl) <| sv (vfld fl60f1 rfl) <| sv (vldc pl4 rfl) <| WL.nil <| WX.thenN <| ?_
  refine WC.tt rfl ?_
  exact WC.seq <| WC.region <| sv (vaP rfl) <| sv (vaI rfl) <| WL.nil <| WX.thenN <| WC.ret <| WX.thenR <| WX.ret2 rfl (()) (trivial) rfl (fun _ h => h)
theorem disk_find_none {w0 : World} {R : List HProp} {d m : Nat} {st : DSt} {nm : ByteArray} {l : List DF} (ho : st.off = false) (hl : ∀ x ∈ l, x.name ≠ nm) :
    Fun Tryd.prog w0 47 [.pointer (some ⟨d, 0, none⟩), .string nm] (cel d (dcells m st) 60 :: mp .string m (ents l) :: R)
      (Ret w0 (fun _ : Unit => True) (fun _ => .tuple #[.pointer none, .int .i64 21]) (fun _ => cel d (dcells m st) 60 :: mp .string m (ents l) :: R)) := by
  unfold dcells
  rw [ho]
  refine Fun.enter Tryd.func47 rfl Tryd.ntmps47 rfl ?_
  refine WC.seq <| WC.region <| sv (vaP rfl) <| sv (vaI rfl) <| WL.nil <| WX.thenN <| WC.seq <| WC.seq <| WC.region <| sv (vmP rfl) <| sv (vpeqF Tryd.underlying31 rfl rfl) <| WL.nil <| WX.thenN <| ?_
  refine WC.ff rfl ?_
  refine WC.skip <| WX.thenN <| WC.seq <| WC.seq <| WC.region <| sv (vmP rfl) <| sv (vnil rfl) <| sv (vfld fl60f1 rfl) <| sv (vldc pl4 rfl) <| WL.nil <| WX.thenN <| ?_
  refine WC.ff rfl ?_
  refine WC.skip <| WX.thenN <| WC.seq <| WC.region <| sv (vmP rfl) <| sv (vnil rfl) <| sv (vfld fl60f0 rfl) <| sv (vldc pl58 rfl) <| sv (vmT rfl) <| sv (vlkz Tryd.underlying58 Tryd.underlying9 zt92 rfl rfl trivial (ents_no hl)) <| sv (vaP rfl) <| WL.nil <| WX.thenN <| WC.seq <| WC.seq <| WC.region <| sv (vmP rfl) <| sv (vpeqT Tryd.underlying92 rfl rfl) <| WL.nil <| WX.thenN <| ?_
  refine WC.tt rfl ?_
  exact WC.seq <| WC.region <| sv (vaP rfl) <| sv (vaI rfl) <| WL.nil <| WX.thenN <| WC.ret <| WX.thenR <| WX.ret2 rfl (()) (trivial) rfl (fun _ h => h)
theorem disk_find {w0 : World} {R : List HProp} {d m : Nat} {st : DSt} {l : List DF} {x : DF} {j : Nat} (ho : st.off = false) (hl : l[j]? = some x) :
    Fun Tryd.prog w0 47 [.pointer (some ⟨d, 0, none⟩), .string x.name] (cel d (dcells m st) 60 :: mp .string m (ents l) :: R)
      (Ret w0 (fun _ : Unit => True) (fun _ => .tuple #[.pointer (some ⟨x.ptr, 0, none⟩), .int .i64 0]) (fun _ => cel d (dcells m st) 60 :: mp .string m (ents l) :: R)) := by
  unfold dcells
  rw [ho]
  refine Fun.enter Tryd.func47 rfl Tryd.ntmps47 rfl ?_
  refine WC.seq <| WC.region <| sv (vaP rfl) <| sv (vaI rfl) <| WL.nil <| WX.thenN <| WC.seq <| WC.seq <| WC.region <| sv (vmP rfl) <| sv (vpeqF Tryd.underlying31 rfl rfl) <| WL.nil <| WX.thenN <| ?_
  refine WC.ff rfl ?_
  refine WC.skip <| WX.thenN <| WC.seq <| WC.seq <| WC.region <| sv (vmP rfl) <| sv (vnil rfl) <| sv (vfld fl60f1 rfl) <| sv (vldc pl4 rfl) <| WL.nil <| WX.thenN <| ?_
  refine WC.ff rfl ?_
  refine WC.skip <| WX.thenN <| WC.seq <| WC.region <| sv (vmP rfl) <| sv (vnil rfl) <| sv (vfld fl60f0 rfl) <| sv (vldc pl58 rfl) <| sv (vmT rfl) <| sv (vlk Tryd.underlying58 Tryd.underlying9 rfl rfl trivial (ents_at hl)) <| sv (vaP rfl) <| WL.nil <| WX.thenN <| WC.seq <| WC.seq <| WC.region <| sv (vmP rfl) <| sv (vpeqF Tryd.underlying92 rfl rfl) <| WL.nil <| WX.thenN <| ?_
  refine WC.ff rfl ?_
  exact WC.skip <| WX.thenN <| WC.seq <| WC.region <| sv (vmP rfl) <| sv (vaP rfl) <| sv (vaI rfl) <| WL.nil <| WX.thenN <| WC.ret <| WX.ret2 rfl (()) (trivial) rfl (fun _ h => h)
theorem disk_find_bad {w0 : World} {R : List HProp} {d m : Nat} {st : DSt} {nm : ByteArray} {l : List DF} (hr : Rep l st) (hne : findE nm st ≠ 0) :
    Fun Tryd.prog w0 47 [.pointer (some ⟨d, 0, none⟩), .string nm] (cel d (dcells m st) 60 :: mp .string m (ents l) :: R)
      (Ret w0 (fun _ : Unit => True) (fun _ => .tuple #[.pointer none, .int .i64 (findE nm st)]) (fun _ => cel d (dcells m st) 60 :: mp .string m (ents l) :: R)) := by
  by_cases ho : st.off = true
  · have : findE nm st = 20 := by unfold findE; rw [if_pos ho]
    rw [this]; exact disk_find_off ho
  · have ho' : st.off = false := by simpa using ho
    have h2 : findE nm st = 21 ∧ st.files nm = none := by
      unfold findE at hne ⊢
      rw [if_neg ho] at hne ⊢
      cases hf : st.files nm with
      | none => simp
      | some v => simp [hf] at hne
    rw [h2.1]; exact disk_find_none ho' (hr.no h2.2)
end Go.Proofs.YthljpljbpbkkcaaDoor
