/-
  What layer 2's small functions compute: contracts, walked from the translation.
-/
import Derived.Test.YthljpljbpbkkcaaDoorSlStr
import Derived.Test.YthljpljbpbkkcaaDoorBase
set_option linter.unusedVariables false
set_option linter.unusedSimpArgs false
set_option maxRecDepth 4000
namespace Go.Proofs.YthljpljbpbkkcaaDoor
open Go.Sl Go.RowKit

/-- a byte that a name may hold -/
def okByte (c : UInt8) : Prop := (97 ≤ c.toNat ∧ c.toNat ≤ 122) ∨ (48 ≤ c.toNat ∧ c.toNat ≤ 57) ∨ c.toNat = 46 ∨ c.toNat = 45
instance (c : UInt8) : Decidable (okByte c) := by unfold okByte; infer_instance
def okName (s : ByteArray) : Prop := (∀ c ∈ s.data.toList, okByte c) ∧ s.size ≠ 0 ∧ s.size ≤ 16
instance (s : ByteArray) : Decidable (okName s) := by unfold okName; infer_instance
theorem size_ne {s : ByteArray} : s ≠ ByteArray.empty ↔ s.size ≠ 0 := by
  constructor
  · intro h h0
    apply h
    obtain ⟨⟨l⟩⟩ := s
    have : l = [] := List.eq_nil_of_length_eq_zero (by simpa [ByteArray.size] using h0)
    subst this; rfl
  · rintro h rfl; exact h rfl
theorem u8s_getD {bs : List UInt8} {i : Nat} (h : i < bs.length) : (u8s bs)[((i : Int)).toNat]? = some (u8v (bs.getD i 0)) := by
  have : ((i : Int)).toNat = i := by omega
  rw [this, u8s_at h, List.getD_eq_getElem?_getD, List.getElem?_eq_getElem h]; rfl
theorem disk_named {w0 : World} {A : List HProp} {s : ByteArray} (hs : s.size ≤ 140737488351232) :
    Fun Tryd.prog w0 77 [.string s] A (Ret w0 (fun _ : Unit => True) (fun _ => .bool (decide (okName s))) (fun _ => A)) := by
  refine Fun.enter Tryd.func77 rfl Tryd.ntmps77 rfl ?_
  refine WC.seq <| WC.region <| sv (vaB rfl) <| WL.nil <| WX.thenN <| WC.seq <| WC.seq <| WC.region <| sv (vmT rfl) <| cvs Tryd.underlying9 Tryd.underlying25 Tryd.underlying5 rfl (by simp only [maxLen]; omega) fun b1 c1 hc1 =>sv (vlen Tryd.underlying25 rfl) <| sv (vmI rfl) <| WL.nil <| WX.thenN <| WC.block <| ?_
  refine WC.loop (ι := Nat) (fun i => [(8, .int .i64 i)]) [(0, .string _), (6, .slice _ _ _), (7, .int _ _)] (fun i => row (some ⟨b1, 0, none⟩) c1 1 5 (u8s s.data.toList) :: A) (fun i => i ≤ s.size ∧ ∀ j, j < i → okByte (s.data.toList.getD j 0)) (fun i => s.size - i) (0) (⟨Nat.zero_le _, fun j h => by omega⟩) ⟨rfl, trivial⟩ ⟨rfl, rfl, rfl, trivial⟩ (fun _ h => h) ?_
  rintro k ⟨hk, hj⟩ ρh
  have hsz : s.data.toList.length = s.size := rfl
  refine WC.seq <| WC.region <| sv (vlt rfl rfl) <| WL.nil <| WX.thenN <| WC.seq <| ?_
  refine WC.ite rfl (fun h1 => ?_) (fun h1 => ?_)
  · -- then
    refine WC.skip <| WX.thenN <| WC.seq <| WC.block <| WC.seq <| WC.region <| sv (vixb Tryd.underlying25 sz5 rfl rfl (by omega) (by omega) (by omega)) <| sv (vldr pl5 rfl (u8s_getD (by omega))) <| sv (vaI rfl) <| WL.nil <| WX.thenN <| ?_
    refine WC.cut0 [(33, .bool (decide (¬ okByte (s.data.toList.getD k 0))))] [(0, .string _), (6, .slice _ _ _), (7, .int _ _), (8, .int _ _)] (row (some ⟨b1, 0, none⟩) c1 1 5 (u8s s.data.toList) :: A) ⟨rfl, rfl, rfl, rfl, trivial⟩ ?_ fun ρh => ?_
    · -- disk.go:32
      refine WC.region <| sv (vmI rfl) <| svs (vlt rfl rfl) (fun q1 => ?_) (fun q1 => ?_)
      ·
        refine sv (vmB rfl) <| sng rfl <| sng rfl <| sv (vpkt rfl) <| sv (vmB rfl) <| svg rfl (vmI rfl) <| svsg rfl (vlt rfl rfl) (fun q2 => ?_) (fun q2 => ?_)
        ·
          refine svg rfl (vmB rfl) <| sng rfl <| sng rfl <| svg rfl (vpkt rfl) <| sv (vpkt rfl) <| sv (vmB rfl) <| svg rfl (vmI rfl) <| svsg rfl (vne rfl rfl) (fun q3 => ?_) (fun q3 => ?_)
          ·
            exact sv (vpkt rfl) <| sv (vmB rfl) <| svg rfl (vmI rfl) <| svg rfl (vne rfl rfl) <| sv (vpkt rfl) <| WL.nil <| WX.mid () trivial ⟨bI (by unfold okByte; omega), trivial⟩ ⟨rfl, rfl, rfl, rfl, trivial⟩ (fun _ h => h)
          ·
            exact sv (vpkt rfl) <| sv (vmB rfl) <| sng rfl <| sng rfl <| sv (vpkf rfl) <| WL.nil <| WX.mid () trivial ⟨bF (by unfold okByte; omega), trivial⟩ ⟨rfl, rfl, rfl, rfl, trivial⟩ (fun _ h => h)
        ·
          refine svg rfl (vmB rfl) <| svg rfl (vmI rfl) <| svsg rfl (vgt rfl rfl) (fun q4 => ?_) (fun q4 => ?_)
          ·
            refine svg rfl (vpkf rfl) <| sv (vpkt rfl) <| sv (vmB rfl) <| svg rfl (vmI rfl) <| svsg rfl (vne rfl rfl) (fun q5 => ?_) (fun q5 => ?_)
            ·
              exact sv (vpkt rfl) <| sv (vmB rfl) <| svg rfl (vmI rfl) <| svg rfl (vne rfl rfl) <| sv (vpkt rfl) <| WL.nil <| WX.mid () trivial ⟨bI (by unfold okByte; omega), trivial⟩ ⟨rfl, rfl, rfl, rfl, trivial⟩ (fun _ h => h)
            ·
              exact sv (vpkt rfl) <| sv (vmB rfl) <| sng rfl <| sng rfl <| sv (vpkf rfl) <| WL.nil <| WX.mid () trivial ⟨bF (by unfold okByte; omega), trivial⟩ ⟨rfl, rfl, rfl, rfl, trivial⟩ (fun _ h => h)
          ·
            exact svg rfl (vpkf rfl) <| sv (vpkt rfl) <| sv (vmB rfl) <| sng rfl <| sng rfl <| sv (vpkf rfl) <| sv (vmB rfl) <| sng rfl <| sng rfl <| sv (vpkf rfl) <| WL.nil <| WX.mid () trivial ⟨bF (by unfold okByte; omega), trivial⟩ ⟨rfl, rfl, rfl, rfl, trivial⟩ (fun _ h => h)
      ·
        refine sv (vmB rfl) <| svg rfl (vmI rfl) <| svsg rfl (vgt rfl rfl) (fun q6 => ?_) (fun q6 => ?_)
        ·
          refine sv (vpkf rfl) <| sv (vmB rfl) <| svg rfl (vmI rfl) <| svsg rfl (vlt rfl rfl) (fun q7 => ?_) (fun q7 => ?_)
          ·
            refine svg rfl (vmB rfl) <| sng rfl <| sng rfl <| svg rfl (vpkt rfl) <| sv (vpkt rfl) <| sv (vmB rfl) <| svg rfl (vmI rfl) <| svsg rfl (vne rfl rfl) (fun q8 => ?_) (fun q8 => ?_)
            ·
              exact sv (vpkt rfl) <| sv (vmB rfl) <| svg rfl (vmI rfl) <| svg rfl (vne rfl rfl) <| sv (vpkt rfl) <| WL.nil <| WX.mid () trivial ⟨bI (by unfold okByte; omega), trivial⟩ ⟨rfl, rfl, rfl, rfl, trivial⟩ (fun _ h => h)
            ·
              exact sv (vpkt rfl) <| sv (vmB rfl) <| sng rfl <| sng rfl <| sv (vpkf rfl) <| WL.nil <| WX.mid () trivial ⟨bF (by unfold okByte; omega), trivial⟩ ⟨rfl, rfl, rfl, rfl, trivial⟩ (fun _ h => h)
          ·
            refine svg rfl (vmB rfl) <| svg rfl (vmI rfl) <| svsg rfl (vgt rfl rfl) (fun q9 => ?_) (fun q9 => ?_)
            ·
              refine svg rfl (vpkf rfl) <| sv (vpkt rfl) <| sv (vmB rfl) <| svg rfl (vmI rfl) <| svsg rfl (vne rfl rfl) (fun q10 => ?_) (fun q10 => ?_)
              ·
                exact sv (vpkt rfl) <| sv (vmB rfl) <| svg rfl (vmI rfl) <| svg rfl (vne rfl rfl) <| sv (vpkt rfl) <| WL.nil <| WX.mid () trivial ⟨bI (by unfold okByte; omega), trivial⟩ ⟨rfl, rfl, rfl, rfl, trivial⟩ (fun _ h => h)
              ·
                exact sv (vpkt rfl) <| sv (vmB rfl) <| sng rfl <| sng rfl <| sv (vpkf rfl) <| WL.nil <| WX.mid () trivial ⟨bF (by unfold okByte; omega), trivial⟩ ⟨rfl, rfl, rfl, rfl, trivial⟩ (fun _ h => h)
            ·
              exact svg rfl (vpkf rfl) <| sv (vpkt rfl) <| sv (vmB rfl) <| sng rfl <| sng rfl <| sv (vpkf rfl) <| sv (vmB rfl) <| sng rfl <| sng rfl <| sv (vpkf rfl) <| WL.nil <| WX.mid () trivial ⟨bF (by unfold okByte; omega), trivial⟩ ⟨rfl, rfl, rfl, rfl, trivial⟩ (fun _ h => h)
        ·
          exact sv (vpkf rfl) <| sv (vmB rfl) <| sng rfl <| sng rfl <| sng rfl <| sng rfl <| sng rfl <| sng rfl <| sv (vpkf rfl) <| sv (vmB rfl) <| sng rfl <| sng rfl <| sv (vpkf rfl) <| sv (vmB rfl) <| sng rfl <| sng rfl <| sv (vpkf rfl) <| WL.nil <| WX.mid () trivial ⟨bF (by unfold okByte; omega), trivial⟩ ⟨rfl, rfl, rfl, rfl, trivial⟩ (fun _ h => h)
    refine WC.ite rfl (fun h2 => ?_) (fun h2 => ?_)
    · -- then
      have hm : s.data.toList.getD k 0 ∈ s.data.toList := by rw [List.getD_eq_getElem?_getD, List.getElem?_eq_getElem (by omega)]; exact List.getElem_mem _
      exact WC.seq <| WC.region <| sv (vaB rfl) <| WL.nil <| WX.thenN <| WC.ret <| WX.blockR <| WX.thenR <| WX.thenR <| WX.blockR <| WX.thenR <| WX.ret1 rfl (()) (trivial) (bF (fun h => h2 (h.1 _ hm))) (fun w h => h.suf)
    · -- else
      exact WC.skip <| WX.blockN <| WX.thenN <| WC.region <| sv (vadd rfl rfl (by omega)) <| sv (vmI rfl) <| WL.nil <| WX.again (k + 1) (⟨by omega, fun j h => by rcases Nat.lt_succ_iff_lt_or_eq.1 h with h | rfl; exact hj j h; exact Decidable.not_not.1 h2⟩) (by omega) ⟨rfl, trivial⟩ ⟨rfl, rfl, rfl, trivial⟩ (fun _ h => h)
  · -- else
    have hall : ∀ c ∈ s.data.toList, okByte c := fun c hc => by
      obtain ⟨j, hj', rfl⟩ := List.mem_iff_getElem.1 hc
      have := hj j (by omega)
      rwa [List.getD_eq_getElem?_getD, List.getElem?_eq_getElem hj'] at this
    have hE : okName s ↔ s ≠ ByteArray.empty ∧ s.size ≤ 16 := by
      unfold okName; rw [size_ne]; exact ⟨fun h => h.2, fun h => ⟨hall, h⟩⟩
    refine WC.exit <| WX.thenE <| WX.thenE <| WX.blockH <| WX.thenN <| ?_
    refine WC.cut0 [(2, .bool (decide (okName s)))] [] (A) trivial ?_ fun ρh => ?_
    · -- disk.go:36
      refine WC.region <| sv (vmT rfl) <| svs (vnes rfl rfl) (fun q11 => ?_) (fun q11 => ?_)
      ·
        exact sv (vmB rfl) <| svg rfl (vmT rfl) <| svg rfl (vlens Tryd.underlying9 rfl) <| svg rfl (vle rfl rfl) <| sv (vpkt rfl) <| sv (vaB rfl) <| WL.nil <| WX.mid () trivial ⟨bI ⟨fun h => hE.2 ⟨q11, by omega⟩, fun h => by have := (hE.1 h).2; omega⟩, trivial⟩ trivial (fun w h => h.suf)
      ·
        exact sv (vmB rfl) <| sng rfl <| sng rfl <| sng rfl <| sv (vpkf rfl) <| sv (vaB rfl) <| WL.nil <| WX.mid () trivial ⟨bF (fun h => q11 (hE.1 h).1), trivial⟩ trivial (fun w h => h.suf)
    exact WC.ret <| WX.ret1 rfl (()) (trivial) rfl (fun _ h => h)
end Go.Proofs.YthljpljbpbkkcaaDoor
