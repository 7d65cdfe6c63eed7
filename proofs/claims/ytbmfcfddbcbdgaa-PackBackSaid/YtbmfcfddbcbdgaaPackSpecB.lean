/-
  What layer 1's reader and the document's functions compute: contracts, walked from the translation.
-/
import Derived.Test.YtbmfcfddbcbdgaaPackSpecA
set_option linter.unusedVariables false
set_option linter.unusedSimpArgs false
set_option maxRecDepth 4000
namespace Go.Proofs.Ytbmfcfddbcbdgaa
open Go.Sl Go.Pack Go.RowKit

/-- A reader of layer 1: the bytes that are left, and whether there was a fault. -/
def preader (r : Nat) (bs : List UInt8) (bad : Bool) : HProp := fun h => ∃ base c, bs.length ≤ c ∧ star (cel r [.slice base bs.length c, .bool bad] 50) (own base 5 (u8s bs)) h
theorem preader_open {w0 w : World} {r : Nat} {bs : List UInt8} {bad : Bool} {A : List HProp} (H : Own w0 (preader r bs bad :: A) w) :
    ∃ x : Option Addr × Nat, bs.length ≤ x.2 ∧ Own w0 (cel r [.slice x.1 bs.length x.2, .bool bad] 50 :: own x.1 5 (u8s bs) :: A) w := by
  obtain ⟨hb, h, ⟨h1, h2, ⟨base, c, hc, a⟩, a2, d, x⟩, hw⟩ := H
  exact ⟨(base, c), hc, Own.star ⟨hb, h, ⟨h1, h2, a, a2, d, x⟩, hw⟩⟩
theorem preader_mk {w0 w : World} {r : Nat} {bs : List UInt8} {bad : Bool} {A : List HProp} {base : Option Addr} {c : Nat} (hc : bs.length ≤ c) (H : Own w0 (cel r [.slice base bs.length c, .bool bad] 50 :: own base 5 (u8s bs) :: A) w) :
    Own w0 (preader r bs bad :: A) w := H.intro_star.head fun _ h => ⟨base, c, hc, h⟩

theorem pack_new {w0 : World} {A : List HProp} {base : Option Addr} {c : Nat} {bs : List UInt8} [hR : Reads w0 A base (u8s bs)] (hb : bs.length ≤ 140737488355328) :
    Fun Try.prog w0 19 [.slice base bs.length c] A (Ret w0 (fun _ : Nat => True) (fun r => .pointer (some ⟨r, 0, none⟩)) (fun r => preader r bs false :: A)) := by
  refine Fun.enter Try.func19 rfl Try.ntmps19 rfl ?_
  refine WC.seq <| WC.region <| sv (vaP rfl) <| WL.nil <| WX.thenN <| WC.seq <| WC.region <| sv (vmS rfl) <| sv (vlen Try.underlying22 rfl) <| mk Try.underlying22 zt5 rfl rfl (by omega) (by omega) (by omega) (by omega) fun b1 => ?_
  rw [madeU8, show ((bs.length : Int)).toNat * 1 = bs.length by omega]
  refine sv (vaS rfl) <| WL.nil <| WX.thenN <| WC.seq <| WC.region <| sv (vmS rfl) <| sv (vmS rfl) <| cp sz5 Try.underlying22 rfl rfl (reads (vs := u8s bs)) (by simp) (u8s_one bs) (by simp) <| WL.nil <| WX.thenN <| WC.seq <| WC.region <| sv (vmS rfl) <| sv (vbd (ps := [(0, .slice _ _ _)]) (cs := [_, _]) bt50 zt50 rfl (by rfl)) <| bx (v := .agg _) rfl fun b4 => sv (vaP rfl) <| WL.nil <| WX.thenN <| WC.ret <| WX.ret1 rfl (b4) (trivial) rfl (fun w h => ?_)
  have e : splice (List.replicate bs.length (Value.int .u8 0)) 0 (u8s bs) = u8s bs := by simp [splice]
  rw [e] at h
  have h2 := h.pk1.intro_own (o := 0) (vs := u8s bs) (by simp)
  exact preader_mk (c := bs.length) (Nat.le_refl _) h2.pk1

theorem pack_fail {w0 : World} {A : List HProp} {r : Nat} {bs : List UInt8} {bad : Bool} :
    Fun Try.prog w0 28 [.pointer (some ⟨r, 0, none⟩)] (preader r bs bad :: A) (Ret w0 (fun _ : Unit => True) (fun _ => .tuple #[]) (fun _ => preader r [] true :: A)) := by
  refine Fun.ex (fun w h => preader_open h) ?_
  rintro ⟨base, c⟩ hc
  refine Fun.enter Try.func28 rfl Try.ntmps28 rfl ?_
  refine WC.region <| sv (vmP rfl) <| sv (vmP rfl) <| sv (vnil rfl) <| sv (vfld fl50f1 rfl) <| stc (v := .bool _) pl4 sz4 rfl rfl rfl <| sv (vnil rfl) <| sv (vfld fl50f0 rfl) <| stc (v := .slice _ _ _) pl22 sz22 rfl rfl rfl <| WL.nil <| WX.end0 rfl (()) (trivial) rfl (fun w h => ?_)
  exact preader_mk (Nat.le_refl _) (h.pk1.tail.intro_own_nil.pk1)

theorem leaf_or {a b : Prop} [Decidable a] [Decidable b] : True := trivial
theorem pack_rnum {w0 : World} {A : List HProp} {r : Nat} {bs : List UInt8} {bad : Bool} (hb : bs.length ≤ 140737488355328) :
    Fun Try.prog w0 20 [.pointer (some ⟨r, 0, none⟩)] (preader r bs bad :: A)
      (Ret w0 (fun _ : Unit => True) (fun _ => .int .i64 (if bad then 0 else ((take bs).map (·.1)).getD 0)) (fun _ => (if bad then preader r bs bad else match take bs with | some p => preader r (bs.drop p.2) false | none => preader r [] true) :: A)) := by
  refine Fun.ex (fun w h => preader_open h) ?_
  rintro ⟨base, c⟩ hc
  dsimp only at hc ⊢
  refine Fun.enter Try.func20 rfl Try.ntmps20 rfl ?_
  refine WC.seq <| WC.region <| sv (vaI rfl) <| WL.nil <| WX.thenN <| WC.seq <| ?_
  refine WC.cut0 [(13, .bool (decide (bad = true)))] [(0, .pointer _)] (cel r [.slice base bs.length c, .bool bad] 50 :: own base 5 (u8s bs) :: A) ⟨rfl, trivial⟩ ?_ fun ρh => ?_
  · -- pack.go:52
    exact WC.region <| sv (vmP rfl) <| sv (vpeqF Try.underlying37 rfl rfl) <| sv (vmB rfl) <| svg rfl (vmP rfl) <| svg rfl (vnil rfl) <| svg rfl (vfld fl50f1 rfl) <| svg rfl (vldc pl4 rfl) <| sv (vpkf rfl) <| WL.nil <| WX.mid () trivial ⟨bB (by simp), trivial⟩ ⟨rfl, trivial⟩ (fun _ h => h)
  refine WC.ite rfl (fun h1 => ?_) (fun h1 => ?_)
  · -- then
    subst h1
    exact WC.seq <| WC.region <| sv (vaI rfl) <| WL.nil <| WX.thenN <| WC.ret <| WX.thenR <| WX.ret1 rfl (()) (trivial) rfl (fun w h => preader_mk hc h)
  · -- else
    have h2' : bad = false := by simpa using h1
    subst h2'
    refine WC.skip <| WX.thenN <| WC.seq <| WC.region <| sv (vaI rfl) <| WL.nil <| WX.thenN <| WC.seq <| WC.seq <| WC.region <| sv (vmP rfl) <| sv (vnil rfl) <| sv (vfld fl50f0 rfl) <| sv (vldc pl22 rfl) <| sv (vlen Try.underlying22 rfl) <| sv (vmI rfl) <| WL.nil <| WX.thenN <| WC.block <| ?_
    refine WC.loop (ι := Nat × Nat) (fun i => [(3, .int .u64 i.2), (19, .int .i64 i.1)]) [(0, .pointer _), (17, .slice _ _ _), (18, .int _ _)] (fun i => cel r [.slice base bs.length c, .bool false] 50 :: own base 5 (u8s bs) :: A) (fun i => i.1 ≤ 9 ∧ i.1 ≤ bs.length ∧ i.2 < 128 ^ i.1 ∧ rdn i.1 i.2 (bs.drop i.1) = rdn 0 0 bs) (fun i => bs.length - i.1) ((0, 0)) (⟨by simp, by simp, by simp, rfl⟩) ⟨rfl, rfl, trivial⟩ ⟨rfl, rfl, rfl, trivial⟩ (fun _ h => h) ?_
    rintro ⟨i, z⟩ ⟨hi9, hil, hz, hrd⟩ ρh
    dsimp only at hi9 hil hz hrd ⊢
    refine WC.seq <| WC.region <| sv (vlt rfl rfl) <| WL.nil <| WX.thenN <| WC.seq <| ?_
    refine WC.ite rfl (fun h2 => ?_) (fun h2 => ?_)
    · -- then
      have hlt : i < bs.length := by omega
      have hd : bs.drop i = bs[i] :: bs.drop (i + 1) := List.drop_eq_getElem_cons hlt
      rw [hd, rdn] at hrd
      refine WC.skip <| WX.thenN <| WC.seq <| WC.block <| WC.seq <| WC.region <| sv (vmI rfl) <| sv (vixb Try.underlying22 sz5 rfl rfl (by omega) (by omega) (by omega)) <| sv (vldb pl5 rfl hlt) <| sv (vaI rfl) <| sv (vaI rfl) <| WL.nil <| WX.thenN <| WC.seq <| ?_
      refine WC.cut0 [(37, .bool (decide ((i = 9 ∧ bs[i].toNat ≠ 1) ∨ (0 < i ∧ bs[i].toNat = 0))))] [(0, .pointer _), (3, .int _ _), (4, .int _ _), (5, .int _ _), (17, .slice _ _ _), (18, .int _ _), (19, .int _ _)] (cel r [.slice base bs.length c, .bool false] 50 :: own base 5 (u8s bs) :: A) ⟨rfl, rfl, rfl, rfl, rfl, rfl, rfl, trivial⟩ ?_ fun ρh => ?_
      · -- pack.go:57
        refine WC.region <| sv (vmI rfl) <| svs (veq rfl rfl) (fun q1 => ?_) (fun q1 => ?_)
        ·
          refine sv (vmB rfl) <| svg rfl (vmI rfl) <| svsg rfl (vne rfl rfl) (fun q2 => ?_) (fun q2 => ?_)
          ·
            exact sv (vpkt rfl) <| sv (vmB rfl) <| sng rfl <| sng rfl <| sng rfl <| sng rfl <| sng rfl <| sng rfl <| sv (vpkt rfl) <| WL.nil <| WX.mid () trivial ⟨bT (by first | omega | simp_all | grind), trivial⟩ ⟨rfl, rfl, rfl, rfl, rfl, rfl, rfl, trivial⟩ (fun _ h => h)
          ·
            refine sv (vpkt rfl) <| sv (vmB rfl) <| svg rfl (vmI rfl) <| svsg rfl (vgt rfl rfl) (fun q3 => ?_) (fun q3 => ?_)
            ·
              exact svg rfl (vmB rfl) <| svg rfl (vmI rfl) <| svg rfl (veq rfl rfl) <| svg rfl (vpkt rfl) <| sv (vpkf rfl) <| WL.nil <| WX.mid () trivial ⟨bI (by first | omega | simp_all | grind), trivial⟩ ⟨rfl, rfl, rfl, rfl, rfl, rfl, rfl, trivial⟩ (fun _ h => h)
            ·
              exact svg rfl (vmB rfl) <| sng rfl <| sng rfl <| svg rfl (vpkf rfl) <| sv (vpkf rfl) <| WL.nil <| WX.mid () trivial ⟨bF (by first | omega | simp_all | grind), trivial⟩ ⟨rfl, rfl, rfl, rfl, rfl, rfl, rfl, trivial⟩ (fun _ h => h)
        ·
          refine sv (vmB rfl) <| sng rfl <| sng rfl <| sv (vpkf rfl) <| sv (vmB rfl) <| svg rfl (vmI rfl) <| svsg rfl (vgt rfl rfl) (fun q4 => ?_) (fun q4 => ?_)
          ·
            exact svg rfl (vmB rfl) <| svg rfl (vmI rfl) <| svg rfl (veq rfl rfl) <| svg rfl (vpkt rfl) <| sv (vpkf rfl) <| WL.nil <| WX.mid () trivial ⟨bI (by first | omega | simp_all | grind), trivial⟩ ⟨rfl, rfl, rfl, rfl, rfl, rfl, rfl, trivial⟩ (fun _ h => h)
          ·
            exact svg rfl (vmB rfl) <| sng rfl <| sng rfl <| svg rfl (vpkf rfl) <| sv (vpkf rfl) <| WL.nil <| WX.mid () trivial ⟨bF (by first | omega | simp_all | grind), trivial⟩ ⟨rfl, rfl, rfl, rfl, rfl, rfl, rfl, trivial⟩ (fun _ h => h)
      refine WC.ite rfl (fun h3 => ?_) (fun h3 => ?_)
      · -- then
        rw [if_pos h3] at hrd
        have ht : take bs = none := by unfold take; rw [← hrd]; rfl
        exact WC.exit <| WX.thenE <| WX.blockE rfl <| WX.thenE <| WX.thenE <| WX.blockH <| WX.thenN <| WC.seq <| WC.region <| sv (vmP rfl) <| cl (pack_fail.perm (fun w h => preader_mk hc h)) ct28 rfl fun r17 hr17 => WL.nil <| WX.thenN <| WC.seq <| WC.region <| sv (vaI rfl) <| WL.nil <| WX.thenN <| WC.ret <| WX.ret1 rfl (()) (trivial) (iv (by simp [ht])) (fun w h => by simpa [ht] using h)
      · -- else
        rw [if_neg h3] at hrd
        have h9 : i = 9 → bs[i].toNat = 1 := by intro h; by_cases hc1 : bs[i].toNat = 1 <;> simp_all
        refine WC.skip <| WX.thenN <| WC.seq <| WC.region <| sv (vmI rfl) <| sv (vmI rfl) <| sv (vand rfl rfl) <| sv (vcv is5 Try.underlying47 rfl) <| sv (vmI rfl) <| sv (vmul rfl rfl (by omega)) <| sv (vshl rfl rfl (by omega)) <| sv (vor rfl rfl) <| sv (vaI rfl) <| WL.nil <| WX.thenN <| WC.seq <| WC.region <| sv (vmI rfl) <| sv (vlt rfl rfl) <| WL.nil <| WX.thenN <| ?_
        refine WC.ite rfl (fun h4 => ?_) (fun h4 => ?_)
        · -- then
          rw [if_pos (by omega)] at hrd
          have ht : take bs = some (zag (z + bs[i].toNat % 128 * 128 ^ i), i + 1) := by unfold take; rw [← hrd]; rfl
          have hlt64 := (rdn_lt bs 0 0 (by simp) (by omega) _ hrd.symm).1
          have hor := or_raw bs[i] hz hi9 h9
          refine WC.seq <| WC.region <| sv (vmP rfl) <| sv (vmP rfl) <| sv (vnil rfl) <| sv (vfld fl50f0 rfl) <| sv (vldc pl22 rfl) <| sv (vmI rfl) <| sv (vadd rfl rfl (by omega)) <| sv (vslL Try.underlying22 sz5 rfl rfl (by omega) (by omega)) <| sv (vnil rfl) <| sv (vfld fl50f0 rfl) <| stc (v := .slice _ _ _) pl22 sz22 rfl rfl rfl <| WL.nil <| WX.thenN <| WC.seq <| WC.region <| sv (vmI rfl) <| sv (vshr rfl rfl (by omega)) <| sv (vcv is47 Try.underlying3 rfl) <| sv (vmI rfl) <| sv (vand rfl rfl) <| sv (vcv is47 Try.underlying3 rfl) <| sv (vneg rfl) <| sv (vxor rfl rfl) <| sv (vaI rfl) <| WL.nil <| WX.thenN <| WC.ret <| WX.blockR <| WX.thenR <| WX.thenR <| WX.blockR <| WX.thenR <| WX.ret1 rfl (()) (trivial) (by simp only [ht]; exact iv (by rw [hor]; exact zag_raw hlt64)) (fun w h => ?_)
          simp only [ht]
          have e : (((i : Int) + 1).toNat) = i + 1 := by omega
          rw [e] at h
          have h2 := (h.pk1.own_slice (i + 1) c (fun hci => List.drop_eq_nil_of_le (by simp; omega))).pk1
          rw [u8s_drop] at h2
          have hl : bs.length - (i + 1) = (bs.drop (i + 1)).length := by simp
          have h3 : Own w0 (cel r [.slice (slB base (i + 1) c 1) (bs.drop (i + 1)).length (c - (i + 1)), .bool false] 50 :: own (slB base (i + 1) c 1) 5 (u8s (bs.drop (i + 1))) :: A) w := by rw [← hl]; exact h2
          exact preader_mk (by simp; omega) h3
        · -- else
          rw [if_neg (by omega)] at hrd
          have hor := or_raw bs[i] hz hi9 h9
          have h9' : i ≠ 9 := fun h => by have := h9 h; omega
          refine WC.skip <| WX.blockN <| WX.thenN <| WC.region <| sv (vadd rfl rfl (by omega)) <| sv (vmI rfl) <| WL.nil <| WX.again ((i + 1, z + bs[i].toNat % 128 * 128 ^ i)) (⟨by simp only; omega, by simp only; omega, ?_, hrd⟩) (by simp only; omega) ⟨iv hor, rfl, trivial⟩ ⟨rfl, rfl, rfl, trivial⟩ (fun _ h => h)
          have e2 : 128 ^ (i + 1) = 128 ^ i * 128 := Nat.pow_succ ..
          have : bs[i].toNat % 128 * 128 ^ i ≤ 127 * 128 ^ i := Nat.mul_le_mul_right _ (by omega)
          simp only; omega
    · -- else
      have hnil : bs.drop i = [] := List.drop_eq_nil_of_le (by omega)
      rw [hnil] at hrd
      have ht : take bs = none := by unfold take; rw [← hrd]; rfl
      exact WC.exit <| WX.thenE <| WX.thenE <| WX.blockH <| WX.thenN <| WC.seq <| WC.region <| sv (vmP rfl) <| cl (pack_fail.perm (fun w h => preader_mk hc h)) ct28 rfl fun r17 hr17 => WL.nil <| WX.thenN <| WC.seq <| WC.region <| sv (vaI rfl) <| WL.nil <| WX.thenN <| WC.ret <| WX.ret1 rfl (()) (trivial) (iv (by simp [ht])) (fun w h => by simpa [ht] using h)
end Go.Proofs.Ytbmfcfddbcbdgaa
