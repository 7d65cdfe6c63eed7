/-
  What the rest of layer 1, the document's functions and the statements' helpers compute: contracts, walked from the translation.
-/
import Derived.Test.YtbmfcfddbcbdgaaPackSpecB
set_option linter.unusedVariables false
set_option linter.unusedSimpArgs false
set_option maxRecDepth 4000
namespace Go.Proofs.Ytbmfcfddbcbdgaa
open Go.Sl Go.Pack Go.RowKit

theorem str_take {bs : List UInt8} {n : Int} : True := trivial
/-- what Text hands back, and what is left -/
def rtext (bs : List UInt8) : Option (List UInt8 × List UInt8) := match take bs with
  | none => none
  | some (n, k) => if n < 0 ∨ ((bs.drop k).length : Int) < n then none else some ((bs.drop k).take n.toNat, (bs.drop k).drop n.toNat)
def rstate (r : Nat) (x : Option (List UInt8)) : HProp := preader r (x.getD []) x.isNone

theorem pack_rtext {w0 : World} {A : List HProp} {r : Nat} {bs : List UInt8} (hb : bs.length ≤ 140737488355328) :
    Fun Try.prog w0 22 [.pointer (some ⟨r, 0, none⟩)] (preader r bs false :: A)
      (Ret w0 (fun _ : Unit => True) (fun _ => .string ⟨(((rtext bs).map (·.1)).getD []).toArray⟩) (fun _ => rstate r ((rtext bs).map (·.2)) :: A)) := by
  have hN := pack_rnum (w0 := w0) (A := A) (r := r) (bs := bs) (bad := false) hb
  rcases ht : take bs with _ | ⟨n, k⟩
  · have hrt : rtext bs = none := by unfold rtext; rw [ht]
    rw [hrt]
    simp only [ht, Bool.false_eq_true, if_false, Option.map_none, Option.getD_none] at hN
    refine Fun.enter Try.func22 rfl Try.ntmps22 rfl ?_
    refine WC.seq <| WC.region <| sv (vaT rfl) <| WL.nil <| WX.thenN <| WC.seq <| WC.region <| sv (vmP rfl) <| cl hN ct20 rfl fun _ _ => sv (vaI rfl) <| WL.nil <| WX.thenN <| ?_
    refine WC.ex (fun w h => preader_open h) ?_
    rintro ⟨base, c⟩ hc
    exact WC.seq <| WC.seq <| WC.region <| sv (vmP rfl) <| sv (vpeqF Try.underlying37 rfl rfl) <| sv (vmB rfl) <| svg rfl (vmP rfl) <| svg rfl (vnil rfl) <| svg rfl (vfld fl50f1 rfl) <| svg rfl (vldc pl4 rfl) <| sv (vpkf rfl) <| WL.nil <| WX.thenN <| WC.tt rfl <| WC.seq <| WC.region <| sv (vaT rfl) <| WL.nil <| WX.thenN <| WC.ret <| WX.thenR <| WX.ret1 rfl () trivial rfl (fun w h => preader_mk hc h)
  · simp only [ht, Bool.false_eq_true, if_false, Option.map_some, Option.getD_some] at hN
    have hrd : ∃ z, rdn 0 0 bs = some (z, k) ∧ n = zag z := by
      unfold take at ht
      cases h : rdn 0 0 bs with
      | none => simp [h] at ht
      | some p => obtain ⟨z, k'⟩ := p; simp [h] at ht; exact ⟨z, by simp [ht.2], ht.1.symm⟩
    obtain ⟨z, hz, hn⟩ := hrd
    have hzl := (rdn_lt bs 0 0 (by simp) (by omega) _ hz).1
    have hnb : -9223372036854775808 ≤ n ∧ n ≤ 9223372036854775807 := by rw [hn]; unfold zag; split <;> omega
    refine Fun.enter Try.func22 rfl Try.ntmps22 rfl ?_
    refine WC.seq <| WC.region <| sv (vaT rfl) <| WL.nil <| WX.thenN <| WC.seq <| WC.region <| sv (vmP rfl) <| cl hN ct20 rfl fun _ _ => sv (vaI rfl) <| WL.nil <| WX.thenN <| ?_
    refine WC.ex (fun w h => preader_open h) ?_
    rintro ⟨base, c⟩ hc
    dsimp only at hc ⊢
    refine WC.seq <| WC.seq <| WC.region <| sv (vmP rfl) <| sv (vpeqF Try.underlying37 rfl rfl) <| sv (vmB rfl) <| svg rfl (vmP rfl) <| svg rfl (vnil rfl) <| svg rfl (vfld fl50f1 rfl) <| svg rfl (vldc pl4 rfl) <| sv (vpkf rfl) <| WL.nil <| WX.thenN <| WC.ff rfl <| WC.skip <| WX.thenN <| WC.seq <| ?_
    generalize hds : bs.drop k = ds at *
    refine WC.cut0 [(25, .bool (decide (n < 0 ∨ (ds.length : Int) < n)))] [(0, .pointer _), (3, .int _ _)] (cel r [.slice base ds.length c, .bool false] 50 :: own base 5 (u8s ds) :: A) ⟨rfl, rfl, trivial⟩ ?_ fun ρh => ?_
    · refine WC.region <| sv (vmI rfl) <| svs (vlt rfl rfl) (fun q3 => ?_) (fun q3 => ?_)
      · exact sv (vmB rfl) <| sng rfl <| sng rfl <| sng rfl <| sng rfl <| sng rfl <| sng rfl <| sng rfl <| sv (vpkt rfl) <| WL.nil <| WX.mid () trivial ⟨bT (by omega), trivial⟩ ⟨rfl, rfl, trivial⟩ (fun _ h => h)
      · exact sv (vmB rfl) <| svg rfl (vmI rfl) <| svg rfl (vmP rfl) <| svg rfl (vnil rfl) <| svg rfl (vfld fl50f0 rfl) <| svg rfl (vldc pl22 rfl) <| svg rfl (vlen Try.underlying22 rfl) <| svg rfl (vgt rfl rfl) <| sv (vpkf rfl) <| WL.nil <| WX.mid () trivial ⟨bI (by omega), trivial⟩ ⟨rfl, rfl, trivial⟩ (fun _ h => h)
    refine WC.ite rfl (fun h2 => ?_) (fun h2 => ?_)
    · have hrt : rtext bs = none := by unfold rtext; rw [ht]; simp only [hds]; rw [if_pos h2]
      rw [hrt]
      exact WC.seq <| WC.region <| sv (vmP rfl) <| cl (pack_fail.perm (fun w h => preader_mk hc h)) ct28 rfl fun _ _ => WL.nil <| WX.thenN <| WC.seq <| WC.region <| sv (vaT rfl) <| WL.nil <| WX.thenN <| WC.ret <| WX.thenR <| WX.ret1 rfl () trivial rfl (fun _ h => h)
    · have hrt : rtext bs = some (ds.take n.toNat, ds.drop n.toNat) := by unfold rtext; rw [ht]; simp only [hds]; rw [if_neg h2]
      rw [hrt]
      have h0 : 0 ≤ n := by omega
      have h1 : n ≤ ds.length := by omega
      have hlt : (ds.take n.toNat).length = n.toNat := by simp; omega
      have hstr : Reads w0 (cel r [.slice base ds.length c, .bool false] 50 :: own base 5 (u8s ds) :: A) base (u8s (ds.take n.toNat)) := ⟨by
        have := (reads (w0 := w0) (A := cel r [.slice base ds.length c, .bool false] 50 :: own base 5 (u8s ds) :: A) (base := base)).take n.toNat
        rwa [u8s_take] at this⟩
      refine WC.skip <| WX.thenN <| WC.seq <| WC.region <| sv (vmP rfl) <| sv (vnil rfl) <| sv (vfld fl50f0 rfl) <| sv (vldc pl22 rfl) <| sv (vmI rfl) <| sv (vslH Try.underlying22 sz5 rfl rfl h0 (by omega)) <| sv (vstr Try.underlying22 Try.underlying5 Try.underlying9 rfl hstr.rd hlt.symm) <| sv (vaT rfl) <| WL.nil <| WX.thenN <| WC.seq <| WC.region <| sv (vmP rfl) <| sv (vmP rfl) <| sv (vnil rfl) <| sv (vfld fl50f0 rfl) <| sv (vldc pl22 rfl) <| sv (vmI rfl) <| sv (vslL Try.underlying22 sz5 rfl rfl h0 h1) <| sv (vnil rfl) <| sv (vfld fl50f0 rfl) <| stc (v := .slice _ _ _) pl22 sz22 rfl rfl rfl <| WL.nil <| WX.thenN <| WC.seq <| WC.region <| sv (vmT rfl) <| sv (vaT rfl) <| WL.nil <| WX.thenN <| WC.ret <| WX.ret1 rfl () trivial rfl (fun w h => ?_)
      have h2 := (h.pk1.own_slice n.toNat c (fun hci => List.drop_eq_nil_of_le (by simp; omega))).pk1
      rw [u8s_drop] at h2
      have hl : ds.length - n.toNat = (ds.drop n.toNat).length := by simp
      rw [hl] at h2
      exact preader_mk (by simp; omega) h2

theorem pack_rtext_bad {w0 : World} {A : List HProp} {r : Nat} {bs : List UInt8} (hb : bs.length ≤ 140737488355328) :
    Fun Try.prog w0 22 [.pointer (some ⟨r, 0, none⟩)] (preader r bs true :: A)
      (Ret w0 (fun _ : Unit => True) (fun _ => .string ByteArray.empty) (fun _ => preader r bs true :: A)) := by
  have hN := pack_rnum (w0 := w0) (A := A) (r := r) (bs := bs) (bad := true) hb
  simp only [if_true] at hN
  refine Fun.enter Try.func22 rfl Try.ntmps22 rfl ?_
  refine WC.seq <| WC.region <| sv (vaT rfl) <| WL.nil <| WX.thenN <| WC.seq <| WC.region <| sv (vmP rfl) <| cl (hN) ct20 rfl fun _ _ => ?_
  refine WL.ex (fun w h => preader_open h) ?_
  rintro ⟨base, c⟩ hc
  dsimp only at hc ⊢
  refine sv (vaI rfl) <| WL.nil <| WX.thenN <| WC.seq <| ?_
  refine WC.cut0 [(14, .bool (decide (True)))] [(0, .pointer _), (3, .int _ _)] (cel r [.slice base bs.length c, .bool true] 50 :: own base 5 (u8s bs) :: A) ⟨rfl, rfl, trivial⟩ ?_ fun ρh => ?_
  · -- pack.go:73
    exact WC.region <| sv (vmP rfl) <| sv (vpeqF Try.underlying37 rfl rfl) <| sv (vmB rfl) <| svg rfl (vmP rfl) <| svg rfl (vnil rfl) <| svg rfl (vfld fl50f1 rfl) <| svg rfl (vldc pl4 rfl) <| sv (vpkf rfl) <| WL.nil <| WX.mid () trivial ⟨bT trivial, trivial⟩ ⟨rfl, rfl, trivial⟩ (fun _ h => h)
  refine WC.tt rfl ?_
  exact WC.seq <| WC.region <| sv (vaT rfl) <| WL.nil <| WX.thenN <| WC.ret <| WX.thenR <| WX.ret1 rfl (()) (trivial) rfl (fun w h => preader_mk hc h)

theorem pack_left {w0 : World} {A : List HProp} {r : Nat} {bs : List UInt8} {bad : Bool} :
    Fun Try.prog w0 24 [.pointer (some ⟨r, 0, none⟩)] (preader r bs bad :: A) (Ret w0 (fun _ : Unit => True) (fun _ => .int .i64 bs.length) (fun _ => preader r bs bad :: A)) := by
  refine Fun.ex (fun w h => preader_open h) ?_
  rintro ⟨base, c⟩ hc
  dsimp only at hc ⊢
  refine Fun.enter Try.func24 rfl Try.ntmps24 rfl ?_
  refine WC.seq <| WC.region <| sv (vaI rfl) <| WL.nil <| WX.thenN <| WC.seq <| WC.seq <| WC.region <| sv (vmP rfl) <| sv (vpeqF Try.underlying37 rfl rfl) <| WL.nil <| WX.thenN <| ?_
  refine WC.ff rfl ?_
  exact WC.skip <| WX.thenN <| WC.seq <| WC.region <| sv (vmP rfl) <| sv (vnil rfl) <| sv (vfld fl50f0 rfl) <| sv (vldc pl22 rfl) <| sv (vlen Try.underlying22 rfl) <| sv (vaI rfl) <| WL.nil <| WX.thenN <| WC.ret <| WX.ret1 rfl (()) (trivial) rfl (fun w h => preader_mk hc h)

theorem pack_bad {w0 : World} {A : List HProp} {r : Nat} {bs : List UInt8} {bad : Bool} :
    Fun Try.prog w0 26 [.pointer (some ⟨r, 0, none⟩)] (preader r bs bad :: A) (Ret w0 (fun _ : Unit => True) (fun _ => .bool bad) (fun _ => preader r bs bad :: A)) := by
  refine Fun.ex (fun w h => preader_open h) ?_
  rintro ⟨base, c⟩ hc
  dsimp only at hc ⊢
  refine Fun.enter Try.func26 rfl Try.ntmps26 rfl ?_
  refine WC.seq <| WC.region <| sv (vaB rfl) <| WL.nil <| WX.thenN <| ?_
  refine WC.cut0 [(2, .bool bad)] [] (cel r [.slice base bs.length c, .bool bad] 50 :: own base 5 (u8s bs) :: A) trivial ?_ fun ρh => ?_
  · -- pack.go:94
    exact WC.region <| sv (vmP rfl) <| sv (vpneT Try.underlying37 rfl rfl) <| sv (vmB rfl) <| svg rfl (vmP rfl) <| svg rfl (vnil rfl) <| svg rfl (vfld fl50f1 rfl) <| svg rfl (vldc pl4 rfl) <| sv (vpkt rfl) <| sv (vaB rfl) <| WL.nil <| WX.mid () trivial ⟨rfl, trivial⟩ trivial (fun _ h => h)
  exact WC.ret <| WX.ret1 rfl (()) (trivial) rfl (fun w h => preader_mk hc h)

theorem pack_done {w0 : World} {A : List HProp} {r : Nat} {bs : List UInt8} {bad : Bool} :
    Fun Try.prog w0 27 [.pointer (some ⟨r, 0, none⟩)] (preader r bs bad :: A) (Ret w0 (fun _ : Unit => True) (fun _ => .bool (decide (bad = false ∧ bs = []))) (fun _ => preader r bs bad :: A)) := by
  refine Fun.ex (fun w h => preader_open h) ?_
  rintro ⟨base, c⟩ hc
  dsimp only at hc ⊢
  refine Fun.enter Try.func27 rfl Try.ntmps27 rfl ?_
  refine WC.seq <| WC.region <| sv (vaB rfl) <| WL.nil <| WX.thenN <| ?_
  refine WC.cut0 [(2, .bool (decide (bad = false ∧ bs = [])))] [] (cel r [.slice base bs.length c, .bool bad] 50 :: own base 5 (u8s bs) :: A) trivial ?_ fun ρh => ?_
  · -- pack.go:97
    refine WC.region <| sv (vmP rfl) <| sv (vpneT Try.underlying37 rfl rfl) <| sv (vmB rfl) <| svg rfl (vmP rfl) <| svg rfl (vnil rfl) <| svg rfl (vfld fl50f1 rfl) <| svbg rfl (vldc pl4 rfl) (fun q1 => ?_) (fun q1 => ?_)
    ·
      exact svg rfl (vnot rfl) <| sv (vpkt rfl) <| sv (vmB rfl) <| sng rfl <| sng rfl <| sng rfl <| sng rfl <| sng rfl <| sng rfl <| sv (vpkf rfl) <| sv (vaB rfl) <| WL.nil <| WX.mid () trivial ⟨bF (by simp [q1]), trivial⟩ trivial (fun _ h => h)
    ·
      exact svg rfl (vnot rfl) <| sv (vpkt rfl) <| sv (vmB rfl) <| svg rfl (vmP rfl) <| svg rfl (vnil rfl) <| svg rfl (vfld fl50f0 rfl) <| svg rfl (vldc pl22 rfl) <| svg rfl (vlen Try.underlying22 rfl) <| svg rfl (veq rfl rfl) <| sv (vpkt rfl) <| sv (vaB rfl) <| WL.nil <| WX.mid () trivial ⟨bI (by simp [q1]), trivial⟩ trivial (fun _ h => h)
  exact WC.ret <| WX.ret1 rfl (()) (trivial) rfl (fun w h => preader_mk hc h)

/-! no reader -/
theorem pack_rnum_nil {w0 : World} {A : List HProp} : Fun Try.prog w0 20 [.pointer none] A (Ret w0 (fun _ : Unit => True) (fun _ => .int .i64 0) (fun _ => A)) := by
  refine Fun.enter Try.func20 rfl Try.ntmps20 rfl ?_
  refine WC.seq <| WC.region <| sv (vaI rfl) <| WL.nil <| WX.thenN <| WC.seq <| ?_
  refine WC.cut0 [(13, .bool (decide (True)))] [(0, .pointer _)] (A) ⟨rfl, trivial⟩ ?_ fun ρh => ?_
  · -- pack.go:52
    exact WC.region <| sv (vmP rfl) <| sv (vpeqT Try.underlying37 rfl rfl) <| sv (vmB rfl) <| sng rfl <| sng rfl <| sng rfl <| sng rfl <| sv (vpkt rfl) <| WL.nil <| WX.mid () trivial ⟨bT trivial, trivial⟩ ⟨rfl, trivial⟩ (fun _ h => h)
  refine WC.tt rfl ?_
  exact WC.seq <| WC.region <| sv (vaI rfl) <| WL.nil <| WX.thenN <| WC.ret <| WX.thenR <| WX.ret1 rfl (()) (trivial) rfl (fun _ h => h)
theorem pack_left_nil {w0 : World} {A : List HProp} : Fun Try.prog w0 24 [.pointer none] A (Ret w0 (fun _ : Unit => True) (fun _ => .int .i64 0) (fun _ => A)) := by
  refine Fun.enter Try.func24 rfl Try.ntmps24 rfl ?_
  refine WC.seq <| WC.region <| sv (vaI rfl) <| WL.nil <| WX.thenN <| WC.seq <| WC.seq <| WC.region <| sv (vmP rfl) <| sv (vpeqT Try.underlying37 rfl rfl) <| WL.nil <| WX.thenN <| ?_
  refine WC.tt rfl ?_
  exact WC.seq <| WC.region <| sv (vaI rfl) <| WL.nil <| WX.thenN <| WC.ret <| WX.thenR <| WX.ret1 rfl (()) (trivial) rfl (fun _ h => h)
theorem pack_bad_nil {w0 : World} {A : List HProp} : Fun Try.prog w0 26 [.pointer none] A (Ret w0 (fun _ : Unit => True) (fun _ => .bool false) (fun _ => A)) := by
  refine Fun.enter Try.func26 rfl Try.ntmps26 rfl ?_
  refine WC.seq <| WC.region <| sv (vaB rfl) <| WL.nil <| WX.thenN <| ?_
  refine WC.cut0 [(2, .bool false)] [] (A) trivial ?_ fun ρh => ?_
  · -- pack.go:94
    exact WC.region <| sv (vmP rfl) <| sv (vpneF Try.underlying37 rfl rfl) <| sv (vmB rfl) <| sng rfl <| sng rfl <| sng rfl <| sng rfl <| sv (vpkf rfl) <| sv (vaB rfl) <| WL.nil <| WX.mid () trivial ⟨rfl, trivial⟩ trivial (fun _ h => h)
  exact WC.ret <| WX.ret1 rfl (()) (trivial) rfl (fun _ h => h)
theorem pack_done_nil {w0 : World} {A : List HProp} : Fun Try.prog w0 27 [.pointer none] A (Ret w0 (fun _ : Unit => True) (fun _ => .bool false) (fun _ => A)) := by
  refine Fun.enter Try.func27 rfl Try.ntmps27 rfl ?_
  refine WC.seq <| WC.region <| sv (vaB rfl) <| WL.nil <| WX.thenN <| ?_
  refine WC.cut0 [(2, .bool false)] [] (A) trivial ?_ fun ρh => ?_
  · -- pack.go:97
    exact WC.region <| sv (vmP rfl) <| sv (vpneF Try.underlying37 rfl rfl) <| sv (vmB rfl) <| sng rfl <| sng rfl <| sng rfl <| sng rfl <| sng rfl <| sv (vpkf rfl) <| sv (vmB rfl) <| sng rfl <| sng rfl <| sng rfl <| sng rfl <| sng rfl <| sng rfl <| sv (vpkf rfl) <| sv (vaB rfl) <| WL.nil <| WX.mid () trivial ⟨rfl, trivial⟩ trivial (fun _ h => h)
  exact WC.ret <| WX.ret1 rfl (()) (trivial) rfl (fun _ h => h)
theorem pack_rtext_nil {w0 : World} {A : List HProp} : Fun Try.prog w0 22 [.pointer none] A (Ret w0 (fun _ : Unit => True) (fun _ => .string ByteArray.empty) (fun _ => A)) := by
  refine Fun.enter Try.func22 rfl Try.ntmps22 rfl ?_
  refine WC.seq <| WC.region <| sv (vaT rfl) <| WL.nil <| WX.thenN <| WC.seq <| WC.region <| sv (vmP rfl) <| cl (pack_rnum_nil) ct20 rfl fun _ _ => sv (vaI rfl) <| WL.nil <| WX.thenN <| WC.seq <| ?_
  refine WC.cut0 [(14, .bool (decide (True)))] [(0, .pointer _), (3, .int _ _)] (A) ⟨rfl, rfl, trivial⟩ ?_ fun ρh => ?_
  · -- pack.go:73
    exact WC.region <| sv (vmP rfl) <| sv (vpeqT Try.underlying37 rfl rfl) <| sv (vmB rfl) <| sng rfl <| sng rfl <| sng rfl <| sng rfl <| sv (vpkt rfl) <| WL.nil <| WX.mid () trivial ⟨bT trivial, trivial⟩ ⟨rfl, rfl, trivial⟩ (fun _ h => h)
  refine WC.tt rfl ?_
  exact WC.seq <| WC.region <| sv (vaT rfl) <| WL.nil <| WX.thenN <| WC.ret <| WX.thenR <| WX.ret1 rfl (()) (trivial) rfl (fun _ h => h)

/-! the statements' helper: are two lists of bytes the same? -/
theorem law_same {w0 : World} {A : List HProp} {b1 b2 : Option Addr} {c1 c2 : Nat} {xs ys : List UInt8} [hR : Reads w0 A b1 (u8s xs)] [hS : Reads w0 A b2 (u8s ys)] (hl : xs.length ≤ 9223372036854775807) :
    Fun Try.prog w0 14 [.slice b1 xs.length c1, .slice b2 ys.length c2] A (Ret w0 (fun _ : Unit => True) (fun _ => .bool (decide (xs = ys))) (fun _ => A)) := by
  refine Fun.enter Try.func14 rfl Try.ntmps14 rfl ?_
  refine WC.seq <| WC.region <| sv (vaB rfl) <| WL.nil <| WX.thenN <| WC.seq <| WC.seq <| WC.region <| sv (vmS rfl) <| sv (vlen Try.underlying22 rfl) <| sv (vmS rfl) <| sv (vlen Try.underlying22 rfl) <| sv (vne rfl rfl) <| WL.nil <| WX.thenN <| ?_
  refine WC.ite rfl (fun h1 => ?_) (fun h1 => ?_)
  · -- then
    exact WC.seq <| WC.region <| sv (vaB rfl) <| WL.nil <| WX.thenN <| WC.ret <| WX.thenR <| WX.ret1 rfl (()) (trivial) (bF (fun h => h1 (by rw [h]))) (fun _ h => h)
  · -- else
    have hlen : xs.length = ys.length := by omega
    refine WC.skip <| WX.thenN <| WC.seq <| WC.seq <| WC.region <| sv (vaI rfl) <| WL.nil <| WX.thenN <| WC.block <| ?_
    refine WC.loop (ι := Nat) (fun i => [(5, .int .i64 i)]) [(0, .slice _ _ _), (1, .slice _ _ _)] (fun i => A) (fun i => i ≤ xs.length ∧ xs.take i = ys.take i) (fun i => xs.length - i) (0) (⟨by omega, rfl⟩) ⟨rfl, trivial⟩ ⟨rfl, rfl, trivial⟩ (fun _ h => h) ?_
    intro i hi ρh
    refine WC.seq <| WC.seq <| WC.region <| sv (vmI rfl) <| sv (vmS rfl) <| sv (vlen Try.underlying22 rfl) <| sv (vlt rfl rfl) <| WL.nil <| WX.thenN <| ?_
    refine WC.ite rfl (fun h2 => ?_) (fun h2 => ?_)
    · -- then
      have hlt : i < xs.length := by omega
      have hlt2 : i < ys.length := by omega
      refine WC.skip <| WX.thenN <| WC.seq <| WC.block <| WC.seq <| WC.draws rfl (by kernel_rfl) <| qv (vmS rfl) <| qv (vmI rfl) <| qv (vixb Try.underlying22 sz5 rfl rfl (by omega) (by omega) (by omega)) <| qv (vldb pl5 rfl hlt) <| qv (vmS rfl) <| qv (vmI rfl) <| qv (vixb Try.underlying22 sz5 rfl rfl (by omega) (by omega) (by omega)) <| qv (vldb pl5 rfl hlt2) <| qv (vne rfl rfl) <| WQ.nil <| WX.thenN <| ?_
      refine WC.ite rfl (fun h3 => ?_) (fun h3 => ?_)
      · -- then
        exact WC.seq <| WC.region <| sv (vaB rfl) <| WL.nil <| WX.thenN <| WC.ret <| WX.blockR <| WX.thenR <| WX.thenR <| WX.blockR <| WX.thenR <| WX.ret1 rfl (()) (trivial) (bF (fun h => h3 (by subst h; rfl))) (fun _ h => h)
      · -- else
        refine WC.skip <| WX.blockN <| WX.thenN <| WC.region <| sv (vmI rfl) <| sv (vadd rfl rfl (by omega)) <| sv (vaI rfl) <| WL.nil <| WX.again (i + 1) (⟨by omega, ?_⟩) (by omega) ⟨rfl, trivial⟩ ⟨rfl, rfl, trivial⟩ (fun _ h => h)
        rw [List.take_succ_eq_append_getElem hlt, List.take_succ_eq_append_getElem hlt2, hi.2]
        congr 2
        exact UInt8.toNat_inj.1 (by omega)
    · -- else
      exact WC.exit <| WX.thenE <| WX.thenE <| WX.blockH <| WX.thenN <| WC.seq <| WC.region <| sv (vaB rfl) <| WL.nil <| WX.thenN <| WC.ret <| WX.ret1 rfl (()) (trivial) (bT (by have := hi.2; rwa [List.take_of_length_le (by omega), List.take_of_length_le (by omega)] at this)) (fun _ h => h)
theorem law_same_true {w0 : World} {A : List HProp} {b1 b2 : Option Addr} {c1 c2 n1 n2 : Nat} (xs ys : List UInt8) (hR : RdC w0 A b1 (u8s xs)) (hS : RdC w0 A b2 (u8s ys)) (h1 : n1 = xs.length) (h2 : n2 = ys.length) (hl : xs.length ≤ 9223372036854775807) (he : xs = ys) :
    Fun Try.prog w0 14 [.slice b1 n1 c1, .slice b2 n2 c2] A (Ret w0 (fun _ : Unit => True) (fun _ => .bool true) (fun _ => A)) := by
  have := @law_same w0 A b1 b2 c1 c2 xs ys ⟨hR⟩ ⟨hS⟩ hl
  rw [h1, h2]
  simpa [he] using this
theorem law_same_at {w0 : World} {A : List HProp} {b1 b2 : Option Addr} {c1 c2 n1 n2 : Nat} (xs ys : List UInt8) (hR : RdC w0 A b1 (u8s xs)) (hS : RdC w0 A b2 (u8s ys)) (h1 : n1 = xs.length) (h2 : n2 = ys.length) (hl : xs.length ≤ 9223372036854775807) :
    Fun Try.prog w0 14 [.slice b1 n1 c1, .slice b2 n2 c2] A (Ret w0 (fun _ : Unit => True) (fun _ => .bool (decide (xs = ys))) (fun _ => A)) := by
  have := @law_same w0 A b1 b2 c1 c2 xs ys ⟨hR⟩ ⟨hS⟩ hl
  rwa [h1, h2]
theorem rd_take {w0 : World} {A : List HProp} {base : Option Addr} {bs : List UInt8} (h : RdC w0 A base (u8s bs)) (m : Nat) : RdC w0 A base (u8s (bs.take m)) := by
  have := h.take m
  rwa [u8s_take] at this
end Go.Proofs.Ytbmfcfddbcbdgaa
