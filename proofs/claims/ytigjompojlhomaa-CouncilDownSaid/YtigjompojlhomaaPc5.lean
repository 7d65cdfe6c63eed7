/-
  Texts one behind the other: PackSpecC, PackRefSum, PackSpecD, PackSpecE, CouncilOpen, RaftSafeA, RaftSafeB, RaftSafeC, RaftSafeD, RaftSafeE, CouncilSafeP, CouncilNew, CouncilView, CouncilViewB, CouncilMails, CouncilDo.
-/
import Derived.Test.YtigjompojlhomaaPc4
section
set_option linter.unusedVariables false
set_option linter.unusedSimpArgs false
set_option maxRecDepth 4000
namespace Go.Proofs.Ytigjompojlhomaa
open Go.Sl Go.Pack Go.RowKit

theorem str_take {bs : List UInt8} {n : Int} : True := trivial
/-- what Text hands back, and what is left -/
def rtext (bs : List UInt8) : Option (List UInt8 × List UInt8) := match take bs with
  | none => none
  | some (n, k) => if n < 0 ∨ ((bs.drop k).length : Int) < n then none else some ((bs.drop k).take n.toNat, (bs.drop k).drop n.toNat)
def rstate (r : Nat) (x : Option (List UInt8)) : HProp := preader r (x.getD []) x.isNone

theorem pack_rtext {w0 : World} {A : List HProp} {r : Nat} {bs : List UInt8} (hb : bs.length ≤ 140737488355328) :
    Fun Try.prog w0 42 [.pointer (some ⟨r, 0, none⟩)] (preader r bs false :: A)
      (Ret w0 (fun _ : Unit => True) (fun _ => .string ⟨(((rtext bs).map (·.1)).getD []).toArray⟩) (fun _ => rstate r ((rtext bs).map (·.2)) :: A)) := by
  have hN := pack_rnum (w0 := w0) (A := A) (r := r) (bs := bs) (bad := false) hb
  rcases ht : take bs with _ | ⟨n, k⟩
  · have hrt : rtext bs = none := by unfold rtext; rw [ht]
    rw [hrt]
    simp only [ht, Bool.false_eq_true, if_false, Option.map_none, Option.getD_none] at hN
    refine Fun.enter Try.func42 rfl Try.ntmps42 rfl ?_
    refine WC.seq <| WC.region <| sv (vaT rfl) <| WL.nil <| WX.thenN <| WC.seq <| WC.region <| sv (vmP rfl) <| cl hN ct40 rfl fun _ _ => sv (vaI rfl) <| WL.nil <| WX.thenN <| ?_
    refine WC.ex (fun w h => preader_open h) ?_
    rintro ⟨base, c⟩ hc
    exact WC.seq <| WC.seq <| WC.region <| sv (vmP rfl) <| sv (vpeqF Try.underlying95 rfl rfl) <| sv (vmB rfl) <| svg rfl (vmP rfl) <| svg rfl (vnil rfl) <| svg rfl (vfld fl122f1 rfl) <| svg rfl (vldc pl4 rfl) <| sv (vpkf rfl) <| WL.nil <| WX.thenN <| WC.tt rfl <| WC.seq <| WC.region <| sv (vaT rfl) <| WL.nil <| WX.thenN <| WC.ret <| WX.thenR <| WX.ret1 rfl () trivial rfl (fun w h => preader_mk hc h)
  · simp only [ht, Bool.false_eq_true, if_false, Option.map_some, Option.getD_some] at hN
    have hrd : ∃ z, rdn 0 0 bs = some (z, k) ∧ n = zag z := by
      unfold take at ht
      cases h : rdn 0 0 bs with
      | none => simp [h] at ht
      | some p => obtain ⟨z, k'⟩ := p; simp [h] at ht; exact ⟨z, by simp [ht.2], ht.1.symm⟩
    obtain ⟨z, hz, hn⟩ := hrd
    have hzl := (rdn_lt bs 0 0 (by simp) (by omega) _ hz).1
    have hnb : -9223372036854775808 ≤ n ∧ n ≤ 9223372036854775807 := by rw [hn]; unfold zag; split <;> omega
    refine Fun.enter Try.func42 rfl Try.ntmps42 rfl ?_
    refine WC.seq <| WC.region <| sv (vaT rfl) <| WL.nil <| WX.thenN <| WC.seq <| WC.region <| sv (vmP rfl) <| cl hN ct40 rfl fun _ _ => sv (vaI rfl) <| WL.nil <| WX.thenN <| ?_
    refine WC.ex (fun w h => preader_open h) ?_
    rintro ⟨base, c⟩ hc
    dsimp only at hc ⊢
    refine WC.seq <| WC.seq <| WC.region <| sv (vmP rfl) <| sv (vpeqF Try.underlying95 rfl rfl) <| sv (vmB rfl) <| svg rfl (vmP rfl) <| svg rfl (vnil rfl) <| svg rfl (vfld fl122f1 rfl) <| svg rfl (vldc pl4 rfl) <| sv (vpkf rfl) <| WL.nil <| WX.thenN <| WC.ff rfl <| WC.skip <| WX.thenN <| WC.seq <| ?_
    generalize hds : bs.drop k = ds at *
    refine WC.cut0 [(25, .bool (decide (n < 0 ∨ (ds.length : Int) < n)))] [(0, .pointer _), (3, .int _ _)] (cel r [.slice base ds.length c, .bool false] 122 :: own base 5 (u8s ds) :: A) ⟨rfl, rfl, trivial⟩ ?_ fun ρh => ?_
    · refine WC.region <| sv (vmI rfl) <| svs (vlt rfl rfl) (fun q3 => ?_) (fun q3 => ?_)
      · exact sv (vmB rfl) <| sng rfl <| sng rfl <| sng rfl <| sng rfl <| sng rfl <| sng rfl <| sng rfl <| sv (vpkt rfl) <| WL.nil <| WX.mid () trivial ⟨bT (by omega), trivial⟩ ⟨rfl, rfl, trivial⟩ (fun _ h => h)
      · exact sv (vmB rfl) <| svg rfl (vmI rfl) <| svg rfl (vmP rfl) <| svg rfl (vnil rfl) <| svg rfl (vfld fl122f0 rfl) <| svg rfl (vldc pl94 rfl) <| svg rfl (vlen Try.underlying94 rfl) <| svg rfl (vgt rfl rfl) <| sv (vpkf rfl) <| WL.nil <| WX.mid () trivial ⟨bI (by omega), trivial⟩ ⟨rfl, rfl, trivial⟩ (fun _ h => h)
    refine WC.ite rfl (fun h2 => ?_) (fun h2 => ?_)
    · have hrt : rtext bs = none := by unfold rtext; rw [ht]; simp only [hds]; rw [if_pos h2]
      rw [hrt]
      exact WC.seq <| WC.region <| sv (vmP rfl) <| cl (pack_fail.perm (fun w h => preader_mk hc h)) ct52 rfl fun _ _ => WL.nil <| WX.thenN <| WC.seq <| WC.region <| sv (vaT rfl) <| WL.nil <| WX.thenN <| WC.ret <| WX.thenR <| WX.ret1 rfl () trivial rfl (fun _ h => h)
    · have hrt : rtext bs = some (ds.take n.toNat, ds.drop n.toNat) := by unfold rtext; rw [ht]; simp only [hds]; rw [if_neg h2]
      rw [hrt]
      have h0 : 0 ≤ n := by omega
      have h1 : n ≤ ds.length := by omega
      have hlt : (ds.take n.toNat).length = n.toNat := by simp; omega
      have hstr : Reads w0 (cel r [.slice base ds.length c, .bool false] 122 :: own base 5 (u8s ds) :: A) base (u8s (ds.take n.toNat)) := ⟨by
        have := (reads (w0 := w0) (A := cel r [.slice base ds.length c, .bool false] 122 :: own base 5 (u8s ds) :: A) (base := base)).take n.toNat
        rwa [u8s_take] at this⟩
      refine WC.skip <| WX.thenN <| WC.seq <| WC.region <| sv (vmP rfl) <| sv (vnil rfl) <| sv (vfld fl122f0 rfl) <| sv (vldc pl94 rfl) <| sv (vmI rfl) <| sv (vslH Try.underlying94 sz5 rfl rfl h0 (by omega)) <| sv (vstr Try.underlying94 Try.underlying5 Try.underlying9 rfl hstr.rd hlt.symm) <| sv (vaT rfl) <| WL.nil <| WX.thenN <| WC.seq <| WC.region <| sv (vmP rfl) <| sv (vmP rfl) <| sv (vnil rfl) <| sv (vfld fl122f0 rfl) <| sv (vldc pl94 rfl) <| sv (vmI rfl) <| sv (vslL Try.underlying94 sz5 rfl rfl h0 h1) <| sv (vnil rfl) <| sv (vfld fl122f0 rfl) <| stc (v := .slice _ _ _) pl94 sz94 rfl rfl rfl <| WL.nil <| WX.thenN <| WC.seq <| WC.region <| sv (vmT rfl) <| sv (vaT rfl) <| WL.nil <| WX.thenN <| WC.ret <| WX.ret1 rfl () trivial rfl (fun w h => ?_)
      have h2 := (h.pk1.own_slice n.toNat c (fun hci => List.drop_eq_nil_of_le (by simp; omega))).pk1
      rw [u8s_drop] at h2
      have hl : ds.length - n.toNat = (ds.drop n.toNat).length := by simp
      rw [hl] at h2
      exact preader_mk (by simp; omega) h2

theorem pack_rtext_bad {w0 : World} {A : List HProp} {r : Nat} {bs : List UInt8} (hb : bs.length ≤ 140737488355328) :
    Fun Try.prog w0 42 [.pointer (some ⟨r, 0, none⟩)] (preader r bs true :: A)
      (Ret w0 (fun _ : Unit => True) (fun _ => .string ByteArray.empty) (fun _ => preader r bs true :: A)) := by
  have hN := pack_rnum (w0 := w0) (A := A) (r := r) (bs := bs) (bad := true) hb
  simp only [if_true] at hN
  refine Fun.enter Try.func42 rfl Try.ntmps42 rfl ?_
  refine WC.seq <| WC.region <| sv (vaT rfl) <| WL.nil <| WX.thenN <| WC.seq <| WC.region <| sv (vmP rfl) <| cl (hN) ct40 rfl fun _ _ => ?_
  refine WL.ex (fun w h => preader_open h) ?_
  rintro ⟨base, c⟩ hc
  dsimp only at hc ⊢
  refine sv (vaI rfl) <| WL.nil <| WX.thenN <| WC.seq <| ?_
  refine WC.cut0 [(14, .bool (decide (True)))] [(0, .pointer _), (3, .int _ _)] (cel r [.slice base bs.length c, .bool true] 122 :: own base 5 (u8s bs) :: A) ⟨rfl, rfl, trivial⟩ ?_ fun ρh => ?_
  · -- pack.go:73
    exact WC.region <| sv (vmP rfl) <| sv (vpeqF Try.underlying95 rfl rfl) <| sv (vmB rfl) <| svg rfl (vmP rfl) <| svg rfl (vnil rfl) <| svg rfl (vfld fl122f1 rfl) <| svg rfl (vldc pl4 rfl) <| sv (vpkf rfl) <| WL.nil <| WX.mid () trivial ⟨bT trivial, trivial⟩ ⟨rfl, rfl, trivial⟩ (fun _ h => h)
  refine WC.tt rfl ?_
  exact WC.seq <| WC.region <| sv (vaT rfl) <| WL.nil <| WX.thenN <| WC.ret <| WX.thenR <| WX.ret1 rfl (()) (trivial) rfl (fun w h => preader_mk hc h)


theorem pack_bad {w0 : World} {A : List HProp} {r : Nat} {bs : List UInt8} {bad : Bool} :
    Fun Try.prog w0 41 [.pointer (some ⟨r, 0, none⟩)] (preader r bs bad :: A) (Ret w0 (fun _ : Unit => True) (fun _ => .bool bad) (fun _ => preader r bs bad :: A)) := by
  refine Fun.ex (fun w h => preader_open h) ?_
  rintro ⟨base, c⟩ hc
  dsimp only at hc ⊢
  refine Fun.enter Try.func41 rfl Try.ntmps41 rfl ?_
  refine WC.seq <| WC.region <| sv (vaB rfl) <| WL.nil <| WX.thenN <| ?_
  refine WC.cut0 [(2, .bool bad)] [] (cel r [.slice base bs.length c, .bool bad] 122 :: own base 5 (u8s bs) :: A) trivial ?_ fun ρh => ?_
  · -- pack.go:94
    exact WC.region <| sv (vmP rfl) <| sv (vpneT Try.underlying95 rfl rfl) <| sv (vmB rfl) <| svg rfl (vmP rfl) <| svg rfl (vnil rfl) <| svg rfl (vfld fl122f1 rfl) <| svg rfl (vldc pl4 rfl) <| sv (vpkt rfl) <| sv (vaB rfl) <| WL.nil <| WX.mid () trivial ⟨rfl, trivial⟩ trivial (fun _ h => h)
  exact WC.ret <| WX.ret1 rfl (()) (trivial) rfl (fun w h => preader_mk hc h)


/-! no reader -/
theorem pack_rnum_nil {w0 : World} {A : List HProp} : Fun Try.prog w0 40 [.pointer none] A (Ret w0 (fun _ : Unit => True) (fun _ => .int .i64 0) (fun _ => A)) := by
  refine Fun.enter Try.func40 rfl Try.ntmps40 rfl ?_
  refine WC.seq <| WC.region <| sv (vaI rfl) <| WL.nil <| WX.thenN <| WC.seq <| ?_
  refine WC.cut0 [(13, .bool (decide (True)))] [(0, .pointer _)] (A) ⟨rfl, trivial⟩ ?_ fun ρh => ?_
  · -- pack.go:52
    exact WC.region <| sv (vmP rfl) <| sv (vpeqT Try.underlying95 rfl rfl) <| sv (vmB rfl) <| sng rfl <| sng rfl <| sng rfl <| sng rfl <| sv (vpkt rfl) <| WL.nil <| WX.mid () trivial ⟨bT trivial, trivial⟩ ⟨rfl, trivial⟩ (fun _ h => h)
  refine WC.tt rfl ?_
  exact WC.seq <| WC.region <| sv (vaI rfl) <| WL.nil <| WX.thenN <| WC.ret <| WX.thenR <| WX.ret1 rfl (()) (trivial) rfl (fun _ h => h)
theorem pack_bad_nil {w0 : World} {A : List HProp} : Fun Try.prog w0 41 [.pointer none] A (Ret w0 (fun _ : Unit => True) (fun _ => .bool false) (fun _ => A)) := by
  refine Fun.enter Try.func41 rfl Try.ntmps41 rfl ?_
  refine WC.seq <| WC.region <| sv (vaB rfl) <| WL.nil <| WX.thenN <| ?_
  refine WC.cut0 [(2, .bool false)] [] (A) trivial ?_ fun ρh => ?_
  · -- pack.go:94
    exact WC.region <| sv (vmP rfl) <| sv (vpneF Try.underlying95 rfl rfl) <| sv (vmB rfl) <| sng rfl <| sng rfl <| sng rfl <| sng rfl <| sv (vpkf rfl) <| sv (vaB rfl) <| WL.nil <| WX.mid () trivial ⟨rfl, trivial⟩ trivial (fun _ h => h)
  exact WC.ret <| WX.ret1 rfl (()) (trivial) rfl (fun _ h => h)
theorem pack_rtext_nil {w0 : World} {A : List HProp} : Fun Try.prog w0 42 [.pointer none] A (Ret w0 (fun _ : Unit => True) (fun _ => .string ByteArray.empty) (fun _ => A)) := by
  refine Fun.enter Try.func42 rfl Try.ntmps42 rfl ?_
  refine WC.seq <| WC.region <| sv (vaT rfl) <| WL.nil <| WX.thenN <| WC.seq <| WC.region <| sv (vmP rfl) <| cl (pack_rnum_nil) ct40 rfl fun _ _ => sv (vaI rfl) <| WL.nil <| WX.thenN <| WC.seq <| ?_
  refine WC.cut0 [(14, .bool (decide (True)))] [(0, .pointer _), (3, .int _ _)] (A) ⟨rfl, rfl, trivial⟩ ?_ fun ρh => ?_
  · -- pack.go:73
    exact WC.region <| sv (vmP rfl) <| sv (vpeqT Try.underlying95 rfl rfl) <| sv (vmB rfl) <| sng rfl <| sng rfl <| sng rfl <| sng rfl <| sv (vpkt rfl) <| WL.nil <| WX.mid () trivial ⟨bT trivial, trivial⟩ ⟨rfl, rfl, trivial⟩ (fun _ h => h)
  refine WC.tt rfl ?_
  exact WC.seq <| WC.region <| sv (vaT rfl) <| WL.nil <| WX.thenN <| WC.ret <| WX.thenR <| WX.ret1 rfl (()) (trivial) rfl (fun _ h => h)

/-! the statements' helper: are two lists of bytes the same? -/
theorem rd_take {w0 : World} {A : List HProp} {base : Option Addr} {bs : List UInt8} (h : RdC w0 A base (u8s bs)) (m : Nat) : RdC w0 A base (u8s (bs.take m)) := by
  have := h.take m
  rwa [u8s_take] at this
end Go.Proofs.Ytigjompojlhomaa
end
section
set_option linter.unusedVariables false
set_option linter.unusedSimpArgs false
set_option maxRecDepth 4000
namespace Go.Proofs.Ytigjompojlhomaa
open Go.Sl Go.RowKit Go.Pack

end Go.Proofs.Ytigjompojlhomaa
end
section
set_option linter.unusedVariables false
set_option linter.unusedSimpArgs false
set_option maxRecDepth 4000
namespace Go.Proofs.Ytigjompojlhomaa
open Go.Sl Go.Pack Go.RowKit



end Go.Proofs.Ytigjompojlhomaa
end
section
set_option linter.unusedVariables false
set_option linter.unusedSimpArgs false
set_option maxRecDepth 4000
namespace Go.Proofs.Ytigjompojlhomaa
open Go.Sl Go.Pack Go.RowKit

theorem lebval_drop : ∀ (l : List UInt8) (k : Nat), lebval (l.drop k) ≤ lebval l
  | l, 0 => by simp
  | [], k + 1 => by simp
  | c :: r, k + 1 => by
    have := lebval_drop r k
    simp only [List.drop_succ_cons, lebval]; omega
theorem lebval_step {l : List UInt8} {m : Nat} (h : m < l.length) : lebval (l.drop m) = (l.getD m 0).toNat % 128 + 128 * lebval (l.drop (m + 1)) := by
  rw [List.drop_eq_getElem_cons h, lebval, List.getD_eq_getElem?_getD, List.getElem?_eq_getElem h]; rfl
theorem take_ok {bs : List UInt8} (h : okEnd 0 bs) : take bs = some (zag (lebval (bs.take (lead bs + 1))), lead bs + 1) ∧ lebval (bs.take (lead bs + 1)) < 18446744073709551616 := by
  have h1 := (rdn_spec bs 0 0 (by omega)).1 h
  have h2 := (rdn_lt bs 0 0 (by decide) (by omega) _ h1).1
  simp at h1 h2
  exact ⟨by unfold take; rw [h1]; rfl, h2⟩
theorem take_no {bs : List UInt8} (h : ¬ okEnd 0 bs) : take bs = none := by
  unfold take; rw [(rdn_spec bs 0 0 (by omega)).2 h]; rfl
theorem ref_acc {z c : Nat} (h : c % 128 + 128 * z < 18446744073709551616) (hc : c < 256) : IntKind.u64.wrap (IntKind.u64.wrap ((z : Int) * 128) + (IntKind.u64.wrap (c : Int)).tmod 128) = ((c % 128 + 128 * z : Nat) : Int) := by
  rw [wrap_u64 (a := (c : Int)) (by omega), wrap_u64 (a := (z : Int) * 128) (by omega)]
  have : ((c : Int)).tmod 128 = ((c % 128 : Nat) : Int) := by
    rw [Int.tmod_eq_emod_of_nonneg (by omega)]; omega
  rw [this, wrap_u64 (by omega)]
  omega
theorem ref_even {z : Nat} (h : z < 18446744073709551616) : IntKind.i64.wrap (IntKind.u64.wrap ((z : Int).tdiv 2)) = ((z / 2 : Nat) : Int) := by
  have : ((z : Int)).tdiv 2 = ((z / 2 : Nat) : Int) := by rw [Int.tdiv_eq_ediv_of_nonneg (by omega)]; omega
  rw [this, wrap_u64 (by omega), IntKind.wrap_i64]
  omega
theorem ref_odd {z : Nat} (h : z < 18446744073709551616) : IntKind.i64.wrap (0 - IntKind.i64.wrap (IntKind.u64.wrap ((z : Int).tdiv 2))) = -((z / 2 : Nat) : Int) := by
  rw [ref_even h, IntKind.wrap_i64]
  omega
theorem tmod2 {z : Nat} : ((z : Int)).tmod 2 = ((z % 2 : Nat) : Int) := by
  rw [Int.tmod_eq_emod_of_nonneg (by omega)]; omega
theorem tup2 {a b c d : Int} (h1 : a = c) (h2 : b = d) : Value.tuple #[.int .i64 a, .int .i64 b] = Value.tuple #[.int .i64 c, .int .i64 d] := by rw [h1, h2]

/-- The document's reader: what is left of bytes that were there before; none: there was a fault. -/
theorem rd_drop {w0 : World} {base : Option Addr} {bs : List UInt8} (h : Rd w0 base (u8s bs)) (k c : Nat) (hc : bs.length ≤ c) : Rd w0 (slB base k c 1) (u8s (bs.drop k)) := by
  intro j v hv
  have hj : j < (bs.drop k).length := by
    have := (List.getElem?_eq_some_iff.1 hv).1
    simpa using this
  have hk : c ≠ k := by simp at hj; omega
  rw [← u8s_drop, List.getElem?_drop] at hv
  obtain ⟨a, rfl, ha⟩ := h _ v hv
  refine ⟨a.add k, by simp [slB, hk], ?_⟩
  rw [Addr.add_add]; exact ha
theorem take_le {bs : List UInt8} {p : Int × Nat} (h : take bs = some p) : 0 < p.2 ∧ p.2 ≤ bs.length := by
  obtain ⟨x, k⟩ := p
  obtain ⟨hn, hk⟩ := num_take h
  have h2 := leb_pos (zig x)
  have := congrArg List.length hn
  unfold num at *
  simp at this ⊢
  omega
/-- the number with which what is left begins -/
def rnum (st : Option (List UInt8)) : Int := ((st.bind take).map (·.1)).getD 0
def rnumS (st : Option (List UInt8)) : Option (List UInt8) := st.bind fun bs => (take bs).map fun p => bs.drop p.2
theorem rt_none {st : Option (List UInt8)} (h : rnumS st = none) : st.bind rtext = none := by
  cases st with
  | none => rfl
  | some bs => cases ht : take bs <;> simp [rnumS, rtext, ht] at h ⊢
theorem rt_some {st : Option (List UInt8)} {ds : List UInt8} (h : rnumS st = some ds) : st.bind rtext = if rnum st < 0 ∨ (ds.length : Int) < rnum st then none else some (ds.take (rnum st).toNat, ds.drop (rnum st).toNat) := by
  cases st with
  | none => simp [rnumS] at h
  | some bs =>
    cases ht : take bs with
    | none => simp [rnumS, ht] at h
    | some p =>
      obtain ⟨x, k⟩ := p
      simp [rnumS, ht] at h
      subst h
      simp [rtext, ht, rnum]
theorem pnum {w0 : World} {A : List HProp} {r : Nat} {st : Option (List UInt8)} (hb : ∀ b, st = some b → b.length ≤ 140737488355328) :
    Fun Try.prog w0 40 [.pointer (some ⟨r, 0, none⟩)] (rstate r st :: A) (Ret w0 (fun _ : Unit => True) (fun _ => .int .i64 (rnum st)) (fun _ => rstate r (rnumS st) :: A)) := by
  cases st with
  | none => exact pack_rnum (bs := []) (bad := true) (by simp)
  | some bs =>
    have := pack_rnum (w0 := w0) (A := A) (r := r) (bs := bs) (bad := false) (hb _ rfl)
    cases ht : take bs with
    | none => simpa [ht, rnum, rnumS, rstate] using this
    | some p => simpa [ht, rnum, rnumS, rstate] using this
theorem ptext {w0 : World} {A : List HProp} {r : Nat} {st : Option (List UInt8)} (hb : ∀ b, st = some b → b.length ≤ 140737488355328) :
    Fun Try.prog w0 42 [.pointer (some ⟨r, 0, none⟩)] (rstate r st :: A)
      (Ret w0 (fun _ : Unit => True) (fun _ => .string ⟨(((st.bind rtext).map (·.1)).getD []).toArray⟩) (fun _ => rstate r ((st.bind rtext).map (·.2)) :: A)) := by
  cases st with
  | none => exact pack_rtext_bad (bs := []) (by simp)
  | some bs => exact pack_rtext (hb _ rfl)
end Go.Proofs.Ytigjompojlhomaa
end
section
set_option linter.unusedVariables false
set_option linter.unusedSimpArgs false
set_option maxRecDepth 4000
namespace Go.Proofs.Ytigjompojlhomaa
open Go.Sl Go.RowKit Go.Raft Go.Journal Go.Pack Go.Council

theorem rtextC {s : List UInt8} (h : s.length ≤ 140737488351232) (rest : List UInt8) : rtext (text s ++ rest) = some (s, rest) := by
  unfold rtext text
  rw [List.append_assoc, take_num (by omega)]
  simp
  omega
theorem rnumC {x : Int} (hx : -9223372036854775808 ≤ x ∧ x ≤ 9223372036854775807) (rest : List UInt8) : rnum (some (num x ++ rest)) = x ∧ rnumS (some (num x ++ rest)) = some rest := by
  have h := take_num hx rest
  constructor
  · show (((some (num x ++ rest)).bind take).map (·.1)).getD 0 = x
    simp [h]
  · show (some (num x ++ rest)).bind (fun bs => (take bs).map fun p => bs.drop p.2) = some rest
    simp [h]
theorem pnumC {w0 : World} {A : List HProp} {r : Nat} {x : Int} {bs rest : List UInt8} (hx : -9223372036854775808 ≤ x ∧ x ≤ 9223372036854775807) (hb : bs = num x ++ rest) (hl : bs.length ≤ 1048576) :
    Fun Try.prog w0 40 [.pointer (some ⟨r, 0, none⟩)] (rstate r (some bs) :: A) (Ret w0 (fun _ : Unit => True) (fun _ => .int .i64 x) (fun _ => rstate r (some rest) :: A)) := by
  have := pnum (w0 := w0) (A := A) (r := r) (st := some bs) (fun b h => by cases h; omega)
  rw [hb, (rnumC hx rest).1, (rnumC hx rest).2] at this
  rw [hb]; exact this
theorem ptextC {w0 : World} {A : List HProp} {r : Nat} {s : ByteArray} {bs rest : List UInt8} (hb : bs = text s.data.toList ++ rest) (hl : bs.length ≤ 1048576) (hs : s.size ≤ 4096) :
    Fun Try.prog w0 42 [.pointer (some ⟨r, 0, none⟩)] (rstate r (some bs) :: A) (Ret w0 (fun _ : Unit => True) (fun _ => .string s) (fun _ => rstate r (some rest) :: A)) := by
  have h2 : s.data.toList.length ≤ 140737488351232 := Nat.le_trans hs (by decide)
  have := ptext (w0 := w0) (A := A) (r := r) (st := some bs) (fun b h => by cases h; omega)
  rw [hb] at this ⊢
  have e : (some (text s.data.toList ++ rest)).bind rtext = some (s.data.toList, rest) := by show rtext _ = _; exact rtextC h2 rest
  rw [e] at this
  exact this
theorem pbadC {w0 : World} {A : List HProp} {r : Nat} {bs : List UInt8} : Fun Try.prog w0 41 [.pointer (some ⟨r, 0, none⟩)] (rstate r (some bs) :: A) (Ret w0 (fun _ : Unit => True) (fun _ => .bool false) (fun _ => rstate r (some bs) :: A)) := pack_bad
theorem pnewC {w0 : World} {A : List HProp} {base : Option Addr} {c : Nat} {bs : List UInt8} [hR : Reads w0 A base (u8s bs)] (hb : bs.length ≤ 1048576) :
    Fun Try.prog w0 39 [.slice base bs.length c] A (Ret w0 (fun _ : Nat => True) (fun r => .pointer (some ⟨r, 0, none⟩)) (fun r => rstate r (some bs) :: A)) := pack_new (Nat.le_trans hb (by decide))
theorem stab_next {rs : List Rcd} {k : Nat} {c : Rcd} (h : rs[k]? = some c) : stab (rs.take (k + 1)) = applyC (stab (rs.take k)) c := by
  rw [List.take_add_one, h]
  exact stab_snoc
structure OpnI where
  k : Nat
  b : Option Addr
  c : Nat
theorem c_open_bad {w0 : World} {A : List HProp} {p j K : Nat} {S : CS} {m : Mg} {n er : Int} {st' : DSt} (her : er ≠ 0) (hso : openS lnm m.st = (st', er)) (hn : n = S.ms.length) (hl5 : S.ms.length ≤ 5) (hj : S.ms[j]? = some m) (hnd : m.node = none) (hoff : m.st.off = false) (hK : K ≤ 505)
    (hd : 0 ≤ m.st.deeds ∧ m.st.deeds ≤ 3 * K) (hrl : (recsB (readS lnm m.st).1).1 = m.rs.map Rcd.bytes) (hln : m.rs.length ≤ K) (hrs : RecsOk m.rs) (hnew : newOk ((j : Int) + 1) n (stab m.rs).term (stab m.rs).vote (stab m.rs).log) :
    Fun Try.prog w0 24 [.pointer (some ⟨p, 0, none⟩), .int .i64 (j : Int)] (hc p S :: A) (Ret w0 (fun _ : Unit => True) (fun _ => .tuple #[]) (fun _ => hc p (putM S j ⟨st', none, m.rs⟩) :: A)) := by
  refine Fun.ex (fun w h => hc_open h) ?_
  intro b hcw
  have hbl := hcw.len.1
  obtain ⟨e, he, hem⟩ := hcw.at_ hj
  have hjl : j < b.l.length := by by_cases hh : j < b.l.length; exact hh; rw [List.getElem?_eq_none (by omega)] at he; cases he
  refine Fun.ex (fun w h => (hman_down (by rw [hem]; exact hnd) (cL_out he h)).elim fun i h => ⟨i, True.intro, h⟩) ?_
  intro jo _
  rw [hem]
  have hpt : (nptrC (b.l.map ME.q))[((j : Int)).toNat]? = some (.pointer (some ⟨e.q, 0, none⟩)) := nptrC_at (by rw [List.getElem?_map, he]; rfl)
  have hpl : 0 < (nptrC (b.l.map ME.q)).length := by rw [nptrC_length, List.length_map]; omega
  refine Fun.enter Try.func24 rfl Try.ntmps24 rfl ?_
  refine WC.seq <| WC.region <| sv (vmP rfl) <| sv (vnil rfl) <| sv (vfldpz fl58f0 rfl) <| sv (vldc pl56 rfl) <| sv (vmI rfl) <| sv (vix1 Try.underlying56 sz59 rfl rfl (by omega) (by omega) reads hpl) <| sv (vldr pl59 rfl hpt) <| sv (vaP rfl) <| WL.nil <| WX.thenN <| WC.seq <| WC.region <| sv (vmP rfl) <| sv (vnil rfl) <| sv (vfldpz fl65f0 rfl) <| sv (vldc pl60 rfl) <| clx (by repeat' (first | with_reducible exact Sb.all | exact Sb.nil | (apply Sb.cons; focus (first | ((repeat (first | with_reducible exact Tk.here | with_reducible apply Tk.there)); done) | ((repeat (first | exact Tk.here | apply Tk.there)); done))) | apply Sb.drop)) (journal_open_bad ⟨hd.1, by omega⟩ hoff lnm_ok her hso) ct38 rfl fun r5 hr5 => ?_
  refine sv vmv <| sv (vex rfl rfl) <| sv (vex rfl rfl) <| sv (vex rfl rfl) <| sv (vaP rfl) <| sv (vaS rfl) <| sv (vaI rfl) <| WL.nil <| WX.thenN <| WC.seq <| WC.seq <| WC.region <| sv (vmI rfl) <| sv (vT (vne rfl rfl) (by omega)) <| WL.nil <| WX.thenN <| ?_
  refine WC.tt rfl ?_
  exact WC.ret <| WX.thenR <| WX.ret0 rfl (()) (trivial) rfl (fun w h => hc_mk (hcw.set (m := ⟨st', none, m.rs⟩) he) (cL_in he (hman_mkD (A := cL1 p j b A) (m := ⟨st', none, m.rs⟩) (jo := jo) rfl (Sb.own (by repeat' (first | with_reducible exact Sb.all | exact Sb.nil | (apply Sb.cons; focus (first | ((repeat (first | with_reducible exact Tk.here | with_reducible apply Tk.there)); done) | ((repeat (first | exact Tk.here | apply Tk.there)); done))) | apply Sb.drop)) h))))
theorem c_open_ok {w0 : World} {A : List HProp} {p j K : Nat} {S : CS} {m : Mg} {n : Int} {st' : DSt} (hso : openS lnm m.st = (st', 0)) (hn : n = S.ms.length) (hl5 : S.ms.length ≤ 5) (hj : S.ms[j]? = some m) (hnd : m.node = none) (hoff : m.st.off = false) (hK : K ≤ 505)
    (hd : 0 ≤ m.st.deeds ∧ m.st.deeds ≤ 3 * K) (hrl : (recsB (readS lnm m.st).1).1 = m.rs.map Rcd.bytes) (hln : m.rs.length ≤ K) (hrs : RecsOk m.rs) (hnew : newOk ((j : Int) + 1) n (stab m.rs).term (stab m.rs).vote (stab m.rs).log) :
    Fun Try.prog w0 24 [.pointer (some ⟨p, 0, none⟩), .int .i64 (j : Int)] (hc p S :: A) (Ret w0 (fun _ : Unit => True) (fun _ => .tuple #[]) (fun _ => hc p (putM S j ⟨st', some (newR ((j : Int) + 1) n (stab m.rs).term (stab m.rs).vote (stab m.rs).log), m.rs⟩) :: A)) := by
  refine Fun.ex (fun w h => hc_open h) ?_
  intro b hcw
  have hbl := hcw.len.1
  obtain ⟨e, he, hem⟩ := hcw.at_ hj
  have hjl : j < b.l.length := by by_cases hh : j < b.l.length; exact hh; rw [List.getElem?_eq_none (by omega)] at he; cases he
  refine Fun.ex (fun w h => (hman_down (by rw [hem]; exact hnd) (cL_out he h)).elim fun i h => ⟨i, True.intro, h⟩) ?_
  intro jo _
  rw [hem]
  have hpt : (nptrC (b.l.map ME.q))[((j : Int)).toNat]? = some (.pointer (some ⟨e.q, 0, none⟩)) := nptrC_at (by rw [List.getElem?_map, he]; rfl)
  have hpl : 0 < (nptrC (b.l.map ME.q)).length := by rw [nptrC_length, List.length_map]; omega
  refine Fun.enter Try.func24 rfl Try.ntmps24 rfl ?_
  refine WC.seq <| WC.region <| sv (vmP rfl) <| sv (vnil rfl) <| sv (vfldpz fl58f0 rfl) <| sv (vldc pl56 rfl) <| sv (vmI rfl) <| sv (vix1 Try.underlying56 sz59 rfl rfl (by omega) (by omega) reads hpl) <| sv (vldr pl59 rfl hpt) <| sv (vaP rfl) <| WL.nil <| WX.thenN <| WC.seq <| WC.region <| sv (vmP rfl) <| sv (vnil rfl) <| sv (vfldpz fl65f0 rfl) <| sv (vldc pl60 rfl) <| clx (by repeat' (first | with_reducible exact Sb.all | exact Sb.nil | (apply Sb.cons; focus (first | ((repeat (first | with_reducible exact Tk.here | with_reducible apply Tk.there)); done) | ((repeat (first | exact Tk.here | apply Tk.there)); done))) | apply Sb.drop)) (journal_open_ok ⟨hd.1, by omega⟩ hso) ct38 rfl fun r5 hr5 => ?_
  obtain ⟨jp, rb, rc, rl⟩ := r5
  obtain ⟨h5a, h5b⟩ := hr5
  dsimp only at h5a h5b ⊢
  rw [hrl] at h5a
  have hll : rl.length = m.rs.length := by have := congrArg List.length h5a; simpa using this
  refine sv vmv <| sv (vex rfl rfl) <| sv (vex rfl rfl) <| sv (vex rfl rfl) <| sv (vaP rfl) <| sv (vaS rfl) <| sv (vaI rfl) <| WL.nil <| WX.thenN <| WC.seq <| WC.seq <| WC.region <| sv (vmI rfl) <| sv (vF (vne rfl rfl) (by omega)) <| WL.nil <| WX.thenN <| ?_
  refine WC.ff rfl ?_
  refine WC.skip <| WX.thenN <| WC.seq <| WC.region <| alz (cs := [.int .i64 0, .int .i64 0, .slice none 0 0]) zt72 (by rfl) fun b6 => WL.nil <| WX.thenN <| WC.seq <| WC.seq <| WC.region <| sv (vmS rfl) <| sv (vlen Try.underlying91 rfl) <| sv (vmI rfl) <| WL.nil <| WX.thenN <| WC.block <| ?_
  refine WC.loop (ι := OpnI) (fun i => [(35, .int .i64 i.k)]) [(0, .pointer _), (1, .int _ _), (4, .pointer _), (5, .pointer _), (8, .pointer _), (33, .slice _ _ _), (34, .int _ _)] (fun i => cel b6 (scells (stab (m.rs.take i.k)).term (stab (m.rs.take i.k)).vote i.b (stab (m.rs.take i.k)).log i.c) 72 :: row i.b i.c 2 69 (cvs (stab (m.rs.take i.k)).log) :: cel jp (jcells e.dk lnm rl.length false) 120 :: pdisk e.dk st' :: row rb rc 1 94 (bss rl) :: rows 5 rl :: cel e.q (mcell e.dk none jo) 65 :: cL1 p j b A) (fun i => i.k ≤ rl.length ∧ (stab (m.rs.take i.k)).log.length ≤ i.c) (fun i => rl.length - i.k) (⟨0, none, 0⟩) (⟨Nat.zero_le _, Nat.zero_le _⟩) ⟨rfl, trivial⟩ ⟨rfl, rfl, rfl, rfl, rfl, rfl, rfl, trivial⟩ (fun w h => by have h2 : Own w0 (row none 0 2 69 (cvs []) :: _) w := Own.intro_row_nil h; exact Sb.own (by repeat' (first | with_reducible exact Sb.all | exact Sb.nil | (apply Sb.cons; focus (first | ((repeat (first | with_reducible exact Tk.here | with_reducible apply Tk.there)); done) | ((repeat (first | exact Tk.here | apply Tk.there)); done))) | apply Sb.drop)) h2) ?_
  rintro ⟨k, lb, lc⟩ ⟨hk1, hk2⟩ ρh
  dsimp only at hk1 hk2 ⊢
  refine WC.seq <| WC.region <| sv (vlt rfl rfl) <| WL.nil <| WX.thenN <| WC.seq <| ?_
  refine WC.ite rfl (fun h2 => ?_) (fun h2 => ?_)
  · -- then
    have hkl : k < m.rs.length := by omega
    have hkr : k < rl.length := by omega
    obtain ⟨c, hc⟩ : ∃ c, m.rs[k]? = some c := ⟨_, List.getElem?_eq_getElem hkl⟩
    have hcr := hrs k c hc
    obtain ⟨s, hs⟩ : ∃ s, s = stab (m.rs.take k) := ⟨_, rfl⟩
    rw [← hs] at hk2 hcr ⊢
    have hnx : stab (m.rs.take (k + 1)) = applyC s c := by rw [stab_next hc, hs]
    have hcx : rl[k].xs = c.bytes := by have h1 : (rl.map (·.xs))[k]? = (m.rs.map Rcd.bytes)[k]? := (by rw [h5a]); rw [List.getElem?_map, List.getElem?_map, hc, List.getElem?_eq_getElem hkr] at h1; exact Option.some.inj h1
    have hmem : rl[k] ∈ rl := List.getElem_mem hkr
    have hrb : RdC w0 (rows 5 rl :: A) rl[k].base (u8s c.bytes) := by rw [← hcx]; exact RdC.of_rows (List.Mem.head _) hmem
    have hbl2 : 0 < (bss rl).length := by rw [bss_length]; omega
    have hcl := hcr.len
    have hst := hcr.stay
    have hfw := hcr.few
    have hlg := hcr.log
    have hct := hcr.term
    have hcv := hcr.vote
    have hsb : (bss rl)[((k : Int)).toNat]? = some (.slice rl[k].base c.bytes.length rl[k].cap) := by rw [← hcx]; exact bss_at hkr
    refine WC.skip <| WX.thenN <| WC.seq <| WC.block <| WC.seq <| WC.region <| sv (vix1 Try.underlying91 sz94 rfl rfl (by omega) (by omega) reads hbl2) <| sv (vldr pl94 rfl hsb) <| sv (vaS rfl) <| WL.nil <| WX.thenN <| WC.seq <| WC.region <| sv (vmS rfl) <| clx (by repeat' (first | with_reducible exact Sb.all | exact Sb.nil | (apply Sb.cons; focus (first | ((repeat (first | with_reducible exact Tk.here | with_reducible apply Tk.there)); done) | ((repeat (first | exact Tk.here | apply Tk.there)); done))) | apply Sb.drop)) (pnewC (hR := ⟨hrb.mono fun _ h => Sb.own (by repeat' (first | with_reducible exact Sb.all | exact Sb.nil | (apply Sb.cons; focus (first | ((repeat (first | with_reducible exact Tk.here | with_reducible apply Tk.there)); done) | ((repeat (first | exact Tk.here | apply Tk.there)); done))) | apply Sb.drop)) h⟩) (by omega)) ct39 rfl fun r9 hr9 => ?_
    obtain ⟨q4, hq4⟩ : ∃ q4, q4 = num (c.cells.length : Int) ++ cellsB c.cells := ⟨_, rfl⟩
    obtain ⟨q3, hq3⟩ : ∃ q3, q3 = num (c.stay : Int) ++ q4 := ⟨_, rfl⟩
    obtain ⟨q2, hq2⟩ : ∃ q2, q2 = num c.vote ++ q3 := ⟨_, rfl⟩
    have hq1 : c.bytes = num c.term ++ q2 := by rw [hq2, hq3, hq4]; unfold Rcd.bytes; simp only [List.append_assoc]
    have z1 := congrArg List.length hq1
    have z2 := congrArg List.length hq2
    have z3 := congrArg List.length hq3
    have z4 := congrArg List.length hq4
    rw [List.length_append] at z1 z2 z3 z4
    refine sv (vaP rfl) <| WL.nil <| WX.thenN <| WC.seq <| WC.region <| sv (vmP rfl) <| clx (by repeat' (first | with_reducible exact Sb.all | exact Sb.nil | (apply Sb.cons; focus (first | ((repeat (first | with_reducible exact Tk.here | with_reducible apply Tk.there)); done) | ((repeat (first | exact Tk.here | apply Tk.there)); done))) | apply Sb.drop)) (pnumC (by omega) hq1 (by omega)) ct40 rfl fun r10 hr10 => ?_
    refine sv (vmP rfl) <| clx (by repeat' (first | with_reducible exact Sb.all | exact Sb.nil | (apply Sb.cons; focus (first | ((repeat (first | with_reducible exact Tk.here | with_reducible apply Tk.there)); done) | ((repeat (first | exact Tk.here | apply Tk.there)); done))) | apply Sb.drop)) (pnumC (by omega) hq2 (by omega)) ct40 rfl fun r11 hr11 => ?_
    refine sv (vfldpz fl72f0 rfl) <| stp (v := .int _ _) pl3 sz3 rfl rfl rfl <| sv (vfldp fl72f1 rfl) <| stp (v := .int _ _) pl3 sz3 rfl rfl rfl <| WL.nil <| WX.thenN <| WC.seq <| WC.plan (.pre [2] (.one [0, 1, 5, 6, 7] 3 (.bar [4, 8, 9, 10] 11 (.done [])))) rfl (by kernel_rfl) <| WPl.preC <| dv (fun g => (vmP rfl)) <| WD.nil <| WPl.oneX [rstate r9 (some q3)] (by repeat' (first | exact Spl.nil | (apply Spl.cons; focus (first | ((repeat (first | with_reducible exact Tk.here | with_reducible apply Tk.there)); done) | ((repeat (first | exact Tk.here | apply Tk.there)); done))))) (fun g => by infer_instance) ?_
    refine dv (fun g => (vfldp fl72f2 rfl)) <| dv (fun g => (vldc pl31 rfl)) <| dv (fun g => (vfldp fl72f2 rfl)) <| dv (fun g => (vldc pl31 rfl)) <| dv (fun g => (vlen Try.underlying31 rfl)) <| WD.eff rfl <| clx (by repeat' (first | with_reducible exact Sb.all | exact Sb.nil | (apply Sb.cons; focus (first | ((repeat (first | with_reducible exact Tk.here | with_reducible apply Tk.there)); done) | ((repeat (first | exact Tk.here | apply Tk.there)); done))) | apply Sb.drop)) (pnumC (by omega) hq3 (by omega)) ct40 rfl fun r15 hr15 => ?_
    refine WL.nil <| WX.br <| WPl.barC <| dv (fun g => (vmax rfl rfl)) <| dv (fun g => (vmin rfl rfl)) <| dv (fun g => (vw (v' := .slice lb c.stay lc) (vslH Try.underlying31 sz69 rfl rfl (by omega) (by omega)) (iv' (by omega)))) <| dv (fun g => (vfldp fl72f2 rfl)) <| WD.eff rfl <| stp (v := .slice _ _ _) pl31 sz31 rfl rfl rfl <| WL.nil <| WX.brT <| WPl.finC <| WD.nil <| WX.thenN <| WC.seq <| WC.region <| sv (vmP rfl) <| clx (by repeat' (first | with_reducible exact Sb.all | exact Sb.nil | (apply Sb.cons; focus (first | ((repeat (first | with_reducible exact Tk.here | with_reducible apply Tk.there)); done) | ((repeat (first | exact Tk.here | apply Tk.there)); done))) | apply Sb.drop)) (pnumC (by omega) hq4 (by omega)) ct40 rfl fun r21 hr21 => ?_
    refine sv (vaI rfl) <| WL.nil <| WX.thenN <| WC.block <| ?_
    refine WC.loop (ι := OpnI) (fun q => [(12, .int .i64 ((c.cells.length : Int) - q.k))]) [(0, .pointer _), (1, .int _ _), (4, .pointer _), (5, .pointer _), (8, .pointer _), (11, .pointer _), (33, .slice _ _ _), (34, .int _ _), (35, .int _ _)] (fun q => cel b6 [.int .i64 c.term, .int .i64 c.vote, .slice q.b (s.log.take c.stay ++ c.cells.take q.k).length q.c] 72 :: row q.b q.c 2 69 (cvs (s.log.take c.stay ++ c.cells.take q.k)) :: rstate r9 (some (cellsB (c.cells.drop q.k))) :: cel jp (jcells e.dk lnm rl.length false) 120 :: pdisk e.dk st' :: row rb rc 1 94 (bss rl) :: rows 5 rl :: cel e.q (mcell e.dk none jo) 65 :: cL1 p j b A) (fun q => q.k ≤ c.cells.length ∧ (s.log.take c.stay ++ c.cells.take q.k).length ≤ q.c) (fun q => c.cells.length - q.k) (⟨0, lb, lc⟩) (⟨Nat.zero_le _, by show _ ≤ lc; rw [List.take_zero, List.append_nil, List.length_take]; omega⟩) ⟨iv (by dsimp only; omega), trivial⟩ ⟨rfl, rfl, rfl, rfl, rfl, rfl, rfl, rfl, rfl, trivial⟩ (fun w h => by dsimp only; rw [List.take_zero, List.append_nil, List.drop_zero, List.length_take, Nat.min_eq_left hst]; have h1 : Own w0 (row lb lc 2 69 (cvs s.log) :: _) w := Sb.own (by repeat' (first | with_reducible exact Sb.all | exact Sb.nil | (apply Sb.cons; focus (first | ((repeat (first | with_reducible exact Tk.here | with_reducible apply Tk.there)); done) | ((repeat (first | exact Tk.here | apply Tk.there)); done))) | apply Sb.drop)) h; have h2 := h1.row_prefix (ws := cvs (s.log.take c.stay)) (by rw [← cvs_take]; exact List.take_prefix _ _); exact Sb.own (by repeat' (first | with_reducible exact Sb.all | exact Sb.nil | (apply Sb.cons; focus (first | ((repeat (first | with_reducible exact Tk.here | with_reducible apply Tk.there)); done) | ((repeat (first | exact Tk.here | apply Tk.there)); done))) | apply Sb.drop)) h2) ?_
    rintro ⟨d, qb, qc⟩ ⟨hd1, hd2⟩ ρh
    dsimp only at hd1 hd2 ⊢
    have hcc : ∀ x ∈ c.cells.drop d, (0 ≤ x.term ∧ x.term ≤ 1000000000) ∧ x.data.size ≤ 4096 := fun x hx => hcr.cells x (List.mem_of_mem_drop hx)
    have hcn := cellsB_len hcc
    rw [List.length_drop] at hcn
    refine WC.seq <| ?_
    refine WC.cutS [(66, .bool (decide (d < c.cells.length)))] [(0, .pointer _), (1, .int _ _), (4, .pointer _), (5, .pointer _), (8, .pointer _), (11, .pointer _), (12, .int _ _), (33, .slice _ _ _), (34, .int _ _), (35, .int _ _)] ⟨rfl, rfl, rfl, rfl, rfl, rfl, rfl, rfl, rfl, rfl, trivial⟩ ?_ fun ρh => ?_
    · -- council.go:54
      refine WC.region <| sv (vmI rfl) <| svs (vgt rfl rfl) (fun q1 => ?_) (fun q1 => ?_)
      ·
        refine sv (vmB rfl) <| svg rfl (vmP rfl) <| gy rfl <| clx (by repeat' (first | with_reducible exact Sb.all | exact Sb.nil | (apply Sb.cons; focus (first | ((repeat (first | with_reducible exact Tk.here | with_reducible apply Tk.there)); done) | ((repeat (first | exact Tk.here | apply Tk.there)); done))) | apply Sb.drop)) (pbadC) ct41 rfl fun r22 hr22 => ?_
        exact svg rfl (vnot rfl) <| sv (vpkt rfl) <| WL.nil <| WX.mid () trivial ⟨bT (by omega), trivial⟩ ⟨rfl, rfl, rfl, rfl, rfl, rfl, rfl, rfl, rfl, rfl, trivial⟩ (fun _ h => Sb.own (by repeat' (first | with_reducible exact Sb.all | exact Sb.nil | (apply Sb.cons; focus (first | ((repeat (first | with_reducible exact Tk.here | with_reducible apply Tk.there)); done) | ((repeat (first | exact Tk.here | apply Tk.there)); done))) | apply Sb.drop)) h)
      ·
        exact sv (vmB rfl) <| sng rfl <| sng rfl <| sng rfl <| sv (vpkf rfl) <| WL.nil <| WX.mid () trivial ⟨bF (by first | omega | simp_all | grind), trivial⟩ ⟨rfl, rfl, rfl, rfl, rfl, rfl, rfl, rfl, rfl, rfl, trivial⟩ (fun _ h => Sb.own (by repeat' (first | with_reducible exact Sb.all | exact Sb.nil | (apply Sb.cons; focus (first | ((repeat (first | with_reducible exact Tk.here | with_reducible apply Tk.there)); done) | ((repeat (first | exact Tk.here | apply Tk.there)); done))) | apply Sb.drop)) h)
    refine WC.ite rfl (fun h3 => ?_) (fun h3 => ?_)
    · -- then
      obtain ⟨x, hx⟩ : ∃ x, c.cells[d]? = some x := ⟨_, List.getElem?_eq_getElem h3⟩
      have hxe := (List.getElem?_eq_some_iff.1 hx).2
      have hcd : c.cells.drop d = x :: c.cells.drop (d + 1) := by rw [List.drop_eq_getElem_cons h3, hxe]
      have hxk := hcc x (by rw [hcd]; exact List.mem_cons_self)
      obtain ⟨q6, hq6⟩ : ∃ q6, q6 = text x.data.data.toList ++ cellsB (c.cells.drop (d + 1)) := ⟨_, rfl⟩
      have hq5 : cellsB (c.cells.drop d) = num x.term ++ q6 := by rw [hcd, hq6]; show cellB x ++ cellsB _ = _; unfold cellB; rw [List.append_assoc]
      have z5 := congrArg List.length hq5
      rw [List.length_append] at z5
      obtain ⟨L, hL⟩ : ∃ L, L = s.log.take c.stay ++ c.cells.take d := ⟨_, rfl⟩
      have hLx : s.log.take c.stay ++ c.cells.take (d + 1) = L ++ [x] := by rw [hL, List.take_add_one, hx, List.append_assoc]; rfl
      rw [← hL] at hd2 ⊢
      have hLl : L.length ≤ 10008 := by rw [hL, List.length_append, List.length_take, List.length_take]; omega
      have hcvl := cvs_length L
      refine WC.skip <| WX.thenN <| WC.seq <| WC.block <| WC.seq <| WC.region <| sv (vmP rfl) <| clx (by repeat' (first | with_reducible exact Sb.all | exact Sb.nil | (apply Sb.cons; focus (first | ((repeat (first | with_reducible exact Tk.here | with_reducible apply Tk.there)); done) | ((repeat (first | exact Tk.here | apply Tk.there)); done))) | apply Sb.drop)) (pnumC (by omega) hq5 (by omega)) ct40 rfl fun r23 hr23 => ?_
      refine sv (vaI rfl) <| WL.nil <| WX.thenN <| WC.plan (.pre [3] (.one [0, 1, 2] 4 (.pre [5] (.one [] 6 (.bar [] 7 (.bar [8] 9 (.done []))))))) rfl (by kernel_rfl) <| WPl.preC <| dv (fun g => (vmP rfl)) <| WD.nil <| WPl.oneX [rstate r9 (some q6)] (by repeat' (first | exact Spl.nil | (apply Spl.cons; focus (first | ((repeat (first | with_reducible exact Tk.here | with_reducible apply Tk.there)); done) | ((repeat (first | exact Tk.here | apply Tk.there)); done))))) (fun g => by infer_instance) ?_
      refine dv (fun g => (vfldp fl72f2 rfl)) <| dv (fun g => (vldc pl31 rfl)) <| dv (fun g => (vmI rfl)) <| WD.eff rfl <| clx (by repeat' (first | with_reducible exact Sb.all | exact Sb.nil | (apply Sb.cons; focus (first | ((repeat (first | with_reducible exact Tk.here | with_reducible apply Tk.there)); done) | ((repeat (first | exact Tk.here | apply Tk.there)); done))) | apply Sb.drop)) (ptextC hq6 (by omega) hxk.2) ct42 rfl fun r25 hr25 => ?_
      refine WL.nil <| WX.br <| WPl.preC <| dv (fun g => (vbd (ps := [(0, .int _ _), (1, .string _)]) (cs := [_, _]) bt69 zt69 rfl (by rfl))) <| WD.nil <| WPl.oneE (fun g => by infer_instance) <| WD.eff rfl <| bslA (v := .agg _) (cs := [.int .i64 x.term, .string x.data]) Try.underlying31 zt69 rfl rfl rfl (by decide) (by decide) fun b27 => WL.nil <| WX.br <| WPl.barC <| WD.eff rfl <| pm (fun _ h => Sb.own (by repeat' (first | with_reducible exact Sb.all | exact Sb.nil | (apply Sb.cons; focus (first | ((repeat (first | with_reducible exact Tk.here | with_reducible apply Tk.there)); done) | ((repeat (first | exact Tk.here | apply Tk.there)); done))) | apply Sb.drop)) h) <| ap (vs := cvs L) (news := [.int .i64 x.term, .string x.data]) rfl Try.underlying31 zt69 rfl rfl rfl (by omega) (rfl) (cone) (reads) (by simp only [maxLen]; omega) (by omega) fun base28 c28 hc28 => ?_
      exact WL.nil <| WX.brT <| WPl.barC <| dv (fun g => (vfldp fl72f2 rfl)) <| WD.eff rfl <| stp (v := .slice _ _ _) pl31 sz31 rfl rfl rfl <| WL.nil <| WX.brT <| WPl.finC <| WD.nil <| WX.blockN <| WX.thenN <| WC.region <| sv (vmI rfl) <| sv (vsub rfl rfl (by omega)) <| sv (vaI rfl) <| WL.nil <| WX.again (⟨d + 1, base28, c28⟩) (⟨h3, by dsimp only; rw [hLx, List.length_append]; exact hc28⟩) (by dsimp only; omega) ⟨iv (by push_cast; omega), trivial⟩ ⟨rfl, rfl, rfl, rfl, rfl, rfl, rfl, rfl, rfl, trivial⟩ (fun w h => by dsimp only; rw [hLx, List.length_append, cvs_append]; exact Sb.own (by repeat' (first | with_reducible exact Sb.all | exact Sb.nil | (apply Sb.cons; focus (first | ((repeat (first | with_reducible exact Tk.here | with_reducible apply Tk.there)); done) | ((repeat (first | exact Tk.here | apply Tk.there)); done))) | apply Sb.drop)) h)
    · -- else
      have hde : d = c.cells.length := by omega
      subst hde
      rw [List.take_length] at hd2 ⊢
      exact WC.exit <| WX.thenE <| WX.thenE <| WX.blockH <| WX.blockN <| WX.thenN <| WC.region <| sv (vadd rfl rfl (by omega)) <| sv (vmI rfl) <| WL.nil <| WX.again (⟨k + 1, qb, qc⟩) (⟨hkr, by dsimp only; rw [hnx]; exact hd2⟩) (by dsimp only; omega) ⟨rfl, trivial⟩ ⟨rfl, rfl, rfl, rfl, rfl, rfl, rfl, trivial⟩ (fun w h => by dsimp only; rw [hnx]; exact Sb.own (by repeat' (first | with_reducible exact Sb.all | exact Sb.nil | (apply Sb.cons; focus (first | ((repeat (first | with_reducible exact Tk.here | with_reducible apply Tk.there)); done) | ((repeat (first | exact Tk.here | apply Tk.there)); done))) | apply Sb.drop)) h)
  · -- else
    have hkk : k = m.rs.length := by omega
    subst hkk
    rw [List.take_length] at hk2 ⊢
    rw [hll]
    rw [hn, ← hbl] at hnew
    refine WC.exit <| WX.thenE <| WX.thenE <| WX.blockH <| WX.thenN <| WC.seq <| WC.plan (.bar [0, 1, 2, 3, 4, 5, 6, 7] 8 (.done [9, 10, 11, 12, 13])) rfl (by kernel_rfl) <| WPl.barC <| dv (fun g => (vmI rfl)) <| dv (fun g => (vadd rfl rfl (by omega))) <| dv (fun g => (vmP rfl)) <| dv (fun g => (vnil rfl)) <| dv (fun g => (vfldpz fl58f0 rfl)) <| dv (fun g => (vldc pl56 rfl)) <| dv (fun g => (vlen Try.underlying56 rfl)) <| dv (fun g => (vldac ag72 sz72 rfl rfl (by decide))) <| WD.eff rfl <| clx (by repeat' (first | with_reducible exact Sb.all | exact Sb.nil | (apply Sb.cons; focus (first | ((repeat (first | with_reducible exact Tk.here | with_reducible apply Tk.there)); done) | ((repeat (first | exact Tk.here | apply Tk.there)); done))) | apply Sb.drop)) (raft_new (n := (b.l.length : Int)) (by have h9 : (stab m.rs).log.length ≤ 10000 := (RInv.new hnew).log; omega) hnew) ct43 rfl fun r35 hr35 => ?_
    refine WL.nil <| WX.brT <| WPl.finC <| dv (fun g => vmv) <| dv (fun g => (vex rfl rfl)) <| dv (fun g => (vex rfl rfl)) <| dv (fun g => (vaP rfl)) <| dv (fun g => (vaI rfl)) <| WD.nil <| WX.thenN <| WC.seq <| WC.region <| sv (vmI rfl) <| sv (vT (veq rfl rfl) (by omega)) <| WL.nil <| WX.thenN <| ?_
    refine WC.tt rfl ?_
    exact WC.region <| sv (vmP rfl) <| sv (vmP rfl) <| sv (vmP rfl) <| sv (vmP rfl) <| sv (vnil rfl) <| sv (vfldp fl65f1 rfl) <| stp (v := .pointer _) pl62 sz62 rfl rfl rfl <| sv (vnil rfl) <| sv (vfldp fl65f2 rfl) <| stp (v := .pointer _) pl63 sz63 rfl rfl rfl <| WL.nil <| WX.end0 rfl (()) (trivial) rfl (fun w h => hc_mk (hcw.set (m := ⟨st', some (newR ((j : Int) + 1) n (stab m.rs).term (stab m.rs).vote (stab m.rs).log), m.rs⟩) he) (cL_in he (hman_mkU (A := cL1 p j b A) (m := ⟨st', some (newR ((j : Int) + 1) n (stab m.rs).term (stab m.rs).vote (stab m.rs).log), m.rs⟩) (np := r35) (jp := jp) rfl (by rw [hn, ← hbl]; exact Sb.own (by repeat' (first | with_reducible exact Sb.all | exact Sb.nil | (apply Sb.cons; focus (first | ((repeat (first | with_reducible exact Tk.here | with_reducible apply Tk.there)); done) | ((repeat (first | exact Tk.here | apply Tk.there)); done))) | apply Sb.drop)) h))))
theorem c_open {w0 : World} {A : List HProp} {p j K : Nat} {S : CS} {m : Mg} {n : Int} (hn : n = S.ms.length) (hl5 : S.ms.length ≤ 5) (hj : S.ms[j]? = some m) (hnd : m.node = none) (hoff : m.st.off = false) (hK : K ≤ 505)
    (hd : 0 ≤ m.st.deeds ∧ m.st.deeds ≤ 3 * K) (hrl : (recsB (readS lnm m.st).1).1 = m.rs.map Rcd.bytes) (hln : m.rs.length ≤ K) (hrs : RecsOk m.rs) (hnew : newOk ((j : Int) + 1) n (stab m.rs).term (stab m.rs).vote (stab m.rs).log) :
    Fun Try.prog w0 24 [.pointer (some ⟨p, 0, none⟩), .int .i64 (j : Int)] (hc p S :: A) (Ret w0 (fun _ : Unit => True) (fun _ => .tuple #[]) (fun _ => hc p (putM S j (openM ((j : Int) + 1) n m)) :: A)) := by
  obtain ⟨st', er, hso⟩ : ∃ st' er, openS lnm m.st = (st', er) := ⟨_, _, rfl⟩
  by_cases her : er = 0
  · subst her
    have hom : openM ((j : Int) + 1) n m = ⟨st', some (newR ((j : Int) + 1) n (stab m.rs).term (stab m.rs).vote (stab m.rs).log), m.rs⟩ := by unfold openM; rw [hso, if_pos rfl]
    rw [hom]
    exact c_open_ok hso hn hl5 hj hnd hoff hK hd hrl hln hrs hnew
  · have hom : openM ((j : Int) + 1) n m = ⟨st', none, m.rs⟩ := by unfold openM; rw [hso, if_neg her]
    rw [hom]
    exact c_open_bad her hso hn hl5 hj hnd hoff hK hd hrl hln hrs hnew
end Go.Proofs.Ytigjompojlhomaa
end
section
set_option linter.unusedVariables false
set_option linter.unusedSimpArgs false
namespace Go.Raft

/-- what happened: votes, leaders of terms, what they wrote, who voted for them, how far nodes took it, the last term from which they took -/
structure Gh where
  vote : Int → Int → Int
  ld : Int → Option Int
  lg : Int → List Cl
  qu : Int → List Int
  ack : Int → Int → Nat
  acc : Int → Int
def Ack (g : Gh) (j t : Int) (p : Nat) : Prop := p ≤ g.ack j t ∨ (g.ld t = some j ∧ p ≤ (g.lg t).length)
def Val (g : Gh) (t : Int) (p : Nat) : Prop := g.ld t ≠ none ∧ 1 ≤ p ∧ p ≤ (g.lg t).length ∧ atT (g.lg t) p = t
def Has (g : Gh) (l : List Cl) (t : Int) (p : Nat) : Prop := p ≤ l.length ∧ l.take p = (g.lg t).take p
def Bad (g : Gh) (t : Int) (p : Nat) (hi : Int) : Prop := ∃ s, t < s ∧ s ≤ hi ∧ g.ld s ≠ none ∧ ¬ Has g (g.lg s) t p
def Good (g : Gh) (l : List Cl) : Prop := ∀ p : Nat, 1 ≤ p → p ≤ l.length → g.ld (atT l p) ≠ none ∧ p ≤ (g.lg (atT l p)).length ∧ l.take p = (g.lg (atT l p)).take p
def Maj (n : Int) (Q : List Int) : Prop := Q.Nodup ∧ (∀ k ∈ Q, 1 ≤ k ∧ k ≤ n) ∧ n < 2 * (Q.length : Int)
def Cm (n : Int) (g : Gh) (t : Int) (p : Nat) : Prop := Val g t p ∧ ∃ Q, Maj n Q ∧ ∀ k ∈ Q, Ack g k t p
/-- c cells of l are committed by a term up to T -/
def CC (n : Int) (g : Gh) (l : List Cl) (c : Int) (T : Int) : Prop := c = 0 ∨ ∃ t p, Cm n g t p ∧ t ≤ T ∧ c ≤ (p : Int) ∧ l.take c.toNat = (g.lg t).take c.toNat
structure GOk (n : Int) (g : Gh) : Prop where
  pos : ∀ s, g.ld s ≠ none → 1 ≤ s
  rng : ∀ s j, g.ld s = some j → 1 ≤ j ∧ j ≤ n
  self : ∀ k s, g.vote k s ≠ 0 → 1 ≤ g.vote k s ∧ g.vote k s ≤ n ∧ g.vote (g.vote k s) s = g.vote k s
  qu : ∀ s j, g.ld s = some j → Maj n (g.qu s) ∧ ∀ k ∈ g.qu s, g.vote k s = j
  rise : ∀ s, g.ld s ≠ none → rises (g.lg s) 1 s = true
  good : ∀ s, g.ld s ≠ none → Good g (g.lg s)
  ack : ∀ j t, 0 < g.ack j t → t ≤ g.acc j ∧ g.ld t ≠ none ∧ g.ack j t ≤ (g.lg t).length
  lacc : ∀ s j, g.ld s = some j → s ≤ g.acc j
  acc : ∀ j, g.acc j = 0 ∨ g.ld (g.acc j) ≠ none
  comp : ∀ s, g.ld s ≠ none → ∀ k ∈ g.qu s, ∀ t p, t < s → Val g t p → Ack g k t p → Has g (g.lg s) t p ∨ Bad g t p (s - 1)
structure NOk (n : Int) (g : Gh) (j : Int) (x : Rn) : Prop where
  inv : RInv x
  ld : Ld x
  id : x.id = j
  nn : x.n = n
  v1 : ∀ s, g.vote j s ≠ 0 → s ≤ x.term
  v2 : g.vote j x.term = x.vote
  cand : x.role = 1 → x.vote = j ∧ ∀ k ∈ x.voted, g.vote k x.term = j
  lead : x.role = 2 → g.ld x.term = some j ∧ g.lg x.term = x.log ∧ g.acc j = x.term ∧ ∀ k, x.mt k ≤ (g.ack k x.term : Int)
  was : ∀ s, g.ld s = some j → s ≤ x.term ∧ (s = x.term → x.role ≠ 1)
  good : Good g x.log
  acc : g.acc j ≤ x.term
  a : ∀ t p, Val g t p → Ack g j t p → Has g x.log t p ∨ Bad g t p (g.acc j)
  b : x.role = 1 → g.ld x.term = none → ∀ k, g.vote k x.term = j → ∀ t p, t < x.term → Val g t p → Ack g k t p → Has g x.log t p ∨ Bad g t p (x.term - 1)
  c : CC n g x.log x.commit x.term
structure MOk (n : Int) (g : Gh) (nd : Int → Rn) (m : Ml) : Prop where
  fr : 1 ≤ m.fr ∧ m.fr ≤ n
  to_ : 1 ≤ m.to_ ∧ m.to_ ≤ n
  ne : m.fr ≠ m.to_
  term : 1 ≤ m.term ∧ m.term ≤ (nd m.fr).term
  k1 : m.kind = 1 → g.vote m.fr m.term = m.fr ∧ ((nd m.fr).term = m.term → (nd m.fr).role = 1 → m.index = (nd m.fr).log.length ∧ m.prev = atT (nd m.fr).log (nd m.fr).log.length)
  k2 : m.kind = 2 → m.ok = true → g.vote m.fr m.term = m.to_
  k3 : m.kind = 3 → g.ld m.term = some m.fr ∧ (0 ≤ m.index ∧ m.index + m.cells.length ≤ ((g.lg m.term).length : Int)) ∧ m.prev = atT (g.lg m.term) m.index ∧ m.cells = ((g.lg m.term).drop m.index.toNat).take m.cells.length ∧ 0 ≤ m.commit ∧ m.commit ≤ ((g.lg m.term).length : Int) ∧ CC n g (g.lg m.term) m.commit m.term
  k4 : m.kind = 4 → m.ok = true → m.index ≤ (g.ack m.fr m.term : Int)
def updR (nd : Int → Rn) (j : Int) (y : Rn) : Int → Rn := fun k => if k = j then y else nd k
theorem updR_same {nd : Int → Rn} {j : Int} {y : Rn} : updR nd j y j = y := if_pos rfl
theorem updR_other {nd : Int → Rn} {j k : Int} {y : Rn} (h : k ≠ j) : updR nd j y k = nd k := if_neg h
structure IOk (n : Int) (nd : Int → Rn) (ml : Ml → Prop) (g : Gh) : Prop where
  gok : GOk n g
  nodes : ∀ j, 1 ≤ j → j ≤ n → NOk n g j (nd j)
  mails : ∀ m, ml m → MOk n g nd m
/-! ### Lists of cells -/
theorem atT_take {l : List Cl} {p q : Nat} (h : p ≤ q) : atT (l.take q) p = atT l p := by
  rcases Nat.eq_zero_or_pos p with h0 | h0
  · subst h0; rw [atT_zero (.inl (by decide)), atT_zero (.inl (by decide))]
  · by_cases hp : p ≤ l.length
    · have h1 : l[p - 1]? = some l[p - 1] := List.getElem?_eq_getElem (by omega)
      have h2 : (l.take q)[p - 1]? = some l[p - 1] := by rw [List.getElem?_take, if_pos (by omega)]; exact h1
      have e : ((p : Nat) : Int) = ((p - 1 : Nat) : Int) + 1 := by omega
      rw [e, atT_pos h1, atT_pos h2]
    · rw [atT_zero (.inr (by rw [List.length_take]; omega)), atT_zero (.inr (by omega))]
theorem atT_eq_of_take {l m : List Cl} {p q : Nat} (h : l.take q = m.take q) (hp : p ≤ q) : atT l p = atT m p := by
  rw [← atT_take hp (l := l), h, atT_take hp]
theorem atT_append {l e : List Cl} {p : Nat} (h : p ≤ l.length) : atT (l ++ e) p = atT l p :=
  atT_eq_of_take (q := l.length) (by rw [List.take_left, List.take_length]) h
theorem take_less {l m : List Cl} {p q : Nat} (h : l.take q = m.take q) (hp : p ≤ q) : l.take p = m.take p := by
  have := congrArg (List.take p) h
  rwa [List.take_take, List.take_take, Nat.min_eq_left hp] at this
theorem atT_mem {l : List Cl} {p : Nat} (h1 : 1 ≤ p) (h : p ≤ l.length) : ∃ c ∈ l, atT l p = c.term := by
  refine ⟨l[p - 1], List.getElem_mem (by omega), ?_⟩
  have := atT_pos (l := l) (p := p - 1) (List.getElem?_eq_getElem (by omega))
  rw [← this]; congr 1; omega
theorem maj_meet {n : Int} {P Q : List Int} (hn : 0 ≤ n) (hP : Maj n P) (hQ : Maj n Q) : ∃ k, k ∈ P ∧ k ∈ Q := by
  apply Classical.byContradiction
  intro hno
  have hd : (P ++ Q).Nodup := List.nodup_append.2 ⟨hP.1, hQ.1, fun a ha b hb hab => hno ⟨a, ha, hab ▸ hb⟩⟩
  have hs : ∀ k ∈ P ++ Q, k ∈ (List.range n.toNat).map fun i : Nat => (i : Int) + 1 := by
    intro k hk
    have h1 : 1 ≤ k ∧ k ≤ n := (List.mem_append.1 hk).elim (hP.2.1 k) (hQ.2.1 k)
    exact List.mem_map.2 ⟨(k - 1).toNat, List.mem_range.2 (by omega), by omega⟩
  have hl := hd.length_le_of_subset hs
  rw [List.length_append, List.length_map, List.length_range] at hl
  have h1 := hP.2.2
  have h2 := hQ.2.2
  omega
/-! ### What is more -/
structure Ext (g g' : Gh) : Prop where
  vote : ∀ j s, g.vote j s ≠ 0 → g'.vote j s = g.vote j s
  ld : ∀ s, g.ld s ≠ none → g'.ld s = g.ld s
  lg : ∀ s, g.ld s ≠ none → ∃ e, g'.lg s = g.lg s ++ e ∧ ∀ c ∈ e, c.term = s
  ack : ∀ j t, g.ack j t ≤ g'.ack j t
section
variable {n : Int} {g g' : Gh}
theorem Ext.lgLen (h : Ext g g') {s : Int} (hs : g.ld s ≠ none) : (g.lg s).length ≤ (g'.lg s).length := by
  obtain ⟨e, he, _⟩ := h.lg s hs
  rw [he, List.length_append]; omega
theorem Ext.lgTake (h : Ext g g') {s : Int} (hs : g.ld s ≠ none) {p : Nat} (hp : p ≤ (g.lg s).length) : (g'.lg s).take p = (g.lg s).take p := by
  obtain ⟨e, he, _⟩ := h.lg s hs
  rw [he, List.take_append_of_le_length hp]
theorem Ext.ldn (h : Ext g g') {s : Int} (hs : g.ld s ≠ none) : g'.ld s ≠ none := by rw [h.ld s hs]; exact hs
theorem Val.ext (h : Ext g g') {t : Int} {p : Nat} (hv : Val g t p) : Val g' t p := by
  refine ⟨h.ldn hv.1, hv.2.1, Nat.le_trans hv.2.2.1 (h.lgLen hv.1), ?_⟩
  rw [atT_eq_of_take (h.lgTake hv.1 hv.2.2.1) (Nat.le_refl p)]; exact hv.2.2.2
theorem Has.ext (h : Ext g g') {t : Int} {p : Nat} (hv : Val g t p) {l : List Cl} : Has g' l t p ↔ Has g l t p := by
  unfold Has; rw [h.lgTake hv.1 hv.2.2.1]
theorem Has.app {l e : List Cl} {t : Int} {p : Nat} (h : Has g l t p) : Has g (l ++ e) t p :=
  ⟨by rw [List.length_append]; have := h.1; omega, by rw [List.take_append_of_le_length h.1]; exact h.2⟩
theorem Has.extlg (h : Ext g g') {t s : Int} {p : Nat} (hv : Val g t p) (hs : g.ld s ≠ none) (hh : Has g (g.lg s) t p) : Has g' (g'.lg s) t p := by
  obtain ⟨e, he, _⟩ := h.lg s hs
  rw [he, Has.ext h hv]; exact hh.app
theorem lack_ext (h : Ext g g') {t s : Int} {p : Nat} (hv : Val g t p) (hr : rises (g.lg t) 1 t = true) (hs : g.ld s ≠ none) (hts : t < s) (hh : ¬ Has g (g.lg s) t p) : ¬ Has g' (g'.lg s) t p := by
  obtain ⟨e, he, hterm⟩ := h.lg s hs
  rw [he, Has.ext h hv]
  intro hk
  apply hh
  by_cases hp : p ≤ (g.lg s).length
  · exact ⟨hp, by rw [← hk.2, List.take_append_of_le_length hp]⟩
  · exfalso
    have h1 : atT (g.lg s ++ e) ((g.lg s).length + 1 : Nat) = atT (g.lg t) ((g.lg s).length + 1 : Nat) := atT_eq_of_take hk.2 (by omega)
    have hel : 0 < e.length := by have := hk.1; rw [List.length_append] at this; omega
    have h2 : (g.lg s ++ e)[(g.lg s).length]? = some e[0] := by rw [List.getElem?_append_right (Nat.le_refl _), Nat.sub_self, List.getElem?_eq_getElem hel]
    have h3 := atT_pos h2
    have h4 := hterm e[0] (List.getElem_mem hel)
    obtain ⟨c, hc, hce⟩ := atT_mem (l := g.lg t) (p := (g.lg s).length + 1) (by omega) (by have := hv.2.2.1; omega)
    have h5 := (rises_mem hr c hc).2.2.1
    rw [show (((g.lg s).length + 1 : Nat) : Int) = ((g.lg s).length : Int) + 1 from rfl] at h1 hce
    omega
theorem Bad.ext (h : Ext g g') {t hi hi' : Int} {p : Nat} (hv : Val g t p) (hr : rises (g.lg t) 1 t = true) (hh : hi ≤ hi') (hb : Bad g t p hi) : Bad g' t p hi' := by
  obtain ⟨s, h1, h2, h3, h4⟩ := hb
  exact ⟨s, h1, by omega, h.ldn h3, lack_ext h hv hr h3 h1 h4⟩
theorem Bad.less {t hi hi' : Int} {p : Nat} (hh : hi ≤ hi') (hb : Bad g t p hi) : Bad g t p hi' := by
  obtain ⟨s, h1, h2, h3, h4⟩ := hb
  exact ⟨s, h1, by omega, h3, h4⟩
theorem Ack.ext (h : Ext g g') {j t : Int} {p : Nat} (ha : Ack g j t p) : Ack g' j t p := by
  rcases ha with ha | ⟨ha, hb⟩
  · exact .inl (Nat.le_trans ha (h.ack j t))
  · have hn : g.ld t ≠ none := by rw [ha]; simp
    exact .inr ⟨by rw [h.ld t hn]; exact ha, Nat.le_trans hb (h.lgLen hn)⟩
theorem Cm.ext (h : Ext g g') {t : Int} {p : Nat} (hc : Cm n g t p) : Cm n g' t p := by
  obtain ⟨hv, Q, hQ, ha⟩ := hc
  exact ⟨hv.ext h, Q, hQ, fun k hk => (ha k hk).ext h⟩
theorem CC.ext (h : Ext g g') {l : List Cl} {c T T' : Int} (hT : T ≤ T') (hc : CC n g l c T) : CC n g' l c T' := by
  rcases hc with hc | ⟨t, p, h1, h2, h3, h4⟩
  · exact .inl hc
  · exact .inr ⟨t, p, h1.ext h, by omega, h3, by rw [h.lgTake h1.1.1 (by have := h1.1.2.2.1; omega)]; exact h4⟩
theorem CC.log {l l' : List Cl} {c T : Int} (hl : l'.take c.toNat = l.take c.toNat) (hc : CC n g l c T) : CC n g l' c T := by
  rcases hc with hc | ⟨t, p, h1, h2, h3, h4⟩
  · exact .inl hc
  · exact .inr ⟨t, p, h1, h2, h3, by rw [hl]; exact h4⟩
theorem Good.ext (h : Ext g g') {l : List Cl} (hg : Good g l) : Good g' l := fun p h1 h2 => by
  obtain ⟨a, b, c⟩ := hg p h1 h2
  exact ⟨h.ldn a, Nat.le_trans b (h.lgLen a), by rw [h.lgTake a b]; exact c⟩
theorem Good.take {l : List Cl} (hg : Good g l) (k : Nat) : Good g (l.take k) := fun p h1 h2 => by
  rw [List.length_take] at h2
  rw [atT_take (by omega)]
  obtain ⟨a, b, c⟩ := hg p h1 (by omega)
  exact ⟨a, b, by rw [List.take_take, Nat.min_eq_left (by omega)]; exact c⟩
theorem Good.meet {l m : List Cl} (hl : Good g l) (hm : Good g m) {p : Nat} (h1 : p ≤ l.length) (h2 : p ≤ m.length) (he : atT l p = atT m p) : l.take p = m.take p := by
  rcases Nat.eq_zero_or_pos p with h0 | h0
  · subst h0; rfl
  · rw [(hl p h0 h1).2.2, (hm p h0 h2).2.2, he]
theorem Ack.val (hg : GOk n g) {j t : Int} {p : Nat} (hp : 1 ≤ p) (ha : Ack g j t p) : g.ld t ≠ none ∧ p ≤ (g.lg t).length ∧ t ≤ g.acc j := by
  rcases ha with ha | ⟨ha, hb⟩
  · have := hg.ack j t (by omega)
    exact ⟨this.2.1, by omega, this.1⟩
  · exact ⟨by rw [ha]; simp, hb, hg.lacc t j ha⟩
/-- what a majority took, all later leaders have -/
theorem complete (hg : GOk n g) {t : Int} {p : Nat} (hc : Cm n g t p) : ∀ (k : Nat) (s : Int), (s - t).toNat = k → t < s → g.ld s ≠ none → Has g (g.lg s) t p := by
  intro k
  induction k using Nat.strongRecOn with
  | _ k ih =>
    intro s hk hts hs
    obtain ⟨hv, Q, hQ, hack⟩ := hc
    obtain ⟨i, hi⟩ := Option.ne_none_iff_exists'.1 hs
    obtain ⟨q, h1, h2⟩ := maj_meet (by have := hg.rng s i hi; omega) hQ (hg.qu s i hi).1
    rcases hg.comp s hs q h2 t p hts hv (hack q h1) with h | ⟨s', a, b, c, d⟩
    · exact h
    · exact absurd (ih (s' - t).toNat (by omega) s' rfl a c) d
theorem Cm.leader (hg : GOk n g) {t s : Int} {p : Nat} (hc : Cm n g t p) (hts : t < s) (hs : g.ld s ≠ none) : Has g (g.lg s) t p := complete hg hc _ s rfl hts hs
/-- two committed rows are one -/
theorem Cm.meet (hg : GOk n g) {t t' : Int} {p p' k : Nat} (hc : Cm n g t p) (hc' : Cm n g t' p') (h1 : k ≤ p) (h2 : k ≤ p') : (g.lg t).take k = (g.lg t').take k := by
  rcases Int.lt_trichotomy t t' with h | h | h
  · have := (hc.leader hg h hc'.1.1).2
    exact (take_less this h1).symm
  · rw [h]
  · have := (hc'.leader hg h hc.1.1).2
    exact take_less this h2
end
end Go.Raft
end
section
set_option linter.unusedVariables false
set_option linter.unusedSimpArgs false
namespace Go.Raft

/-- more happened, of node j's doing in term T alone -/
structure Chg (g g' : Gh) (j T : Int) : Prop where
  ext : Ext g g'
  vote : ∀ k s, (k ≠ j ∨ s ≠ T) → g'.vote k s = g.vote k s
  ld : ∀ s, s ≠ T → g'.ld s = g.ld s
  ldT : g'.ld T ≠ g.ld T → g.ld T = none ∧ g'.ld T = some j
  lg : ∀ s i, g.ld s = some i → (s ≠ T ∨ i ≠ j) → g'.lg s = g.lg s
  ack : ∀ k t, (k ≠ j ∨ t ≠ T) → g'.ack k t = g.ack k t
  acc : ∀ k, k ≠ j → g'.acc k = g.acc k
  qu : ∀ s, g.ld s ≠ none → g'.qu s = g.qu s
theorem Ext.refl (g : Gh) : Ext g g := ⟨fun _ _ _ => rfl, fun _ _ => rfl, fun s _ => ⟨[], by simp, by simp⟩, fun _ _ => Nat.le_refl _⟩
theorem Ext.trans {g g' g2 : Gh} (h : Ext g g') (k : Ext g' g2) : Ext g g2 :=
  ⟨fun j s hv => by rw [k.vote j s (by rw [h.vote j s hv]; exact hv), h.vote j s hv], fun s hs => by rw [k.ld s (h.ldn hs), h.ld s hs], fun s hs => by
    obtain ⟨e, he, h1⟩ := h.lg s hs
    obtain ⟨f, hf, h2⟩ := k.lg s (h.ldn hs)
    exact ⟨e ++ f, by rw [hf, he, List.append_assoc], fun c hc => (List.mem_append.1 hc).elim (h1 c) (h2 c)⟩, fun j t => Nat.le_trans (h.ack j t) (k.ack j t)⟩
theorem Chg.refl (g : Gh) (j T : Int) : Chg g g j T := ⟨Ext.refl g, fun _ _ _ => rfl, fun _ _ => rfl, fun h => absurd rfl h, fun _ _ _ _ => rfl, fun _ _ _ => rfl, fun _ _ => rfl, fun _ _ => rfl⟩
section
variable {n j T : Int} {g g' : Gh}
theorem Chg.back (c : Chg g g' j T) (hg : GOk n g) {k t : Int} {p : Nat} (hk : k ≠ j ∨ t ≠ T) (hv : Val g' t p) (ha : Ack g' k t p) : Val g t p ∧ Ack g k t p := by
  have hp := hv.2.1
  have key : Ack g k t p → Val g t p ∧ Ack g k t p := fun h => by
    have h1 := h.val hg hp
    exact ⟨⟨h1.1, hp, h1.2.1, by rw [← atT_eq_of_take (c.ext.lgTake h1.1 h1.2.1) (Nat.le_refl p)]; exact hv.2.2.2⟩, h⟩
  apply key
  rcases ha with ha | ⟨ha, hb⟩
  · exact .inl (by rw [c.ack k t hk] at ha; exact ha)
  · have hld : g.ld t = some k := by
      by_cases ht : t = T
      · subst ht
        have hkj : k ≠ j := hk.resolve_right (fun h => h rfl)
        by_cases he : g'.ld t = g.ld t
        · rw [← he]; exact ha
        · have := (c.ldT he).2
          rw [ha] at this
          exact absurd (Option.some.inj this) hkj
      · rw [← c.ld t ht]; exact ha
    exact .inr ⟨hld, by rw [c.lg t k hld hk.symm] at hb; exact hb⟩
theorem Chg.comp (c : Chg g g' j T) (hg : GOk n g) (hv : ∀ s, g.vote j s ≠ 0 → s ≤ T) {s : Int} (hs : g.ld s ≠ none) : ∀ k ∈ g'.qu s, ∀ t p, t < s → Val g' t p → Ack g' k t p → Has g' (g'.lg s) t p ∨ Bad g' t p (s - 1) := by
  intro k hk t p ht hvl ha
  rw [c.qu s hs] at hk
  obtain ⟨i, hi⟩ := Option.ne_none_iff_exists'.1 hs
  have h1 := (hg.qu s i hi).2 k hk
  have h2 := hg.rng s i hi
  have hkj : k ≠ j ∨ t ≠ T := by
    by_cases hkj : k = j
    · subst hkj
      have := hv s (by rw [h1]; omega)
      exact .inr (by omega)
    · exact .inl hkj
  obtain ⟨hv0, ha0⟩ := c.back hg hkj hvl ha
  rcases hg.comp s hs k hk t p ht hv0 ha0 with h | h
  · exact .inl (h.extlg c.ext hv0 hs)
  · exact .inr (h.ext c.ext hv0 (hg.rise t hv0.1) (Int.le_refl _))
theorem NOk.other (c : Chg g g' j T) (hg : GOk n g) {k : Int} {x : Rn} (hk : k ≠ j) (h : NOk n g k x) (hv : ∀ s, g.vote j s ≠ 0 → s ≤ T)
    (hnew : x.role = 1 → g.ld x.term = none → g.vote j x.term ≠ k → g'.vote j x.term = k → ∀ t p, t < x.term → Val g t p → Ack g j t p → Has g x.log t p ∨ Bad g t p (x.term - 1)) : NOk n g' k x := by
  have hvk : ∀ s, g'.vote k s = g.vote k s := fun s => c.vote k s (.inl hk)
  have hk1 : 1 ≤ k := by rw [← h.id]; exact h.inv.id.1
  have hup : ∀ {t : Int} {p : Nat} {hi : Int}, Val g t p → (Has g x.log t p ∨ Bad g t p hi) → Has g' x.log t p ∨ Bad g' t p hi := fun {t p hi} hv0 hh => by
    rcases hh with hh | hh
    · exact .inl ((Has.ext c.ext hv0).2 hh)
    · exact .inr (hh.ext c.ext hv0 (hg.rise t hv0.1) (Int.le_refl _))
  refine ⟨h.inv, h.ld, h.id, h.nn, fun s hs => h.v1 s (by rw [← hvk]; exact hs), by rw [hvk]; exact h.v2, fun hr => ⟨(h.cand hr).1, fun i hi => ?_⟩, fun hr => ?_, fun s hs => ?_, h.good.ext c.ext, by rw [c.acc k hk]; exact h.acc, fun t p hvl ha => ?_, fun hr hl i hi t p ht hvl ha => ?_, h.c.ext c.ext (Int.le_refl _)⟩
  · have := (h.cand hr).2 i hi
    rw [c.ext.vote i x.term (by rw [this]; omega)]; exact this
  · obtain ⟨a, b, d, e⟩ := h.lead hr
    exact ⟨by rw [c.ext.ld _ (by rw [a]; simp)]; exact a, by rw [c.lg _ _ a (.inr hk)]; exact b, by rw [c.acc k hk]; exact d, fun i => by have := e i; have := c.ext.ack i x.term; omega⟩
  · have : g.ld s = some k := by
      by_cases he : g'.ld s = g.ld s
      · rw [← he]; exact hs
      · by_cases hsT : s = T
        · subst hsT
          have := (c.ldT he).2
          rw [hs] at this
          exact absurd (Option.some.inj this) hk
        · exact absurd (c.ld s hsT) he
    exact h.was s this
  · obtain ⟨hv0, ha0⟩ := c.back hg (.inl hk) hvl ha
    rw [c.acc k hk]
    exact hup hv0 (h.a t p hv0 ha0)
  · have hl0 : g.ld x.term = none := by
      apply Classical.byContradiction
      intro hn
      exact (c.ext.ldn hn) hl
    by_cases hij : i = j
    · subst hij
      by_cases hold : g.vote i x.term = k
      · have h1 := hv x.term (by rw [hold]; omega)
        obtain ⟨hv0, ha0⟩ := c.back hg (.inr (by omega)) hvl ha
        exact hup hv0 (h.b hr hl0 i hold t p ht hv0 ha0)
      · have hxT : x.term = T := by
          apply Classical.byContradiction
          intro hne
          rw [c.vote i x.term (.inr hne)] at hi
          exact hold hi
        obtain ⟨hv0, ha0⟩ := c.back hg (.inr (by omega)) hvl ha
        exact hup hv0 (hnew hr hl0 hold hi t p ht hv0 ha0)
    · obtain ⟨hv0, ha0⟩ := c.back hg (.inl hij) hvl ha
      rw [c.vote i x.term (.inl hij)] at hi
      exact hup hv0 (h.b hr hl0 i hi t p ht hv0 ha0)
theorem MOk.move (c : Ext g g') {nd : Int → Rn} {y : Rn} {m : Ml} (h : MOk n g nd m) (hterm : (nd j).term ≤ y.term)
    (hk1 : m.fr = j → m.kind = 1 → y.term = m.term → y.role = 1 → (nd j).role = 1 ∧ (nd j).term = y.term ∧ y.log = (nd j).log) : MOk n g' (updR nd j y) m := by
  refine ⟨h.fr, h.to_, h.ne, ⟨h.term.1, ?_⟩, fun hk => ?_, fun hk ho => ?_, fun hk => ?_, fun hk ho => ?_⟩
  · unfold updR
    split
    · rename_i he; rw [← he] at hterm; have := h.term.2; omega
    · exact h.term.2
  · have h1 := h.k1 hk
    refine ⟨by rw [c.vote _ _ (by rw [h1.1]; have := h.fr; omega)]; exact h1.1, fun ht hr => ?_⟩
    unfold updR at ht hr ⊢
    by_cases he : m.fr = j
    · rw [if_pos he] at ht hr ⊢
      obtain ⟨a, b, d⟩ := hk1 he hk ht hr
      rw [d]
      rw [he] at h1
      exact h1.2 (by omega) a
    · rw [if_neg he] at ht hr ⊢
      exact h1.2 ht hr
  · have h1 := h.k2 hk ho
    rw [c.vote _ _ (by rw [h1]; have := h.to_; omega)]; exact h1
  · obtain ⟨a, ⟨b0, b1⟩, d, e, f0, f1, f2⟩ := h.k3 hk
    have hn : g.ld m.term ≠ none := by rw [a]; simp
    obtain ⟨z, hz, _⟩ := c.lg m.term hn
    obtain ⟨i, hi⟩ : ∃ i : Nat, m.index = (i : Int) := ⟨m.index.toNat, by omega⟩
    refine ⟨by rw [c.ld _ hn]; exact a, ⟨b0, by have := c.lgLen hn; omega⟩, ?_, ?_, f0, by have := c.lgLen hn; omega, ?_⟩
    · rw [hz, hi, atT_append (by omega), ← hi]; exact d
    · rw [hz, List.drop_append_of_le_length (by omega), List.take_append_of_le_length (by rw [List.length_drop]; omega)]; exact e
    · refine CC.log ?_ (f2.ext c (Int.le_refl _))
      rw [hz, List.take_append_of_le_length (by omega)]
  · have := h.k4 hk ho
    have := c.ack m.fr m.term
    omega
theorem IOk.move {nd : Int → Rn} {ml : Ml → Prop} {y : Rn} (h : IOk n nd ml g) (c : Chg g g' j T) (hv : ∀ s, g.vote j s ≠ 0 → s ≤ T) (hg' : GOk n g') (hy : NOk n g' j y)
    (hnew : ∀ k, k ≠ j → 1 ≤ k → k ≤ n → (nd k).role = 1 → g.ld (nd k).term = none → g.vote j (nd k).term ≠ k → g'.vote j (nd k).term = k → ∀ t p, t < (nd k).term → Val g t p → Ack g j t p → Has g (nd k).log t p ∨ Bad g t p ((nd k).term - 1))
    (hterm : (nd j).term ≤ y.term) (hk1 : y.role = 1 → (nd j).term = y.term → (nd j).role = 1 ∧ y.log = (nd j).log) : IOk n (updR nd j y) ml g' := by
  refine ⟨hg', fun k h1 h2 => ?_, fun m hm => (h.mails m hm).move c.ext hterm fun he hk ht hr => ?_⟩
  · unfold updR
    split
    · rename_i he; rw [he]; exact hy
    · rename_i he
      exact (h.nodes k h1 h2).other c h.gok he hv (hnew k he h1 h2)
  · have h1 := (h.mails m hm).term.2
    rw [he] at h1
    have h2 := hk1 hr (by omega)
    exact ⟨h2.1, by omega, h2.2⟩
/-- a node's doing of which nothing is written -/
theorem IOk.same {nd : Int → Rn} {ml : Ml → Prop} {y : Rn} (h : IOk n nd ml g) (hj : 1 ≤ j ∧ j ≤ n) (hy : NOk n g j y) (hterm : (nd j).term ≤ y.term) (hk1 : y.role = 1 → (nd j).term = y.term → (nd j).role = 1 ∧ y.log = (nd j).log) : IOk n (updR nd j y) ml g :=
  h.move (Chg.refl g j y.term) hy.v1 h.gok hy (fun k _ _ _ _ _ a b => absurd b a) hterm hk1
theorem NOk.congr {x y : Rn} (h : NOk n g j x) (hi : RInv y) (hl : Ld y) (h1 : y.id = x.id ∧ y.n = x.n) (h2 : y.term = x.term) (h3 : y.vote = x.vote) (h4 : y.log = x.log) (h5 : y.role = x.role) (h6 : y.commit = x.commit) (h7 : y.voted = x.voted) (h8 : y.mt = x.mt) : NOk n g j y := by
  refine ⟨hi, hl, h1.1.trans h.id, h1.2.trans h.nn, ?_, ?_, ?_, ?_, ?_, ?_, ?_, ?_, ?_, ?_⟩
  · rw [h2]; exact h.v1
  · rw [h2, h3]; exact h.v2
  · rw [h5, h3, h2, h7]; exact h.cand
  · rw [h5, h2, h4, h8]; exact h.lead
  · rw [h5, h2]; exact h.was
  · rw [h4]; exact h.good
  · rw [h2]; exact h.acc
  · rw [h4]; exact h.a
  · rw [h5, h2, h4]; exact h.b
  · rw [h4, h6, h2]; exact h.c
end
end Go.Raft
end
section
set_option linter.unusedVariables false
set_option linter.unusedSimpArgs false
namespace Go.Raft

/-- node j is y now and sends these; what was true lasts -/
def Stp (n : Int) (nd : Int → Rn) (ml : Ml → Prop) (g : Gh) (j : Int) (y : Rn) (out : List Ml) : Prop := ∃ g', Ext g g' ∧ IOk n (updR nd j y) ml g' ∧ ∀ q ∈ out, MOk n g' (updR nd j y) q
theorem updR_self {nd : Int → Rn} {j : Int} : updR nd j (nd j) = nd := by
  funext k; unfold updR; split
  · rename_i h; rw [h]
  · rfl
theorem updR_updR {nd : Int → Rn} {j : Int} {y z : Rn} : updR (updR nd j y) j z = updR nd j z := by
  funext k; unfold updR; split <;> rfl
section
variable {n j : Int} {g g' : Gh} {nd : Int → Rn} {ml : Ml → Prop} {y z : Rn} {out : List Ml}
theorem Stp.stay (h : IOk n nd ml g) : Stp n nd ml g j (nd j) [] := ⟨g, Ext.refl g, by rw [updR_self]; exact h, fun q hq => by cases hq⟩
theorem Stp.same (h : IOk n (updR nd j y) ml g) : Stp n nd ml g j y [] := ⟨g, Ext.refl g, h, fun q hq => by cases hq⟩
/-- first this, then that -/
theorem Stp.then (h : Ext g g') (k : Stp n (updR nd j y) ml g' j z out) : Stp n nd ml g j z out := by
  obtain ⟨g2, h1, h2, h3⟩ := k
  rw [updR_updR] at h2 h3
  exact ⟨g2, h.trans h1, h2, h3⟩
theorem IOk.congr (h : IOk n nd ml g) (hj : 1 ≤ j ∧ j ≤ n) (hi : RInv y) (hl : Ld y) (h1 : y.id = (nd j).id ∧ y.n = (nd j).n) (h2 : y.term = (nd j).term) (h3 : y.vote = (nd j).vote) (h4 : y.log = (nd j).log) (h5 : y.role = (nd j).role) (h6 : y.commit = (nd j).commit) (h7 : y.voted = (nd j).voted) (h8 : y.mt = (nd j).mt) : IOk n (updR nd j y) ml g :=
  h.same hj ((h.nodes j hj.1 hj.2).congr hi hl h1 h2 h3 h4 h5 h6 h7 h8) (by omega) (fun hr _ => ⟨by omega, h4⟩)
/-! ### A later term -/
theorem NOk.step {x : Rn} {m : Ml} (h : NOk n g j x) (hm : mailOk x.id x.n m) : NOk n g j (stepS m x) := by
  have hi := h.inv.step hm
  have hl : Ld (stepS m x) := by
    have hid := h.inv.id
    unfold stepS
    split
    · exact ⟨fun e => absurd e (by show ¬ (0 : Int) = 2; decide), fun e => absurd e (by show ¬ (0 : Int) = x.id; omega)⟩
    · exact h.ld
  revert hi hl
  unfold stepS
  split
  · rename_i ht
    intro hi hl
    refine ⟨hi, hl, h.id, h.nn, fun s hs => ?_, ?_, fun hr => absurd hr (by show ¬ (0 : Int) = 1; decide), fun hr => absurd hr (by show ¬ (0 : Int) = 2; decide), fun s hs => ⟨?_, fun _ => by show ¬ (0 : Int) = 1; decide⟩, h.good, ?_, h.a, fun hr => absurd hr (by show ¬ (0 : Int) = 1; decide), ?_⟩
    · have := h.v1 s hs; show s ≤ m.term; omega
    · show g.vote j m.term = 0
      apply Classical.byContradiction
      intro hn
      have := h.v1 _ hn
      omega
    · have := (h.was s hs).1; show s ≤ m.term; omega
    · have := h.acc; show g.acc j ≤ m.term; omega
    · exact h.c.ext (Ext.refl g) (by show x.term ≤ m.term; omega)
  · exact fun _ _ => h
theorem stepS_mono {x : Rn} {m : Ml} : x.term ≤ (stepS m x).term := by
  unfold stepS
  split
  · show x.term ≤ m.term; omega
  · exact Int.le_refl _
theorem IOk.step {m : Ml} (h : IOk n nd ml g) (hj : 1 ≤ j ∧ j ≤ n) (hm : mailOk (nd j).id (nd j).n m) : IOk n (updR nd j (stepS m (nd j))) ml g :=
  h.same hj ((h.nodes j hj.1 hj.2).step hm) stepS_mono (by
    unfold stepS
    split
    · exact fun hr => absurd hr (by show ¬ (0 : Int) = 1; decide)
    · exact fun hr _ => ⟨hr, rfl⟩)
/-! ### Votes -/
def setVote (g : Gh) (j T i : Int) : Gh := { g with vote := fun k s => if k = j ∧ s = T then i else g.vote k s }
theorem Chg.setVote {T i : Int} (h0 : g.vote j T = 0) : Chg g (setVote g j T i) j T :=
  ⟨⟨fun k s hv => if_neg (fun h => hv (by rw [h.1, h.2]; exact h0)), fun _ _ => rfl, fun s _ => ⟨[], by simp [Raft.setVote], by simp⟩, fun _ _ => Nat.le_refl _⟩, fun k s h => if_neg (fun hh => h.elim (fun a => a hh.1) (fun a => a hh.2)), fun _ _ => rfl, fun h => absurd rfl h, fun _ _ _ _ => rfl, fun _ _ _ => rfl, fun _ _ => rfl, fun _ _ => rfl⟩
theorem GOk.setVote {T i : Int} (hg : GOk n g) (h0 : g.vote j T = 0) (hi : 1 ≤ i ∧ i ≤ n) (hs : i = j ∨ g.vote i T = i) : GOk n (setVote g j T i) := by
  refine ⟨hg.pos, hg.rng, fun k s hk => ?_, fun s i' hs' => ?_, hg.rise, hg.good, hg.ack, hg.lacc, hg.acc, hg.comp⟩
  · simp only [Raft.setVote] at hk ⊢
    by_cases hks : k = j ∧ s = T
    · rw [if_pos hks]
      refine ⟨hi.1, hi.2, ?_⟩
      rcases hs with hs | hs
      · rw [if_pos ⟨hs, hks.2⟩]
      · split
        · rfl
        · rw [hks.2]; exact hs
    · rw [if_neg hks] at hk ⊢
      have h1 := hg.self k s hk
      refine ⟨h1.1, h1.2.1, ?_⟩
      rw [if_neg (fun hh => ?_)]
      · exact h1.2.2
      · have h2 := h1.2.2
        rw [hh.1, hh.2, h0] at h2
        omega
  · have h1 := hg.qu s i' hs'
    refine ⟨h1.1, fun k hk => ?_⟩
    have h2 := h1.2 k hk
    have h3 := hg.rng s i' hs'
    show (if k = j ∧ s = T then i else g.vote k s) = i'
    rw [if_neg (fun hh => by rw [hh.1, hh.2, h0] at h2; omega)]
    exact h2
theorem askedS_vote {x : Rn} {m : Ml} (h : voteOk x m) : askedS x m = ({ x with vote := m.fr, waited := 0 }, [{ mk x 2 m.fr with ok := true }]) := by unfold askedS; rw [if_pos h, decide_eq_true h]
theorem askedS_no {x : Rn} {m : Ml} (h : ¬ voteOk x m) : askedS x m = (x, [{ mk x 2 m.fr with ok := false }]) := by unfold askedS; rw [if_neg h, decide_eq_false h]
theorem last_le {l : List Cl} {T : Int} (h : rises l 1 T = true) {p : Nat} (h1 : 1 ≤ p) (h2 : p ≤ l.length) : atT l p ≤ atT l l.length := by
  have := atT_mono' h (p := p - 1) (q := l.length - 1) (by omega) (by omega)
  rwa [show (((p - 1 : Nat) : Int) + 1) = (p : Int) by omega, show (((l.length - 1 : Nat) : Int) + 1) = (l.length : Int) by omega] at this
/-- a candidate for whom a node votes has what that node took -/
theorem fresh_has (hg : GOk n g) {x c : Rn} {i t T : Int} {p : Nat} (hx : NOk n g j x) (hc : NOk n g i c) (hcT : c.term = T) (hl : g.ld T = none) (ht : t < T) (hv : Val g t p) (hh : Has g x.log t p)
    (hf : atT x.log x.log.length < atT c.log c.log.length ∨ atT c.log c.log.length = atT x.log x.log.length ∧ x.log.length ≤ c.log.length) : Has g c.log t p ∨ Bad g t p (T - 1) := by
  have hp1 := hv.2.1
  have ht1 := hg.pos t hv.1
  have hpt : atT x.log p = t := by rw [atT_eq_of_take hh.2 (Nat.le_refl p)]; exact hv.2.2.2
  have hlast := last_le hx.inv.rise hp1 hh.1
  have hxl : 1 ≤ x.log.length := Nat.le_trans hp1 hh.1
  have hcl : 1 ≤ c.log.length := by
    rcases Nat.eq_zero_or_pos c.log.length with h0 | h0
    · rw [h0, atT_zero (l := c.log) (.inl (by decide))] at hf; omega
    · exact h0
  obtain ⟨u, hu⟩ : ∃ u, atT c.log c.log.length = u := ⟨_, rfl⟩
  rw [hu] at hf
  have hgc := hc.good c.log.length hcl (Nat.le_refl _)
  rw [hu, List.take_length] at hgc
  rcases hf with hf | ⟨hf, hlen⟩
  · have huT : u < T := by
      have h1 := (atT_bound (p := (c.log.length : Int)) hc.inv.rise hc.inv.term.1).2
      rw [hu, hcT] at h1
      rcases Int.lt_or_eq_of_le h1 with h2 | h2
      · exact h2
      · rw [h2] at hgc; exact absurd hl hgc.1
    by_cases hb : Has g (g.lg u) t p
    · refine .inl ?_
      by_cases hp : p ≤ c.log.length
      · refine ⟨hp, ?_⟩
        rw [hgc.2.2, List.take_take, Nat.min_eq_left hp]; exact hb.2
      · exfalso
        have h1 : atT (g.lg u) c.log.length = u := by
          exact ((atT_eq_of_take (q := c.log.length) (by rw [List.take_length]; exact hgc.2.2) (Nat.le_refl _)).symm).trans hu
        have h2 := atT_eq_of_take hb.2 (p := c.log.length) (by omega)
        have h3 := (atT_bound (p := (c.log.length : Int)) (hg.rise t hv.1) (by omega)).2
        omega
    · exact .inr ⟨u, by omega, by omega, hgc.1, hb⟩
  · have hgx := hx.good x.log.length hxl (Nat.le_refl _)
    rw [← hf, List.take_length] at hgx
    have hle : p ≤ c.log.length := Nat.le_trans hh.1 hlen
    refine .inl ⟨hle, ?_⟩
    have e : c.log.take x.log.length = x.log := by
      rw [hgc.2.2, List.take_take, Nat.min_eq_left hlen]; exact hgx.2.2.symm
    have h4 := congrArg (List.take p) e
    rw [List.take_take, Nat.min_eq_left hh.1] at h4
    rw [h4]; exact hh.2
theorem IOk.asked {m : Ml} (h : IOk n nd ml g) (hj : 1 ≤ j ∧ j ≤ n) (hm : ml m) (hto : m.to_ = j) (hk : m.kind = 1) (hmk : mailOk (nd j).id (nd j).n m) (ht : m.term ≤ (nd j).term) : Stp n nd ml g j (askedS (nd j) m).1 (askedS (nd j) m).2 := by
  have hx := h.nodes j hj.1 hj.2
  have hmm := h.mails m hm
  have hi := hx.inv.asked (m := m) ⟨hmk.1.1, hmk.1.2.1⟩
  have hfr := hmm.fr
  have hne := hmm.ne
  by_cases hv : voteOk (nd j) m
  · rw [askedS_vote hv] at hi ⊢
    have hT := hv.1
    have hl : Ld { nd j with vote := m.fr, waited := 0 } := hx.ld
    have hmo : ∀ g' : Gh, g'.vote j (nd j).term = m.fr → ∀ q ∈ [({ Raft.mk (nd j) 2 m.fr with ok := true } : Ml)], MOk n g' (updR nd j { nd j with vote := m.fr, waited := 0 }) q := fun g' hg' q hq => by
      have : q = { Raft.mk (nd j) 2 m.fr with ok := true } := by simpa using hq
      subst this
      refine ⟨by show 1 ≤ (nd j).id ∧ (nd j).id ≤ n; rw [hx.id]; exact hj, hfr, by show (nd j).id ≠ m.fr; rw [hx.id]; omega, ⟨by show 1 ≤ (nd j).term; have := hmm.term; omega, by show (nd j).term ≤ (updR nd j _ (nd j).id).term; rw [hx.id, updR_same]; exact Int.le_refl _⟩, fun hk => absurd hk (by show ¬ (2 : Int) = 1; decide), fun _ _ => by show g'.vote (nd j).id (nd j).term = m.fr; rw [hx.id]; exact hg', fun hk => absurd hk (by show ¬ (2 : Int) = 3; decide), fun hk => absurd hk (by show ¬ (2 : Int) = 4; decide)⟩
    by_cases hvf : (nd j).vote = m.fr
    · refine ⟨g, Ext.refl g, h.congr hj hi hl ⟨rfl, rfl⟩ rfl hvf.symm rfl rfl rfl rfl rfl, hmo g ?_⟩
      rw [hx.v2]; exact hvf
    · have hv0 : (nd j).vote = 0 := hv.2.1.resolve_right hvf
      have h0 : g.vote j (nd j).term = 0 := by rw [hx.v2]; exact hv0
      have hk1 := hmm.k1 hk
      rw [hT] at hk1
      have hself : m.fr = j ∨ g.vote m.fr (nd j).term = m.fr := .inr hk1.1
      refine ⟨setVote g j (nd j).term m.fr, (Chg.setVote h0).ext, ?_, hmo _ (if_pos ⟨rfl, rfl⟩)⟩
      have hr0 := hv.2.2.1
      refine h.move (T := (nd j).term) (Chg.setVote h0) hx.v1 (h.gok.setVote h0 hfr hself) ?_ ?_ (Int.le_refl _) (fun hr _ => ⟨hr, rfl⟩)
      · refine ⟨hi, hl, hx.id, hx.nn, fun s hs => ?_, if_pos ⟨rfl, rfl⟩, fun hr => absurd (show (nd j).role = 1 from hr) (by omega), fun hr => absurd (show (nd j).role = 2 from hr) (by omega), hx.was, hx.good, hx.acc, hx.a, fun hr => absurd (show (nd j).role = 1 from hr) (by omega), hx.c⟩
        simp only [setVote] at hs
        by_cases hsT : s = (nd j).term
        · exact Int.le_of_eq hsT
        · rw [if_neg (fun hh => hsT hh.2)] at hs; exact hx.v1 s hs
      · intro k hkj hk1' hkn hrole hld hold hnew t p ht' hval hack
        replace hnew : (if j = j ∧ (nd k).term = (nd j).term then m.fr else g.vote j (nd k).term) = k := hnew
        have hkT : (nd k).term = (nd j).term := by
          apply Classical.byContradiction
          intro hne'
          rw [if_neg (fun hh => hne' hh.2)] at hnew
          exact hold hnew
        rw [if_pos ⟨rfl, hkT⟩] at hnew
        subst hnew
        have hk1b := hk1.2 hkT hrole
        rw [hkT] at hld ht' ⊢
        have haccT : g.acc j ≤ (nd j).term - 1 := by
          have h1 := hx.acc
          rcases h.gok.acc j with h2 | h2
          · have := hmm.term; omega
          · have : g.acc j ≠ (nd j).term := fun e => by rw [e] at h2; exact h2 hld
            omega
        rcases hx.a t p hval hack with hh | hh
        · refine fresh_has h.gok hx (h.nodes _ hk1' hkn) hkT hld ht' hval hh ?_
          rcases hv.2.2.2 with h5 | h5
          · left; rw [← hk1b.2]; exact h5
          · right; exact ⟨by rw [← hk1b.2]; exact h5.1, by have := h5.2; have := hk1b.1; omega⟩
        · exact .inr (hh.less haccT)
  · rw [askedS_no hv] at hi ⊢
    refine ⟨g, Ext.refl g, by rw [updR_self]; exact h, fun q hq => ?_⟩
    rw [updR_self]
    have : q = { Raft.mk (nd j) 2 m.fr with ok := false } := by simpa using hq
    subst this
    exact ⟨by show 1 ≤ (nd j).id ∧ (nd j).id ≤ n; rw [hx.id]; exact hj, hfr, by show (nd j).id ≠ m.fr; rw [hx.id]; omega, ⟨by show 1 ≤ (nd j).term; have := hmm.term; omega, by show (nd j).term ≤ (nd (nd j).id).term; rw [hx.id]; exact Int.le_refl _⟩, fun hk => absurd hk (by show ¬ (2 : Int) = 1; decide), fun _ ho => (by cases ho), fun hk => absurd hk (by show ¬ (2 : Int) = 3; decide), fun hk => absurd hk (by show ¬ (2 : Int) = 4; decide)⟩
end
end Go.Raft
end
section
set_option linter.unusedVariables false
set_option linter.unusedSimpArgs false
namespace Go.Raft

section
variable {n j : Int} {g g' : Gh} {nd : Int → Rn} {ml : Ml → Prop} {y z : Rn} {out : List Ml}
def setLead (g : Gh) (j T : Int) (l : List Cl) (Q : List Int) : Gh := { g with ld := fun s => if s = T then some j else g.ld s, lg := fun s => if s = T then l else g.lg s, qu := fun s => if s = T then Q else g.qu s, acc := fun k => if k = j then T else g.acc k }
theorem Chg.setLead {T : Int} {l : List Cl} {Q : List Int} (h0 : g.ld T = none) : Chg g (setLead g j T l Q) j T := by
  have hne : ∀ s, g.ld s ≠ none → s ≠ T := fun s hs e => hs (by rw [e]; exact h0)
  refine ⟨⟨fun _ _ _ => rfl, fun s hs => if_neg (hne s hs), fun s hs => ⟨[], ?_, by simp⟩, fun _ _ => Nat.le_refl _⟩, fun _ _ _ => rfl, fun s hs => if_neg hs, fun _ => ⟨h0, if_pos rfl⟩, fun s i hs _ => if_neg (hne s (by rw [hs]; simp)), fun _ _ _ => rfl, fun k hk => if_neg hk, fun s hs => if_neg (hne s hs)⟩
  show (if s = T then l else g.lg s) = g.lg s ++ []
  rw [if_neg (hne s hs), List.append_nil]
/-- a log that goes on with cells of a term whose leader has it -/
theorem Good.more (c : Ext g g') {l e : List Cl} {T : Int} (hl : Good g l) (he : ∀ c ∈ e, c.term = T) (hT : g'.ld T ≠ none) (hg : g'.lg T = l ++ e) : Good g' (l ++ e) := fun p h1 h2 => by
  by_cases hp : p ≤ l.length
  · rw [atT_append hp]
    obtain ⟨a, b, d⟩ := hl p h1 hp
    exact ⟨c.ldn a, Nat.le_trans b (c.lgLen a), by rw [List.take_append_of_le_length hp, c.lgTake a b]; exact d⟩
  · have h3 : atT (l ++ e) p = T := by
      rw [List.length_append] at h2
      have hi : (l ++ e)[p - 1]? = some e[p - 1 - l.length] := by rw [List.getElem?_append_right (by omega), List.getElem?_eq_getElem (by omega)]
      have := atT_pos hi
      rw [show (((p - 1 : Nat) : Int) + 1) = (p : Int) by omega] at this
      rw [this]; exact he _ (List.getElem_mem (by omega))
    rw [h3, hg]
    exact ⟨hT, h2, rfl⟩
theorem IOk.elect (h : IOk n nd ml g) (hj : 1 ≤ j ∧ j ≤ n) {e : List Cl} (hr : (nd j).role = 1) (hmaj : (nd j).n < 2 * ((nd j).voted.length : Int)) (hi : RInv y) (hl : Ld y) (h1 : y.id = (nd j).id ∧ y.n = (nd j).n) (h2 : y.term = (nd j).term) (h3 : y.vote = (nd j).vote)
    (h4 : y.log = (nd j).log ++ e) (h5 : y.role = 2) (h6 : y.commit = (nd j).commit) (h8 : ∀ k, y.mt k = 0) (he : ∀ c ∈ e, c.term = (nd j).term) : ∃ g', Ext g g' ∧ IOk n (updR nd j y) ml g' := by
  have hx := h.nodes j hj.1 hj.2
  have hc := hx.cand hr
  have hvd := hx.inv.voted hr
  have hQ : Maj n (nd j).voted := ⟨hvd.1, fun k hk => by rw [← hx.nn]; exact hvd.2 k hk, by rw [← hx.nn]; exact hmaj⟩
  have h0 : g.ld (nd j).term = none := by
    apply Classical.byContradiction
    intro hn
    obtain ⟨i, hi'⟩ := Option.ne_none_iff_exists'.1 hn
    have hq := h.gok.qu _ i hi'
    obtain ⟨k, k1, k2⟩ := maj_meet (by omega) hQ hq.1
    have e1 := hc.2 k k1
    have e2 := hq.2 k k2
    have : i = j := by omega
    rw [this] at hi'
    exact (hx.was _ hi').2 rfl hr
  have hT1 := hx.inv.lead (by omega)
  have hch := Chg.setLead (j := j) (l := y.log) (Q := (nd j).voted) h0
  have hgT : (setLead g j (nd j).term y.log (nd j).voted).lg (nd j).term = y.log := if_pos rfl
  have hlT : (setLead g j (nd j).term y.log (nd j).voted).ld (nd j).term = some j := if_pos rfl
  have haT : (setLead g j (nd j).term y.log (nd j).voted).acc j = (nd j).term := if_pos rfl
  have haccle : ∀ k, g.acc k ≤ (setLead g j (nd j).term y.log (nd j).voted).acc k := fun k => by
    show g.acc k ≤ if k = j then (nd j).term else g.acc k
    split
    · rename_i hk; rw [hk]; exact hx.acc
    · exact Int.le_refl _
  have hgood : Good (setLead g j (nd j).term y.log (nd j).voted) y.log := by
    rw [h4]
    refine hx.good.more ?_ he ?_ ?_
    · rw [← h4]; exact hch.ext
    · rw [← h4, hlT]; simp
    · rw [← h4]; exact hgT
  have hup : ∀ {t : Int} {p : Nat} {a b : Int}, a ≤ b → Val g t p → (Has g (nd j).log t p ∨ Bad g t p a) → Has (setLead g j (nd j).term y.log (nd j).voted) y.log t p ∨ Bad (setLead g j (nd j).term y.log (nd j).voted) t p b := fun {t p a b} hab hv hh => by
    rcases hh with hh | hh
    · refine .inl ((Has.ext hch.ext hv).2 ?_); rw [h4]; exact hh.app
    · exact .inr (hh.ext hch.ext hv (h.gok.rise t hv.1) hab)
  have hrise : rises y.log 1 (nd j).term = true := by rw [← h2]; exact hi.rise
  refine ⟨setLead g j (nd j).term y.log (nd j).voted, hch.ext, h.move hch (fun s hs => hx.v1 s hs) ?_ ?_ (fun k _ _ _ _ _ a b => absurd b a) (by omega) (fun hr' _ => by omega)⟩
  · refine ⟨fun s hs => ?_, fun s i hs => ?_, h.gok.self, fun s i hs => ?_, fun s hs => ?_, fun s hs => ?_, fun k t hk => ?_, fun s i hs => ?_, fun k => ?_, fun s hs => ?_⟩
    · by_cases hsT : s = (nd j).term
      · omega
      · exact h.gok.pos s (by rw [← hch.ld s hsT]; exact hs)
    · by_cases hsT : s = (nd j).term
      · rw [hsT, hlT] at hs; cases hs; exact hj
      · exact h.gok.rng s i (by rw [← hch.ld s hsT]; exact hs)
    · by_cases hsT : s = (nd j).term
      · rw [hsT, hlT] at hs; cases hs
        rw [hsT]
        have hqT : (setLead g j (nd j).term y.log (nd j).voted).qu (nd j).term = (nd j).voted := if_pos rfl
        rw [hqT]
        exact ⟨hQ, hc.2⟩
      · have hs' : g.ld s = some i := by rw [← hch.ld s hsT]; exact hs
        rw [hch.qu s (by rw [hs']; simp)]
        exact h.gok.qu s i hs'
    · by_cases hsT : s = (nd j).term
      · rw [hsT, hgT]; exact hrise
      · have hs' : g.ld s ≠ none := by rw [← hch.ld s hsT]; exact hs
        obtain ⟨i, hi'⟩ := Option.ne_none_iff_exists'.1 hs'
        rw [hch.lg s i hi' (.inl hsT)]; exact h.gok.rise s hs'
    · by_cases hsT : s = (nd j).term
      · rw [hsT, hgT]; exact hgood
      · have hs' : g.ld s ≠ none := by rw [← hch.ld s hsT]; exact hs
        obtain ⟨i, hi'⟩ := Option.ne_none_iff_exists'.1 hs'
        rw [hch.lg s i hi' (.inl hsT)]; exact (h.gok.good s hs').ext hch.ext
    · have h9 := h.gok.ack k t hk
      have := haccle k
      exact ⟨by omega, hch.ext.ldn h9.2.1, Nat.le_trans h9.2.2 (hch.ext.lgLen h9.2.1)⟩
    · by_cases hsT : s = (nd j).term
      · rw [hsT, hlT] at hs; cases hs; rw [haT]; omega
      · have h9 := h.gok.lacc s i (by rw [← hch.ld s hsT]; exact hs)
        have := haccle i
        omega
    · by_cases hkj : k = j
      · rw [hkj, haT]; exact .inr (by rw [hlT]; simp)
      · rw [hch.acc k hkj]
        exact (h.gok.acc k).imp id fun h9 => hch.ext.ldn h9
    · by_cases hsT : s = (nd j).term
      · intro k hk t p ht hv ha
        rw [hsT] at hk ht ⊢
        have hqT : (setLead g j (nd j).term y.log (nd j).voted).qu (nd j).term = (nd j).voted := if_pos rfl
        rw [hqT] at hk
        obtain ⟨hv0, ha0⟩ := hch.back h.gok (.inr (by omega)) hv ha
        rw [hgT]
        exact hup (Int.le_refl _) hv0 (hx.b hr h0 k (hc.2 k hk) t p ht hv0 ha0)
      · exact hch.comp h.gok (fun s hs => hx.v1 s hs) (by rw [← hch.ld s hsT]; exact hs)
  · refine ⟨hi, hl, h1.1.trans hx.id, h1.2.trans hx.nn, fun s hs => by rw [h2]; exact hx.v1 s hs, by rw [h2, h3]; exact hx.v2, fun hr' => by omega, fun _ => ?_, fun s hs => ?_, hgood, ?_, fun t p hv ha => ?_, fun hr' => by omega, ?_⟩
    · rw [h2]
      exact ⟨hlT, hgT, haT, fun k => by rw [h8]; omega⟩
    · rw [h2]
      by_cases hsT : s = (nd j).term
      · exact ⟨by omega, fun _ => by omega⟩
      · have := hx.was s (by rw [← hch.ld s hsT]; exact hs)
        exact ⟨this.1, fun _ => by omega⟩
    · rw [haT]; omega
    · rw [haT]
      by_cases htT : t = (nd j).term
      · refine .inl ⟨?_, ?_⟩
        · have := hv.2.2.1; rw [htT, hgT] at this; exact this
        · rw [htT, hgT]
      · obtain ⟨hv0, ha0⟩ := hch.back h.gok (.inr htT) hv ha
        exact hup hx.acc hv0 (hx.a t p hv0 ha0)
    · rw [h2, h6]
      refine CC.log ?_ (hx.c.ext hch.ext (Int.le_refl _))
      rw [h4, List.take_append_of_le_length (by have := hx.inv.commit; omega)]
/-! ### What a leader writes -/
def setLog (g : Gh) (T : Int) (l : List Cl) : Gh := { g with lg := fun s => if s = T then l else g.lg s }
theorem IOk.append (h : IOk n nd ml g) (hj : 1 ≤ j ∧ j ≤ n) {e : List Cl} (hr : (nd j).role = 2) (hi : RInv y) (hl : Ld y) (h1 : y.id = (nd j).id ∧ y.n = (nd j).n) (h2 : y.term = (nd j).term) (h3 : y.vote = (nd j).vote)
    (h4 : y.log = (nd j).log ++ e) (h5 : y.role = 2) (h6 : y.commit = (nd j).commit) (h8 : ∀ k, y.mt k = (nd j).mt k) (he : ∀ c ∈ e, c.term = (nd j).term) : ∃ g', Ext g g' ∧ IOk n (updR nd j y) ml g' := by
  have hx := h.nodes j hj.1 hj.2
  obtain ⟨l1, l2, l3, l4⟩ := hx.lead hr
  have hn : g.ld (nd j).term ≠ none := by rw [l1]; simp
  have hgT : (setLog g (nd j).term y.log).lg (nd j).term = y.log := if_pos rfl
  have hch : Chg g (setLog g (nd j).term y.log) j (nd j).term := by
    refine ⟨⟨fun _ _ _ => rfl, fun _ _ => rfl, fun s hs => ?_, fun _ _ => Nat.le_refl _⟩, fun _ _ _ => rfl, fun _ _ => rfl, fun hh => absurd rfl hh, fun s i hs hh => if_neg fun e => ?_, fun _ _ _ => rfl, fun _ _ => rfl, fun _ _ => rfl⟩
    · by_cases hsT : s = (nd j).term
      · refine ⟨e, ?_, by rw [hsT]; exact he⟩
        rw [hsT, hgT, l2]; exact h4
      · exact ⟨[], by show (if s = _ then _ else g.lg s) = _; rw [if_neg hsT, List.append_nil], by simp⟩
    · rw [e, l1] at hs
      exact hh.elim (fun a => a e) (fun a => a (Option.some.inj hs).symm)
  have hgood : Good (setLog g (nd j).term y.log) y.log := by
    rw [h4]
    refine hx.good.more ?_ he ?_ ?_
    · rw [← h4]; exact hch.ext
    · exact hn
    · rw [← h4]; exact hgT
  have hrise : rises y.log 1 (nd j).term = true := by rw [← h2]; exact hi.rise
  have hup : ∀ {t : Int} {p : Nat} {a b : Int}, a ≤ b → Val g t p → (Has g (nd j).log t p ∨ Bad g t p a) → Has (setLog g (nd j).term y.log) y.log t p ∨ Bad (setLog g (nd j).term y.log) t p b := fun {t p a b} hab hv hh => by
    rcases hh with hh | hh
    · refine .inl ((Has.ext hch.ext hv).2 ?_); rw [h4]; exact hh.app
    · exact .inr (hh.ext hch.ext hv (h.gok.rise t hv.1) hab)
  refine ⟨setLog g (nd j).term y.log, hch.ext, h.move hch (fun s hs => hx.v1 s hs) ?_ ?_ (fun k _ _ _ _ _ a b => absurd b a) (by omega) (fun hr' _ => by omega)⟩
  · refine ⟨h.gok.pos, h.gok.rng, h.gok.self, h.gok.qu, fun s hs => ?_, fun s hs => ?_, fun k t hk => ?_, h.gok.lacc, h.gok.acc, fun s hs => hch.comp h.gok (fun s hs => hx.v1 s hs) hs⟩
    · by_cases hsT : s = (nd j).term
      · rw [hsT, hgT]; exact hrise
      · obtain ⟨i, hi'⟩ := Option.ne_none_iff_exists'.1 hs
        rw [hch.lg s i hi' (.inl hsT)]; exact h.gok.rise s hs
    · by_cases hsT : s = (nd j).term
      · rw [hsT, hgT]; exact hgood
      · obtain ⟨i, hi'⟩ := Option.ne_none_iff_exists'.1 hs
        rw [hch.lg s i hi' (.inl hsT)]; exact (h.gok.good s hs).ext hch.ext
    · have h9 := h.gok.ack k t hk
      exact ⟨h9.1, h9.2.1, Nat.le_trans h9.2.2 (hch.ext.lgLen h9.2.1)⟩
  · refine ⟨hi, hl, h1.1.trans hx.id, h1.2.trans hx.nn, fun s hs => by rw [h2]; exact hx.v1 s hs, by rw [h2, h3]; exact hx.v2, fun hr' => by omega, fun _ => ?_, fun s hs => ?_, hgood, ?_, fun t p hv ha => ?_, fun hr' => by omega, ?_⟩
    · rw [h2]
      exact ⟨l1, hgT, l3, fun k => by rw [h8]; exact l4 k⟩
    · rw [h2]
      exact ⟨(hx.was s hs).1, fun _ => by omega⟩
    · rw [h2]; exact hx.acc
    · by_cases htT : t = (nd j).term
      · refine .inl ⟨?_, ?_⟩
        · have := hv.2.2.1; rw [htT, hgT] at this; exact this
        · rw [htT, hgT]
      · obtain ⟨hv0, ha0⟩ := hch.back h.gok (.inr htT) hv ha
        exact hup (Int.le_refl _) hv0 (hx.a t p hv0 ha0)
    · rw [h2, h6]
      refine CC.log ?_ (hx.c.ext hch.ext (Int.le_refl _))
      rw [h4, List.take_append_of_le_length (by have := hx.inv.commit; omega)]
/-! ### What is counted -/
theorem countP_spec {x : Rn} : ∀ {p : Nat}, countP x p = x.commit ∨ ∃ q : Nat, countP x p = q ∧ 1 ≤ q ∧ q ≤ p ∧ atT x.log q = x.term ∧ x.n < 2 * haveC x q
  | 0 => .inl rfl
  | p + 1 => by
    unfold countP
    split
    · rename_i h
      split
      · rename_i h2
        exact .inr ⟨p + 1, rfl, by omega, Nat.le_refl _, h.2, h2⟩
      · rcases countP_spec (x := x) (p := p) with h3 | ⟨q, a, b, c, d⟩
        · exact .inl h3
        · exact .inr ⟨q, a, b, by omega, d⟩
    · exact .inl rfl
theorem IOk.count (h : IOk n nd ml g) (hj : 1 ≤ j ∧ j ≤ n) (hr : (nd j).role = 2) : IOk n (updR nd j (countS (nd j))) ml g := by
  have hx := h.nodes j hj.1 hj.2
  obtain ⟨l1, l2, l3, l4⟩ := hx.lead hr
  refine h.same hj ⟨hx.inv.count, hx.ld, hx.id, hx.nn, hx.v1, hx.v2, hx.cand, hx.lead, hx.was, hx.good, hx.acc, hx.a, hx.b, ?_⟩ (Int.le_refl _) (fun hr _ => ⟨hr, rfl⟩)
  show CC n g (nd j).log (countP (nd j) (nd j).log.length) (nd j).term
  rcases countP_spec (x := nd j) (p := (nd j).log.length) with h3 | ⟨q, a, b, c, d, e⟩
  · rw [h3]; exact hx.c
  · rw [a]
    refine .inr ⟨(nd j).term, q, ⟨⟨by rw [l1]; simp, b, by rw [l2]; exact c, by rw [l2]; exact d⟩, j :: (others (nd j)).filter (fun k => decide ((q : Int) ≤ (nd j).mt k)), ⟨?_, ?_, ?_⟩, ?_⟩, Int.le_refl _, Int.le_refl _, by rw [l2]⟩
    · refine List.nodup_cons.2 ⟨fun hm => ?_, oth_nodup.filter _⟩
      have := (oth_mem.1 (List.mem_filter.1 hm).1).2.2
      exact this hx.id.symm
    · intro k hk
      rcases List.mem_cons.1 hk with rfl | hk
      · exact hj
      · have := oth_mem.1 (List.mem_filter.1 hk).1
        have h9 := hx.nn
        have h10 := hx.inv.n
        omega
    · rw [← hx.nn]
      have : ((j :: (others (nd j)).filter (fun k => decide ((q : Int) ≤ (nd j).mt k))).length : Int) = haveC (nd j) q := by
        unfold haveC; rw [List.length_cons]; omega
      rw [this]; exact e
    · intro k hk
      rcases List.mem_cons.1 hk with rfl | hk
      · exact .inr ⟨l1, by rw [l2]; exact c⟩
      · have h9 : (q : Int) ≤ (nd j).mt k := by simpa using (List.mem_filter.1 hk).2
        have := l4 k
        exact .inl (by omega)
/-! ### Mails of a leader -/
theorem feed_ok (h : IOk n nd ml g) (hj : 1 ≤ j ∧ j ≤ n) (hr : (nd j).role = 2) {k : Int} (hk : k ∈ others (nd j)) (hnx : 1 ≤ (nd j).nx k ∧ (nd j).nx k ≤ ((nd j).log.length : Int) + 1) : MOk n g nd (feedM (nd j) k) := by
  have hx := h.nodes j hj.1 hj.2
  obtain ⟨l1, l2, l3, l4⟩ := hx.lead hr
  have hk' := oth_mem.1 hk
  have hn := hx.nn
  have hnn := hx.inv.n
  have hid := hx.id
  have hcm := hx.inv.commit
  obtain ⟨i, hi⟩ : ∃ i : Nat, (nd j).nx k - 1 = (i : Int) := ⟨((nd j).nx k - 1).toNat, by omega⟩
  have hlen : (((nd j).log.drop i).take 8).length = min 8 ((nd j).log.length - i) := by rw [List.length_take, List.length_drop]
  have hcells : (feedM (nd j) k).cells = ((nd j).log.drop i).take 8 := by show ((nd j).log.drop ((nd j).nx k - 1).toNat).take 8 = _; rw [hi, Int.toNat_natCast]
  refine ⟨by show 1 ≤ (nd j).id ∧ (nd j).id ≤ n; omega, by show 1 ≤ k ∧ k ≤ n; omega, by show (nd j).id ≠ k; omega, ⟨hx.inv.lead (by omega), by show (nd j).term ≤ (nd (nd j).id).term; rw [hid]; exact Int.le_refl _⟩, fun hk => absurd hk (by show ¬ (3 : Int) = 1; decide), fun hk => absurd hk (by show ¬ (3 : Int) = 2; decide), fun _ => ?_, fun hk => absurd hk (by show ¬ (3 : Int) = 4; decide)⟩
  rw [hcells]
  refine ⟨by show g.ld (nd j).term = some (nd j).id; rw [hid]; exact l1, ⟨by show 0 ≤ (nd j).nx k - 1; omega, ?_⟩, by show atT (nd j).log _ = atT (g.lg (nd j).term) _; rw [l2]; rfl, ?_, hcm.1, ?_, ?_⟩
  · show (nd j).nx k - 1 + _ ≤ ((g.lg (nd j).term).length : Int)
    rw [l2, hlen]; omega
  · show _ = ((g.lg (nd j).term).drop ((nd j).nx k - 1).toNat).take _
    rw [l2, hi, Int.toNat_natCast, hlen]
    have : (((nd j).log.drop i).length) = (nd j).log.length - i := List.length_drop
    rw [← this]
    rcases Nat.le_total 8 (((nd j).log.drop i).length) with h1 | h1
    · rw [Nat.min_eq_left h1]
    · rw [Nat.min_eq_right h1, List.take_length, List.take_of_length_le h1]
  · show (nd j).commit ≤ ((g.lg (nd j).term).length : Int)
    rw [l2]; exact hcm.2
  · show CC n g (g.lg (nd j).term) (nd j).commit (nd j).term
    rw [l2]; exact hx.c
theorem IOk.feedAll (h : IOk n nd ml g) (hj : 1 ≤ j ∧ j ≤ n) (hr : (nd j).role = 2) : Stp n nd ml g j (feedAllS (nd j)).1 (feedAllS (nd j)).2 := by
  have hx := h.nodes j hj.1 hj.2
  have h1 := h.congr hj hx.inv.feedAll hx.ld ⟨rfl, rfl⟩ rfl rfl rfl rfl rfl rfl rfl
  refine ⟨g, Ext.refl g, h1, fun q hq => ?_⟩
  obtain ⟨k, hk, rfl⟩ := List.mem_map.1 hq
  have hp := hx.inv.peers hr k
  have := feed_ok h1 hj (k := k) (by rw [updR_same]; exact hr) (by rw [updR_same]; exact hk) (by rw [updR_same]; exact ⟨by show 1 ≤ (nd j).nx k; omega, hp.2.2⟩)
  rwa [updR_same] at this
theorem IOk.leads (h : IOk n nd ml g) (hj : 1 ≤ j ∧ j ≤ n) (hr : (nd j).role = 1) : Stp n nd ml g j (leadS (nd j)).1 (leadS (nd j)).2 := by
  have hx := h.nodes j hj.1 hj.2
  unfold leadS
  split
  · rename_i hm
    have key : ∀ y : Rn, y.role = 2 → (∃ g', Ext g g' ∧ IOk n (updR nd j y) ml g') → Stp n nd ml g j (feedAllS (countS y)).1 (feedAllS (countS y)).2 := fun y hy ⟨g', h1, h2⟩ => by
      have h3 := h2.count hj (by rw [updR_same]; exact hy)
      rw [updR_same, updR_updR] at h3
      have h4 := h3.feedAll hj (by rw [updR_same]; exact hy)
      rw [updR_same] at h4
      exact Stp.then h1 h4
    have hil := hx.inv.leader hr
    split
    · rename_i hlen
      exact key _ rfl (h.elect hj (e := [⟨(nd j).term, ByteArray.empty⟩]) hr hm (hil.add rfl hlen (by decide)) ⟨fun _ => rfl, fun _ => rfl⟩ ⟨rfl, rfl⟩ rfl rfl rfl rfl rfl (fun _ => rfl) (by intro c hc; rcases List.mem_singleton.1 hc with rfl; rfl))
    · exact key _ rfl (h.elect hj (e := []) hr hm hil ⟨fun _ => rfl, fun _ => rfl⟩ ⟨rfl, rfl⟩ rfl rfl (by simp [leaderS]) rfl rfl (fun _ => rfl) (fun c hc => by cases hc))
  · exact Stp.stay h
end
end Go.Raft
end
section
set_option linter.unusedVariables false
set_option linter.unusedSimpArgs false
namespace Go.Raft

section
variable {n j : Int} {g g' : Gh} {nd : Int → Rn} {ml : Ml → Prop} {y z : Rn} {out : List Ml}
theorem IOk.run (h : IOk n nd ml g) (hj : 1 ≤ j ∧ j ≤ n) (hr : (nd j).role ≠ 2) (ht : (nd j).term ≠ 1000000000) : ∃ g', Ext g g' ∧ IOk n (updR nd j (runS (nd j))) ml g' := by
  have hx := h.nodes j hj.1 hj.2
  have h0 : g.vote j ((nd j).term + 1) = 0 := by
    apply Classical.byContradiction
    intro hn
    have := hx.v1 _ hn
    omega
  have hch := Chg.setVote (i := j) h0
  have hl : Ld (runS (nd j)) := ⟨fun e => absurd e (by show ¬ (1 : Int) = 2; decide), fun e => absurd e (by have := hx.inv.id; show ¬ (0 : Int) = (nd j).id; omega)⟩
  refine ⟨setVote g j ((nd j).term + 1) j, hch.ext, h.move (T := (nd j).term + 1) hch (fun s hs => by have := hx.v1 s hs; omega) (h.gok.setVote h0 hj (.inl rfl)) ?_ ?_ (by show (nd j).term ≤ (nd j).term + 1; omega) (fun _ e => absurd e (by show ¬ (nd j).term = (nd j).term + 1; omega))⟩
  · refine ⟨hx.inv.run ht, hl, hx.id, hx.nn, fun s hs => ?_, ?_, fun _ => ⟨hx.id, fun k hk => ?_⟩, fun e => absurd e (by show ¬ (1 : Int) = 2; decide), fun s hs => ?_, hx.good, ?_, hx.a, fun _ hld k hk t p htt hv ha => ?_, hx.c.ext (Ext.refl _) (by show (nd j).term ≤ (nd j).term + 1; omega)⟩
    · show s ≤ (nd j).term + 1
      simp only [setVote] at hs
      by_cases hsT : s = (nd j).term + 1
      · omega
      · rw [if_neg (fun hh => hsT hh.2)] at hs
        have := hx.v1 s hs; omega
    · show (if j = j ∧ (nd j).term + 1 = (nd j).term + 1 then j else _) = (nd j).id
      rw [if_pos ⟨rfl, rfl⟩, hx.id]
    · have : k = (nd j).id := by simpa [runS] using hk
      rw [this, hx.id]
      exact if_pos ⟨rfl, rfl⟩
    · have := hx.was s hs
      exact ⟨by show s ≤ (nd j).term + 1; omega, fun e => absurd e (by show ¬ s = (nd j).term + 1; omega)⟩
    · have := hx.acc; show g.acc j ≤ (nd j).term + 1; omega
    · replace hk : (if k = j ∧ (nd j).term + 1 = (nd j).term + 1 then j else g.vote k ((nd j).term + 1)) = j := hk
      by_cases hkj : k = j
      · subst hkj
        rcases hx.a t p hv ha with h1 | h1
        · exact .inl h1
        · have := hx.acc
          exact .inr (Bad.less (g := g) (by show g.acc k ≤ (nd k).term + 1 - 1; omega) h1)
      · rw [if_neg (fun hh => hkj hh.1)] at hk
        have h1 := h.gok.self k ((nd j).term + 1) (by rw [hk]; omega)
        rw [hk, h0] at h1
        omega
  · intro k hkj _ _ _ _ hold hnew
    replace hnew : (if j = j ∧ (nd k).term = (nd j).term + 1 then j else g.vote j (nd k).term) = k := hnew
    by_cases hT : (nd k).term = (nd j).term + 1
    · rw [if_pos ⟨rfl, hT⟩] at hnew
      exact absurd hnew.symm hkj
    · rw [if_neg (fun hh => hT hh.2)] at hnew
      exact absurd hnew hold
theorem IOk.tick (h : IOk n nd ml g) (hj : 1 ≤ j ∧ j ≤ n) : Stp n nd ml g j (tickS (nd j)).1 (tickS (nd j)).2 := by
  have hx := h.nodes j hj.1 hj.2
  unfold tickS
  split
  · rename_i hr
    split
    · rename_i hs
      exact Stp.same (h.congr hj (hx.inv.since1 hs) hx.ld ⟨rfl, rfl⟩ rfl rfl rfl rfl rfl rfl rfl)
    · exact h.feedAll hj hr
  · rename_i hr
    split
    · have h1 := hx.inv.tick
      rename_i hw
      have e : (tickS (nd j)).1 = { nd j with waited := (nd j).waited + 1 } := by unfold tickS; rw [if_neg hr, if_pos hw]
      rw [e] at h1
      exact Stp.same (h.congr hj h1 hx.ld ⟨rfl, rfl⟩ rfl rfl rfl rfl rfl rfl rfl)
    · rename_i hw
      obtain ⟨g', h1, h2⟩ := h.run hj hr (by omega)
      split
      · have h3 := h2.leads hj (by rw [updR_same]; rfl)
        rw [updR_same] at h3
        exact Stp.then h1 h3
      · refine ⟨g', h1, h2, fun q hq => ?_⟩
        obtain ⟨k, hk, rfl⟩ := List.mem_map.1 hq
        have hk' := oth_mem.1 hk
        have hn := hx.nn
        have hnn := hx.inv.n
        have hid := hx.id
        have hy := h2.nodes j hj.1 hj.2
        rw [updR_same] at hy
        have hv := hy.v2
        refine ⟨by show 1 ≤ (nd j).id ∧ (nd j).id ≤ n; omega, by show 1 ≤ k ∧ k ≤ n; omega, by show (nd j).id ≠ k; omega, ⟨by have := hx.inv.term; show 1 ≤ (nd j).term + 1; omega, by show (nd j).term + 1 ≤ (updR nd j (runS (nd j)) (nd j).id).term; rw [hid, updR_same]; exact Int.le_refl _⟩, fun _ => ⟨?_, fun _ _ => ?_⟩, fun hk => absurd hk (by show ¬ (1 : Int) = 2; decide), fun hk => absurd hk (by show ¬ (1 : Int) = 3; decide), fun hk => absurd hk (by show ¬ (1 : Int) = 4; decide)⟩
        · show g'.vote (nd j).id ((nd j).term + 1) = (nd j).id
          rw [hid]
          exact hv.trans hid
        · show ((nd j).log.length : Int) = ((updR nd j (runS (nd j)) (nd j).id).log.length : Int) ∧ atT (nd j).log (nd j).log.length = atT (updR nd j (runS (nd j)) (nd j).id).log (updR nd j (runS (nd j)) (nd j).id).log.length
          rw [hid, updR_same]
          exact ⟨rfl, rfl⟩
theorem IOk.votes {m : Ml} (h : IOk n nd ml g) (hj : 1 ≤ j ∧ j ≤ n) (hm : ml m) (hto : m.to_ = j) (hk : m.kind = 2) : Stp n nd ml g j (votesS (nd j) m).1 (votesS (nd j) m).2 := by
  have hx := h.nodes j hj.1 hj.2
  have hmm := h.mails m hm
  unfold votesS
  split
  · exact Stp.stay h
  · rename_i hc
    have hr : (nd j).role = 1 := by omega
    have hT : m.term = (nd j).term := by omega
    have ho : m.ok = true := by
      cases hmo : m.ok
      · exact absurd (.inr (.inl hmo)) hc
      · rfl
    have hv := hmm.k2 hk ho
    rw [hT, hto] at hv
    have hi := hx.inv.votedS hr (k := m.fr) (by rw [hx.nn]; exact hmm.fr)
    have h1 : IOk n (updR nd j (votedS m.fr (nd j))) ml g := by
      refine h.same hj ⟨hi, hx.ld, hx.id, hx.nn, hx.v1, hx.v2, fun hr' => ⟨(hx.cand hr').1, fun k hk => ?_⟩, hx.lead, hx.was, hx.good, hx.acc, hx.a, hx.b, hx.c⟩ (Int.le_refl _) (fun hr' _ => ⟨hr', rfl⟩)
      replace hk : k ∈ if m.fr ∈ (nd j).voted then (nd j).voted else (nd j).voted ++ [m.fr] := hk
      have hold := (hx.cand hr').2
      split at hk
      · exact hold k hk
      · rcases List.mem_append.1 hk with hk | hk
        · exact hold k hk
        · have : k = m.fr := by simpa using hk
          rw [this]; exact hv
    have h2 := h1.leads hj (by rw [updR_same]; exact hr)
    rw [updR_same] at h2
    exact Stp.then (Ext.refl g) h2
/-! ### Cells are taken -/
theorem merge_lead {log L : List Cl} (hl : Good g log) (hL : Good g L) {commit : Int} : ∀ {cs : List Cl} {p : Nat} {log' : List Cl}, log.take p = L.take p → p ≤ log.length → p + cs.length ≤ L.length → cs = (L.drop p).take cs.length → (∀ c ∈ cs, 1 ≤ c.term) → mergeS log commit p cs = some log' →
    (log' = log ∧ log.take (p + cs.length) = L.take (p + cs.length) ∧ p + cs.length ≤ log.length) ∨ (log' = L.take (p + cs.length) ∧ ∃ q : Nat, q < p + cs.length ∧ q ≤ log.length ∧ atT log ((q : Int) + 1) ≠ atT L ((q : Int) + 1))
  | [], p, log', h1, h2, _, _, _, hm => by
    have : log' = log := by simpa [mergeS] using hm.symm
    exact .inl ⟨this, by simpa using h1, by simpa using h2⟩
  | c :: l, p, log', h1, h2, h3, h4, h5, hm => by
    simp only [List.length_cons] at h3
    have hpL : p < L.length := by omega
    have hd : L.drop p = L[p] :: L.drop (p + 1) := List.drop_eq_getElem_cons hpL
    rw [hd, List.length_cons, List.take_succ_cons] at h4
    have hc : c = L[p] := by injection h4
    have hl' : l = (L.drop (p + 1)).take l.length := by injection h4
    have haL : atT L ((p : Int) + 1) = c.term := atT_pos (by rw [hc]; exact List.getElem?_eq_getElem hpL)
    unfold mergeS at hm
    by_cases h6 : atT log ((p : Int) + 1) = c.term
    · rw [if_pos h6] at hm
      have hpl : p < log.length := by
        rcases Nat.lt_or_ge p log.length with h7 | h7
        · exact h7
        · rw [atT_zero (.inr (by omega))] at h6; have := h5 c (by simp); omega
      have e : ((p : Int) + 1) = ((p + 1 : Nat) : Int) := rfl
      have ht : log.take (p + 1) = L.take (p + 1) := hl.meet hL (by omega) (by omega) (by rw [← e, h6, haL])
      rw [e] at hm
      have := merge_lead hl hL (cs := l) (p := p + 1) ht (by omega) (by omega) hl' (fun d hd => h5 d (by simp [hd])) hm
      rw [show p + 1 + l.length = p + (c :: l).length by simp only [List.length_cons]; omega] at this
      exact this
    · rw [if_neg h6] at hm
      split at hm
      · cases hm
      · refine .inr ⟨?_, p, by simp only [List.length_cons]; omega, h2, by rw [haL]; exact h6⟩
        have : log' = log.take p ++ c :: l := by rw [Int.toNat_natCast] at hm; simpa using hm.symm
        rw [this, h1, List.length_cons, List.take_add]
        congr 1
        rw [hd, List.take_succ_cons, ← hc, ← hl']
def setAck (g : Gh) (j T : Int) (q : Nat) : Gh := { g with ack := fun k t => if k = j ∧ t = T then max (g.ack k t) q else g.ack k t, acc := fun k => if k = j then T else g.acc k }
theorem IOk.accept (h : IOk n nd ml g) (hj : 1 ≤ j ∧ j ≤ n) {i : Int} {q : Nat} (hr0 : y.role = 0) (hr : (nd j).role ≠ 2) (hi : RInv y) (hl : Ld y) (h1 : y.id = (nd j).id ∧ y.n = (nd j).n) (h2 : y.term = (nd j).term) (h3 : y.vote = (nd j).vote)
    (hld : g.ld (nd j).term = some i) (hij : i ≠ j) (hq : q ≤ (g.lg (nd j).term).length) (hT1 : 1 ≤ (nd j).term)
    (hlog : (y.log = (nd j).log ∧ (nd j).log.take q = (g.lg (nd j).term).take q ∧ q ≤ (nd j).log.length) ∨ (y.log = (g.lg (nd j).term).take q ∧ ∃ q' : Nat, q' < q ∧ q' ≤ (nd j).log.length ∧ atT (nd j).log ((q' : Int) + 1) ≠ atT (g.lg (nd j).term) ((q' : Int) + 1)))
    (hc : CC n g y.log y.commit y.term) : ∃ g', Ext g g' ∧ IOk n (updR nd j y) ml g' ∧ q ≤ g'.ack j (nd j).term := by
  have hx := h.nodes j hj.1 hj.2
  have hn : g.ld (nd j).term ≠ none := by rw [hld]; simp
  have hackT : (setAck g j (nd j).term q).ack j (nd j).term = max (g.ack j (nd j).term) q := if_pos ⟨rfl, rfl⟩
  have haccT : (setAck g j (nd j).term q).acc j = (nd j).term := if_pos rfl
  have hch : Chg g (setAck g j (nd j).term q) j (nd j).term := by
    refine ⟨⟨fun _ _ _ => rfl, fun _ _ => rfl, fun s _ => ⟨[], by simp [setAck], by simp⟩, fun k t => ?_⟩, fun _ _ _ => rfl, fun _ _ => rfl, fun hh => absurd rfl hh, fun _ _ _ _ => rfl, fun k t hh => if_neg (fun e => hh.elim (fun a => a e.1) (fun a => a e.2)), fun k hk => if_neg hk, fun _ _ => rfl⟩
    show g.ack k t ≤ if k = j ∧ t = (nd j).term then max (g.ack k t) q else g.ack k t
    split <;> omega
  have haccle : ∀ k, g.acc k ≤ (setAck g j (nd j).term q).acc k := fun k => by
    show g.acc k ≤ if k = j then (nd j).term else g.acc k
    split
    · rename_i hk; rw [hk]; exact hx.acc
    · exact Int.le_refl _
  -- y bears the first q of the leader's cells
  have hyq : q ≤ y.log.length ∧ y.log.take q = (g.lg (nd j).term).take q := by
    rcases hlog with ⟨a, b, c⟩ | ⟨a, _⟩
    · rw [a]; exact ⟨c, b⟩
    · rw [a, List.length_take, List.take_take, Nat.min_self]; exact ⟨by omega, rfl⟩
  -- what both bear stays
  have hboth : ∀ {t : Int} {p : Nat}, Has g (nd j).log t p → Has g (g.lg (nd j).term) t p → Has g y.log t p := fun {t p} a b => by
    rcases hlog with ⟨e, _, _⟩ | ⟨e, q', c1, c2, c3⟩
    · rw [e]; exact a
    · have hpq : p ≤ q' := by
        apply Classical.byContradiction
        intro hpq
        have h9 : (nd j).log.take p = (g.lg (nd j).term).take p := by rw [a.2, b.2]
        exact c3 (atT_eq_of_take (p := q' + 1) h9 (by omega))
      rw [e]
      exact ⟨by rw [List.length_take]; have := b.1; omega, by rw [List.take_take, Nat.min_eq_left (by omega)]; exact b.2⟩
  refine ⟨setAck g j (nd j).term q, hch.ext, h.move hch (fun s hs => hx.v1 s hs) ?_ ?_ (fun k _ _ _ _ _ a b => absurd b a) (by omega) (fun hr' _ => by omega), by rw [hackT]; omega⟩
  · refine ⟨h.gok.pos, h.gok.rng, h.gok.self, h.gok.qu, h.gok.rise, h.gok.good, fun k t hk => ?_, fun s i' hs => ?_, fun k => ?_, fun s hs => hch.comp h.gok (fun s hs => hx.v1 s hs) hs⟩
    · by_cases hkt : k = j ∧ t = (nd j).term
      · rw [hkt.1, hkt.2, hackT, haccT]
        refine ⟨Int.le_refl _, hn, ?_⟩
        show max (g.ack j (nd j).term) q ≤ (g.lg (nd j).term).length
        rcases Nat.eq_zero_or_pos (g.ack j (nd j).term) with h9 | h9
        · omega
        · have := (h.gok.ack _ _ h9).2.2; omega
      · have e : (setAck g j (nd j).term q).ack k t = g.ack k t := if_neg hkt
        rw [e] at hk ⊢
        have h9 := h.gok.ack k t hk
        have := haccle k
        exact ⟨by omega, h9.2⟩
    · have := h.gok.lacc s i' hs
      have := haccle i'
      omega
    · by_cases hkj : k = j
      · rw [hkj, haccT]; exact .inr hn
      · rw [hch.acc k hkj]; exact h.gok.acc k
  · refine ⟨hi, hl, h1.1.trans hx.id, h1.2.trans hx.nn, fun s hs => by rw [h2]; exact hx.v1 s hs, by rw [h2, h3]; exact hx.v2, fun hr' => by omega, fun hr' => by omega, fun s hs => ⟨by rw [h2]; exact (hx.was s hs).1, fun _ => by omega⟩, ?_, by rw [haccT]; omega, fun t p hv ha => ?_, fun hr' => by omega, hc.ext hch.ext (Int.le_refl _)⟩
    · refine Good.ext hch.ext ?_
      rcases hlog with ⟨e, _, _⟩ | ⟨e, _⟩
      · rw [e]; exact hx.good
      · rw [e]; exact (h.gok.good _ hn).take q
    · rw [haccT]
      have hup : Has g y.log t p ∨ Bad g t p (nd j).term → Has (setAck g j (nd j).term q) y.log t p ∨ Bad (setAck g j (nd j).term q) t p (nd j).term := fun hh => hh
      apply hup
      by_cases htT : t = (nd j).term
      · subst htT
        have hv0 : Val g (nd j).term p := hv
        have hL : Has g (g.lg (nd j).term) (nd j).term p := ⟨hv0.2.2.1, rfl⟩
        rcases ha with ha | ⟨ha, _⟩
        · rw [hackT] at ha
          by_cases hpq : p ≤ q
          · exact .inl ⟨by have := hyq.1; omega, take_less hyq.2 hpq⟩
          · rcases hx.a _ p hv0 (.inl (by omega)) with h9 | ⟨s, s1, s2, _⟩
            · exact .inl (hboth h9 hL)
            · have := hx.acc; omega
        · replace ha : g.ld (nd j).term = some j := ha
          rw [hld] at ha
          exact absurd (Option.some.inj ha) hij
      · obtain ⟨hv0, ha0⟩ := hch.back h.gok (.inr htT) hv ha
        have h9 := (ha0.val h.gok hv0.2.1).2.2
        have h10 := hx.acc
        rcases hx.a t p hv0 ha0 with h11 | h11
        · by_cases hb : Has g (g.lg (nd j).term) t p
          · exact .inl (hboth h11 hb)
          · exact .inr ⟨(nd j).term, by omega, Int.le_refl _, hn, hb⟩
        · exact .inr (h11.less h10)
theorem reply_ok (h : IOk n nd ml g) (hj : 1 ≤ j ∧ j ≤ n) {k at_ : Int} {ok : Bool} (hk : 1 ≤ k ∧ k ≤ n) (hkj : k ≠ j) (hT : 1 ≤ (nd j).term) (hok : ok = true → at_ ≤ (g.ack j (nd j).term : Int)) : ∀ q ∈ reply (nd j) k ok at_, MOk n g nd q := fun q hq => by
  have hx := h.nodes j hj.1 hj.2
  have : q = { Raft.mk (nd j) 4 k with ok := ok, index := at_ } := by simpa [reply] using hq
  subst this
  exact ⟨by show 1 ≤ (nd j).id ∧ (nd j).id ≤ n; rw [hx.id]; exact hj, hk, by show (nd j).id ≠ k; rw [hx.id]; omega, ⟨hT, by show (nd j).term ≤ (nd (nd j).id).term; rw [hx.id]; exact Int.le_refl _⟩, fun hk => absurd hk (by show ¬ (4 : Int) = 1; decide), fun hk => absurd hk (by show ¬ (4 : Int) = 2; decide), fun hk => absurd hk (by show ¬ (4 : Int) = 3; decide), fun _ ho => by show at_ ≤ (g.ack (nd j).id (nd j).term : Int); rw [hx.id]; exact hok ho⟩
theorem NOk.follow {x : Rn} (hx : NOk n g j x) (hr : x.role ≠ 2) (hi : RInv y) (hl : Ld y) (h1 : y.id = x.id ∧ y.n = x.n) (h2 : y.term = x.term) (h3 : y.vote = x.vote) (h4 : y.log = x.log) (h5 : y.role = 0) (h6 : y.commit = x.commit) : NOk n g j y := by
  refine ⟨hi, hl, h1.1.trans hx.id, h1.2.trans hx.nn, ?_, ?_, fun e => by omega, fun e => by omega, fun s hs => ⟨by rw [h2]; exact (hx.was s hs).1, fun _ => by omega⟩, ?_, ?_, ?_, fun e => by omega, ?_⟩
  · rw [h2]; exact hx.v1
  · rw [h2, h3]; exact hx.v2
  · rw [h4]; exact hx.good
  · rw [h2]; exact hx.acc
  · rw [h4]; exact hx.a
  · rw [h4, h6, h2]; exact hx.c
theorem IOk.fed {m : Ml} (h : IOk n nd ml g) (hj : 1 ≤ j ∧ j ≤ n) (hm : ml m) (hto : m.to_ = j) (hk : m.kind = 3) (hmk : mailOk (nd j).id (nd j).n m) (ht : m.term ≤ (nd j).term) : Stp n nd ml g j (fedS (nd j) m).1 (fedS (nd j) m).2 := by
  have hx := h.nodes j hj.1 hj.2
  have hmm := h.mails m hm
  have hif := hx.inv.fed hmk hk ht
  have hfr := hmm.fr
  have hne : m.fr ≠ j := by rw [← hto]; exact hmm.ne
  have hT1 : 1 ≤ (nd j).term := by have := hmm.term; omega
  have hlf : ∀ y : Rn, y.role = 0 → y.leader = m.fr → y.id = (nd j).id → Ld y := fun y a b c => ⟨fun e => by omega, fun e => by have := hx.id; omega⟩
  revert hif
  unfold fedS
  split
  · intro _
    exact ⟨g, Ext.refl g, by rw [updR_self]; exact h, by rw [updR_self]; exact reply_ok h hj hfr hne hT1 (fun e => by cases e)⟩
  · rename_i hlt
    have hT : m.term = (nd j).term := by omega
    split
    · exact fun _ => Stp.stay h
    · rename_i hr2
      have hfol : ∀ hi : RInv { nd j with role := 0, leader := m.fr, waited := 0 }, IOk n (updR nd j { nd j with role := 0, leader := m.fr, waited := 0 }) ml g := fun hi =>
        h.same hj (hx.follow hr2 hi (hlf _ rfl rfl rfl) ⟨rfl, rfl⟩ rfl rfl rfl rfl rfl) (Int.le_refl _) (fun hr _ => absurd hr (by show ¬ (0 : Int) = 1; decide))
      split
      · intro hi
        refine ⟨g, Ext.refl g, hfol hi, ?_⟩
        have := reply_ok (hfol hi) hj (k := m.fr) (at_ := min ((nd j).log.length : Int) (m.index - 1)) (ok := false) hfr hne (by rw [updR_same]; exact hT1) (fun e => by cases e)
        rwa [updR_same] at this
      · rename_i hgap
        split
        · exact fun hi => Stp.same (hfol hi)
        · rename_i log' hmg
          intro hi
          obtain ⟨k1, ⟨k2, k3⟩, k4, k5, k6, k7, k8⟩ := hmm.k3 hk
          rw [hT] at k1 k3 k4 k5 k7 k8
          have hn : g.ld (nd j).term ≠ none := by rw [k1]; simp
          obtain ⟨p, hp⟩ : ∃ p : Nat, m.index = p := ⟨m.index.toNat, by omega⟩
          rw [hp] at hmg k3 k4 k5 hgap
          rw [Int.toNat_natCast] at k5
          have hpl : p ≤ (nd j).log.length := by omega
          have hpe : atT (nd j).log p = m.prev := Decidable.not_not.1 fun hh => hgap (.inr hh)
          have hgl := h.gok.good _ hn
          have htk : (nd j).log.take p = (g.lg (nd j).term).take p := hx.good.meet hgl hpl (by omega) (by rw [hpe, k4])
          have hcs : ∀ c ∈ m.cells, 1 ≤ c.term := fun c hc => by
            rw [k5] at hc
            exact (rises_mem (h.gok.rise _ hn) c (List.mem_of_mem_drop (List.mem_of_mem_take hc))).1
          have hml := merge_lead hx.good hgl htk hpl (by omega) k5 hcs hmg
          have hq : p + m.cells.length ≤ (g.lg (nd j).term).length := by omega
          have hrs := mergeS_spec (prev := m.prev) hx.inv.rise hpl hpe (rises_more (fed_facts hx.inv hmk hk).2.2.2.2.2 ht) hx.inv.commit.1 hmg
          have hlq : log'.take (p + m.cells.length) = (g.lg (nd j).term).take (p + m.cells.length) := by
            rcases hml with ⟨a, b, _⟩ | ⟨a, _⟩
            · rw [a]; exact b
            · rw [a, List.take_take, Nat.min_self]
          have hcc : CC n g log' (max (nd j).commit (min m.commit (m.index + (m.cells.length : Int)))) (nd j).term := by
            rcases Int.le_total (min m.commit (m.index + (m.cells.length : Int))) (nd j).commit with h9 | h9
            · rw [Int.max_eq_left h9]; exact hx.c.log hrs.2.2.1
            · rw [Int.max_eq_right h9]
              have hcm0 := hx.inv.commit.1
              rcases k8 with h10 | ⟨t, p', a, b, c, d⟩
              · exact .inl (by omega)
              · have e1 : (min m.commit (m.index + (m.cells.length : Int))).toNat ≤ p + m.cells.length := by omega
                have e2 : (min m.commit (m.index + (m.cells.length : Int))).toNat ≤ m.commit.toNat := by omega
                refine .inr ⟨t, p', a, b, by omega, ?_⟩
                rw [take_less hlq e1]
                exact take_less d e2
          obtain ⟨g', e1, e2, e3⟩ := h.accept (y := { nd j with role := 0, leader := m.fr, waited := 0, log := log', commit := max (nd j).commit (min m.commit (m.index + m.cells.length)) }) hj (q := p + m.cells.length) rfl hr2 hi (hlf _ rfl rfl rfl) ⟨rfl, rfl⟩ rfl rfl k1 hne hq hT1 (hml.imp id fun ⟨a, q', c1, c2, c3⟩ => ⟨a, q', c1, c2, c3⟩) hcc
          refine ⟨g', e1, e2, ?_⟩
          have := reply_ok e2 hj (k := m.fr) (at_ := m.index + (m.cells.length : Int)) (ok := true) hfr hne (by rw [updR_same]; exact hT1) (fun _ => by rw [updR_same]; show _ ≤ (g'.ack j (nd j).term : Int); omega)
          rwa [updR_same] at this
theorem IOk.answered {m : Ml} (h : IOk n nd ml g) (hj : 1 ≤ j ∧ j ≤ n) (hm : ml m) (hto : m.to_ = j) (hk : m.kind = 4) (hmk : mailOk (nd j).id (nd j).n m) : Stp n nd ml g j (answeredS (nd j) m).1 (answeredS (nd j) m).2 := by
  have hx := h.nodes j hj.1 hj.2
  have hmm := h.mails m hm
  have hif := hx.inv.answered (m := m) hmk.1.2.2.2.2.2.2.1
  have hko : m.fr ∈ others (nd j) := oth_mem.2 ⟨hmk.1.1, by have h1 := hx.inv.n; have h2 := hmk.1.2.1; omega, hmk.1.2.2.1⟩
  revert hif
  unfold answeredS
  split
  · exact fun _ => Stp.stay h
  · rename_i hc
    have hr : (nd j).role = 2 := by omega
    have hT : m.term = (nd j).term := by omega
    obtain ⟨l1, l2, l3, l4⟩ := hx.lead hr
    have hpe := hx.inv.peers hr m.fr
    split
    · intro hi
      have h1 := h.congr hj hi hx.ld ⟨rfl, rfl⟩ rfl rfl rfl rfl rfl rfl rfl
      refine ⟨g, Ext.refl g, h1, fun q hq => ?_⟩
      have : q = _ := List.mem_singleton.1 hq
      have h2 := feed_ok h1 hj (k := m.fr) (by rw [updR_same]; exact hr) (by rw [updR_same]; exact hko) (by
        rw [updR_same]
        show 1 ≤ upd _ _ _ _ ∧ upd _ _ _ _ ≤ ((nd j).log.length : Int) + 1
        unfold upd; rw [if_pos rfl]; omega)
      rw [updR_same] at h2
      rw [this]; exact h2
    · rename_i ho
      have ho' : m.ok = true := by simpa using ho
      have hack := hmm.k4 hk ho'
      rw [hT] at hack
      dsimp only
      have hy : ∀ hi : RInv { nd j with mt := upd (nd j).mt m.fr (max ((nd j).mt m.fr) m.index), nx := upd (nd j).nx m.fr (max ((nd j).mt m.fr) m.index + 1) }, IOk n (updR nd j (countS { nd j with mt := upd (nd j).mt m.fr (max ((nd j).mt m.fr) m.index), nx := upd (nd j).nx m.fr (max ((nd j).mt m.fr) m.index + 1) })) ml g := fun hi => by
        have h1 : IOk n (updR nd j { nd j with mt := upd (nd j).mt m.fr (max ((nd j).mt m.fr) m.index), nx := upd (nd j).nx m.fr (max ((nd j).mt m.fr) m.index + 1) }) ml g := by
          refine h.same hj ⟨hi, hx.ld, hx.id, hx.nn, hx.v1, hx.v2, hx.cand, fun _ => ⟨l1, l2, l3, fun k => ?_⟩, hx.was, hx.good, hx.acc, hx.a, hx.b, hx.c⟩ (Int.le_refl _) (fun hr _ => ⟨hr, rfl⟩)
          show upd (nd j).mt m.fr (max ((nd j).mt m.fr) m.index) k ≤ (g.ack k (nd j).term : Int)
          unfold upd
          split
          · rename_i hk'; rw [hk']; have := l4 m.fr; omega
          · exact l4 k
        have h2 := h1.count hj (by rw [updR_same]; exact hr)
        rwa [updR_same, updR_updR] at h2
      have hiy : RInv { nd j with mt := upd (nd j).mt m.fr (max ((nd j).mt m.fr) m.index), nx := upd (nd j).nx m.fr (max ((nd j).mt m.fr) m.index + 1) } := by
        refine ⟨hx.inv.n, hx.inv.id, hx.inv.term, hx.inv.vote, hx.inv.log, hx.inv.rise, hx.inv.role, hx.inv.lead, hx.inv.commit, hx.inv.waited, hx.inv.since, hx.inv.voted, fun _ k => ?_⟩
        have hpk := hx.inv.peers hr k
        show 0 ≤ upd _ _ _ k ∧ upd _ _ _ k + 1 ≤ upd _ _ _ k ∧ upd _ _ _ k ≤ ((nd j).log.length : Int) + 1
        unfold upd
        split
        · rename_i hk; subst hk; omega
        · exact hpk
      have h1 := hy hiy
      split
      · exact fun _ => Stp.same h1
      · intro _
        refine ⟨g, Ext.refl g, h1, fun q hq => ?_⟩
        have : q = _ := List.mem_singleton.1 hq
        have h2 := feed_ok h1 hj (k := m.fr) (by rw [updR_same]; exact hr) (by rw [updR_same]; exact hko) (by
          rw [updR_same]
          show 1 ≤ upd _ _ _ _ ∧ upd _ _ _ _ ≤ ((nd j).log.length : Int) + 1
          unfold upd; rw [if_pos rfl]; omega)
        rw [updR_same] at h2
        rw [this]; exact h2
theorem IOk.take {m : Ml} (h : IOk n nd ml g) (hj : 1 ≤ j ∧ j ≤ n) (hm : ml m) (hto : m.to_ = j) : Stp n nd ml g j (takeS (nd j) m).1 (takeS (nd j) m).2 := by
  unfold takeS
  split
  · rename_i hmk
    have h1 := h.step hj hmk
    have hmk2 : mailOk (updR nd j (stepS m (nd j)) j).id (updR nd j (stepS m (nd j)) j).n m := by rw [updR_same, stepS_idn.1, stepS_idn.2]; exact hmk
    have ht : m.term ≤ (updR nd j (stepS m (nd j)) j).term := by rw [updR_same]; exact stepS_term
    split
    · rename_i hk
      have := h1.asked hj hm hto hk hmk2 ht
      rw [updR_same] at this
      exact Stp.then (Ext.refl g) this
    · split
      · rename_i _ hk
        have := h1.votes hj hm hto hk
        rw [updR_same] at this
        exact Stp.then (Ext.refl g) this
      · split
        · rename_i _ _ hk
          have := h1.fed hj hm hto hk hmk2 ht
          rw [updR_same] at this
          exact Stp.then (Ext.refl g) this
        · rename_i a b c
          have hk : m.kind = 4 := by
            rcases hmk.2 with h9 | h9 | ⟨h9 | h9, _⟩
            · exact absurd h9 b
            · exact h9
            · exact absurd h9 a
            · exact absurd h9 c
          have := h1.answered hj hm hto hk hmk2
          rw [updR_same] at this
          exact Stp.then (Ext.refl g) this
  · exact Stp.stay h
theorem IOk.propose {d : ByteArray} (h : IOk n nd ml g) (hj : 1 ≤ j ∧ j ≤ n) (hp : proposeE (nd j) d = 0) : Stp n nd ml g j (proposeS (nd j) d).1 (proposeS (nd j) d).2 := by
  have hx := h.nodes j hj.1 hj.2
  have hpo := propose_ok hp
  have hr := hpo.2.2.1
  obtain ⟨g', h1, h2⟩ := h.append (y := addS d (nd j)) hj (e := [⟨(nd j).term, d⟩]) hr (hx.inv.add hr hpo.2.2.2 hpo.2.1) hx.ld ⟨rfl, rfl⟩ rfl rfl rfl hr rfl (fun _ => rfl) (by intro c hc; rcases List.mem_singleton.1 hc with rfl; rfl)
  have h3 := h2.count hj (by rw [updR_same]; exact hr)
  rw [updR_same, updR_updR] at h3
  have h4 := h3.feedAll hj (by rw [updR_same]; exact hr)
  rw [updR_same] at h4
  exact Stp.then h1 h4
theorem IOk.again (h : IOk n nd ml g) (hj : 1 ≤ j ∧ j ≤ n) (hi : RInv (againS (nd j))) : IOk n (updR nd j (againS (nd j))) ml g := by
  have hx := h.nodes j hj.1 hj.2
  refine h.same hj ⟨hi, Ld.new hx.inv.id.1, hx.id, hx.nn, hx.v1, hx.v2, fun e => absurd e (by show ¬ (0 : Int) = 1; decide), fun e => absurd e (by show ¬ (0 : Int) = 2; decide), fun s hs => ⟨(hx.was s hs).1, fun _ => by show ¬ (0 : Int) = 1; decide⟩, hx.good, hx.acc, hx.a, fun e => absurd e (by show ¬ (0 : Int) = 1; decide), .inl rfl⟩ (Int.le_refl _) (fun e _ => absurd e (by show ¬ (0 : Int) = 1; decide))
end
end Go.Raft
end
section
set_option linter.unusedVariables false
set_option linter.unusedSimpArgs false
set_option maxRecDepth 4000
namespace Go.Council
open Go.Raft Go.Journal Go.Pack Go.Sl Go.Proofs.Ytigjompojlhomaa

/-- a manager's node, up or as it will begin -/
def lgN (i n : Int) (m : Mg) : Rn := match m.node with
  | some x => x
  | none => newR i n (stab m.rs).term (stab m.rs).vote (stab m.rs).log
def ndC (n : Int) (l : List Mg) (j : Int) : Rn := if h : 1 ≤ j ∧ (j - 1).toNat < l.length then lgN j n l[(j - 1).toNat] else newR 0 0 0 0 []
theorem ndC_at {n : Int} {l : List Mg} {j : Nat} {m : Mg} (h : l[j]? = some m) : ndC n l ((j : Int) + 1) = lgN ((j : Int) + 1) n m := by
  have hj := (List.getElem?_eq_some_iff.1 h).1
  have e : ((j : Int) + 1 - 1).toNat = j := by omega
  unfold ndC
  rw [dif_pos ⟨by omega, by rw [e]; exact hj⟩]
  congr 1
  have := (List.getElem?_eq_some_iff.1 h).2
  simp only [e]
  exact this
theorem ndC_set {n : Int} {l : List Mg} {j : Nat} {m : Mg} (hj : j < l.length) : ndC n (l.set j m) = updR (ndC n l) ((j : Int) + 1) (lgN ((j : Int) + 1) n m) := by
  funext k
  unfold updR
  by_cases hk : k = (j : Int) + 1
  · rw [if_pos hk, hk, ndC_at (m := m) (by rw [List.getElem?_set_self hj])]
  · rw [if_neg hk]
    unfold ndC
    by_cases h : 1 ≤ k ∧ (k - 1).toNat < l.length
    · rw [dif_pos h, dif_pos ⟨h.1, by rw [List.length_set]; exact h.2⟩]
      congr 1
      rw [List.getElem_set_ne (by omega)]
    · rw [dif_neg h, dif_neg (by rw [List.length_set]; exact h)]
/-- all that is known of a council -/
structure CI (K : Nat) (S : CS) (g : Gh) : Prop where
  n : 1 ≤ S.ms.length ∧ S.ms.length ≤ 5
  mg : ∀ (j : Nat) (m : Mg), S.ms[j]? = some m → MgOk S.ms.length ((j : Int) + 1) K m
  mails : S.mails.length ≤ 256
  iok : IOk S.ms.length (ndC S.ms.length S.ms) (fun m => m ∈ S.mails) g
theorem CI.mono {K : Nat} {S : CS} {g : Gh} (h : CI K S g) : CI (K + 1) S g := ⟨h.n, fun j m hm => (h.mg j m hm).mono, h.mails, h.iok⟩
theorem iokL {n : Int} {nd : Int → Rn} {ml ml' : Ml → Prop} {g : Gh} (h : IOk n nd ml g) (hs : ∀ m, ml' m → ml m) : IOk n nd ml' g := ⟨h.gok, h.nodes, fun m hm => h.mails m (hs m hm)⟩
theorem sendM_le {ms out : List Ml} (h : ms.length ≤ 256) : (sendM ms out).length ≤ 256 := by unfold sendM; rw [List.length_append, List.length_take]; omega
theorem sendM_mem {ms out : List Ml} {m : Ml} (h : m ∈ sendM ms out) : m ∈ ms ∨ m ∈ out := by
  unfold sendM at h
  rcases List.mem_append.1 h with h | h
  · exact .inl h
  · exact .inr (List.mem_of_mem_take h)
theorem again_of {i n : Int} {y : Rn} {s : St} (hi : y.id = i ∧ y.n = n) (hs : stOf y = s) : newR i n s.term s.vote s.log = againS y := by
  subst hs; unfold againS stOf; rw [hi.1, hi.2]
theorem againS_stable {y : Rn} (h : RInv y) : RInv (againS y) := by
  have := h.stable
  exact RInv.new this
/-- a step of a manager that is up -/
theorem CI.step {K : Nat} {S : CS} {g : Gh} {j : Nat} {m : Mg} {x : Rn} {y : Rn} {out : List Ml} {mails : List Ml} (h : CI K S g) (hK : K ≤ 505) (hj : S.ms[j]? = some m) (hx : m.node = some x) (hs : Stp S.ms.length (ndC S.ms.length S.ms) (fun m => m ∈ S.mails) g ((j : Int) + 1) y out) (hw : Wr x.log y.log) (hwt : y.waited ≤ x.waited + 1 ∨ y.waited ≤ 0) (hsub : ∀ q ∈ mails, q ∈ S.mails) (hml : mails.length ≤ 256) :
    ∃ g', Ext g g' ∧ CI (K + 1) ⟨S.ms.set j (stepM x y m).1, if (stepM x y m).2 = true then sendM mails out else mails⟩ g' := by
  have hjl := (List.getElem?_eq_some_iff.1 hj).1
  have hm := h.mg j m hj
  obtain ⟨u1, u2, u3, u4, u5⟩ := hm.up x hx
  obtain ⟨g', he, hi, ho⟩ := hs
  have hjn : 1 ≤ (j : Int) + 1 ∧ (j : Int) + 1 ≤ (S.ms.length : Int) := by omega
  have hlg : lgN ((j : Int) + 1) S.ms.length m = x := by unfold lgN; rw [hx]
  have hnx : ndC S.ms.length S.ms ((j : Int) + 1) = x := by rw [ndC_at hj, hlg]
  have hny := hi.nodes _ hjn.1 hjn.2
  rw [updR_same] at hny
  have hok : MgOk S.ms.length ((j : Int) + 1) (K + 1) (stepM x y m).1 := hm.step hx hK hny.inv ⟨hny.id, hny.nn⟩ (by have := h.n; omega) hw (by rcases hwt with h | h <;> omega)
  have hlen : (S.ms.set j (stepM x y m).1).length = S.ms.length := List.length_set
  have hmg : ∀ (k : Nat) (q : Mg), (S.ms.set j (stepM x y m).1)[k]? = some q → MgOk S.ms.length ((k : Int) + 1) (K + 1) q := fun k q hq => by
    by_cases hk : k = j
    · subst hk
      rw [List.getElem?_set_self hjl] at hq
      cases hq; exact hok
    · rw [List.getElem?_set_ne (fun e => hk e.symm)] at hq
      exact (h.mg k q hq).mono
  -- what its node is then
  have hcase : (lgN ((j : Int) + 1) S.ms.length (stepM x y m).1 = y) ∨ ((stepM x y m).2 = false ∧ (lgN ((j : Int) + 1) S.ms.length (stepM x y m).1 = againS x ∨ lgN ((j : Int) + 1) S.ms.length (stepM x y m).1 = againS y)) := by
    unfold stepM
    split
    · exact .inl rfl
    · unfold saveS
      split
      · exact .inl rfl
      · refine .inr ⟨rfl, ?_⟩
        show newR _ _ _ _ _ = _ ∨ newR _ _ _ _ _ = _
        dsimp only
        split
        · exact .inr (again_of ⟨hny.id, hny.nn⟩ (by rw [stab_snoc, ← u4, apply_chg]))
        · exact .inl (again_of u3 u4)
  rcases hcase with hc | ⟨hf, hc | hc⟩
  · refine ⟨g', he, by rw [hlen]; exact h.n, by rw [hlen]; exact hmg, ?_, ?_⟩
    · dsimp only; split
      · exact sendM_le hml
      · exact hml
    · rw [hlen, ndC_set hjl, hc]
      refine ⟨hi.gok, hi.nodes, fun q hq => ?_⟩
      dsimp only at hq
      split at hq
      · rcases sendM_mem hq with hq | hq
        · exact hi.mails q (hsub q hq)
        · exact ho q hq
      · exact hi.mails q (hsub q hq)
  · refine ⟨g, Ext.refl g, by rw [hlen]; exact h.n, by rw [hlen]; exact hmg, ?_, ?_⟩
    · dsimp only; rw [if_neg (by rw [hf]; decide)]; exact hml
    · dsimp only
      rw [hlen, ndC_set hjl, hc, if_neg (by rw [hf]; decide)]
      have := h.iok.again hjn (by rw [hnx]; exact againS_stable u2)
      rw [hnx] at this
      exact iokL this hsub
  · refine ⟨g', he, by rw [hlen]; exact h.n, by rw [hlen]; exact hmg, ?_, ?_⟩
    · dsimp only; rw [if_neg (by rw [hf]; decide)]; exact hml
    · dsimp only
      rw [hlen, ndC_set hjl, hc, if_neg (by rw [hf]; decide)]
      have := hi.again hjn (by rw [updR_same]; exact againS_stable hny.inv)
      rw [updR_same, updR_updR] at this
      exact iokL this hsub
/-- a step that writes nothing and keeps the node, or lets it begin anew -/
theorem CI.put {K : Nat} {S : CS} {g : Gh} {j : Nat} {m m' : Mg} (h : CI K S g) (hj : S.ms[j]? = some m) (hm : MgOk S.ms.length ((j : Int) + 1) (K + 1) m') (hl : lgN ((j : Int) + 1) S.ms.length m' = lgN ((j : Int) + 1) S.ms.length m ∨ lgN ((j : Int) + 1) S.ms.length m' = againS (lgN ((j : Int) + 1) S.ms.length m)) : CI (K + 1) (putM S j m') g := by
  have hjl := (List.getElem?_eq_some_iff.1 hj).1
  have hjn : 1 ≤ (j : Int) + 1 ∧ (j : Int) + 1 ≤ (S.ms.length : Int) := by omega
  have hlen : (S.ms.set j m').length = S.ms.length := List.length_set
  have hnx := ndC_at (n := S.ms.length) hj
  have hno := h.iok.nodes _ hjn.1 hjn.2
  unfold putM
  refine ⟨by rw [hlen]; exact h.n, ?_, h.mails, ?_⟩
  · rw [hlen]
    intro k q hq
    by_cases hk : k = j
    · subst hk
      dsimp only at hq
      rw [List.getElem?_set_self hjl] at hq
      cases hq; exact hm
    · dsimp only at hq
      rw [List.getElem?_set_ne (fun e => hk e.symm)] at hq
      exact (h.mg k q hq).mono
  · dsimp only
    rw [hlen, ndC_set hjl]
    rcases hl with hl | hl
    · rw [hl, ← hnx, updR_self]; exact h.iok
    · rw [hl, ← hnx]
      exact h.iok.again hjn (againS_stable hno.inv)
theorem CI.lose {K : Nat} {S : CS} {g : Gh} {mails : List Ml} (h : CI K S g) (hsub : ∀ q ∈ mails, q ∈ S.mails) (hl : mails.length ≤ 256) : CI K ⟨S.ms, mails⟩ g := ⟨h.n, h.mg, hl, iokL h.iok hsub⟩
theorem CI.node {K : Nat} {S : CS} {g : Gh} {j : Nat} {m : Mg} {x : Rn} (h : CI K S g) (hj : S.ms[j]? = some m) (hx : m.node = some x) : NOk S.ms.length g ((j : Int) + 1) x ∧ ndC S.ms.length S.ms ((j : Int) + 1) = x := by
  have hjl := (List.getElem?_eq_some_iff.1 hj).1
  have := h.iok.nodes ((j : Int) + 1) (by omega) (by omega)
  have e : ndC S.ms.length S.ms ((j : Int) + 1) = x := by rw [ndC_at hj]; unfold lgN; rw [hx]
  rw [e] at this
  exact ⟨this, e⟩
/-- a step of any kind of a manager -/
theorem CI.stepC {K : Nat} {S : CS} {g : Gh} {i : Nat} {f : Rn → Rn × List Ml} {mails : List Ml} (h : CI K S g) (hK : K ≤ 505) (hsub : ∀ q ∈ mails, q ∈ S.mails) (hml : mails.length ≤ 256)
    (hf : ∀ (m : Mg) (x : Rn), S.ms[i]? = some m → m.node = some x → Stp S.ms.length (ndC S.ms.length S.ms) (fun m => m ∈ S.mails) g ((i : Int) + 1) (f x).1 (f x).2 ∧ Wr x.log (f x).1.log ∧ ((f x).1.waited ≤ x.waited + 1 ∨ (f x).1.waited ≤ 0)) :
    ∃ g', Ext g g' ∧ CI (K + 1) (Council.stepC i f ⟨S.ms, mails⟩).1 g' := by
  unfold Council.stepC
  dsimp only
  cases hm : S.ms[i]? with
  | none => exact ⟨g, Ext.refl g, (h.lose hsub hml).mono⟩
  | some m =>
    dsimp only
    cases hx : m.node with
    | none => exact ⟨g, Ext.refl g, (h.lose hsub hml).mono⟩
    | some x =>
      obtain ⟨h1, h2, h3⟩ := hf m x hm hx
      exact h.step hK hm hx h1 h2 h3 hsub hml
theorem openM_lg {i n : Int} {m : Mg} : lgN i n (openM i n m) = newR i n (stab m.rs).term (stab m.rs).vote (stab m.rs).log := by
  unfold openM
  split <;> rfl
theorem take_waited {x : Rn} {m : Ml} : (takeS x m).1.waited ≤ x.waited + 1 ∨ (takeS x m).1.waited ≤ 0 := (Kin.take x m).more.2.2
/-- any act -/
theorem CI.act {K : Nat} {S : CS} {g : Gh} {k i n keep : Int} (h : CI K S g) (hK : K ≤ 505) (hn : n ≤ 9223372036854775807) : ∃ g', Ext g g' ∧ CI (K + 1) (actC k i n keep S).1 g' := by
  unfold actC
  split
  · split
    · rename_i hmem
      obtain ⟨q, hq⟩ : ∃ q, q = S.mails.getD n.toNat ⟨0, 0, 0, 0, 0, 0, 0, false, []⟩ := ⟨_, rfl⟩
      have hqm : q ∈ S.mails := by
        rw [hq, List.getD_eq_getElem?_getD, List.getElem?_eq_getElem (by omega)]
        exact List.getElem_mem _
      rw [← hq]
      have hsub : ∀ r ∈ (if k = 3 then S.mails else S.mails.eraseIdx n.toNat), r ∈ S.mails := fun r hr => by
        split at hr
        · exact hr
        · exact List.mem_of_mem_eraseIdx hr
      have hml : (if k = 3 then S.mails else S.mails.eraseIdx n.toNat).length ≤ 256 := by
        have := h.mails
        split
        · exact this
        · exact Nat.le_trans (List.length_eraseIdx_le _ _) this
      have hS1 : (if k = 3 then S else ⟨S.ms, S.mails.eraseIdx n.toNat⟩ : CS) = ⟨S.ms, if k = 3 then S.mails else S.mails.eraseIdx n.toNat⟩ := by split <;> rfl
      dsimp only
      rw [hS1]
      split
      · exact ⟨g, Ext.refl g, (h.lose hsub hml).mono⟩
      · split
        · rename_i hto
          refine h.stepC hK hsub hml fun m x hm hx => ?_
          obtain ⟨h1, h2⟩ := h.node hm hx
          have hl := (List.getElem?_eq_some_iff.1 hm).1
          have := h.iok.take (j := (((q.to_ - 1).toNat : Nat) : Int) + 1) ⟨by omega, by omega⟩ hqm (by omega)
          rw [h2] at this
          exact ⟨this, take_wr x q, take_waited⟩
        · exact ⟨g, Ext.refl g, (h.lose hsub hml).mono⟩
    · exact ⟨g, Ext.refl g, h.mono⟩
  · split
    · rename_i hi
      cases hm : S.ms[(i - 1).toNat]? with
      | none => exact ⟨g, Ext.refl g, h.mono⟩
      | some m =>
        have hid : (((i - 1).toNat : Nat) : Int) + 1 = i := by omega
        have hmo := h.mg _ m hm
        dsimp only
        split
        · refine h.stepC (mails := S.mails) hK (fun _ h => h) h.mails fun m x hm hx => ?_
          obtain ⟨h1, h2⟩ := h.node hm hx
          have := h.iok.tick (j := (((i - 1).toNat : Nat) : Int) + 1) ⟨by omega, by omega⟩
          rw [h2] at this
          exact ⟨this, tick_wr x, (tick_id x).2.2⟩
        · split
          · exact ⟨g, Ext.refl g, h.put hm (hmo.arm hn).mono (.inl rfl)⟩
          · split
            · refine ⟨g, Ext.refl g, h.put hm hmo.off.mono (.inr ?_)⟩
              unfold lgN
              dsimp only
              cases hx : m.node with
              | none => rfl
              | some x => obtain ⟨u1, u2, u3, u4, u5⟩ := hmo.up x hx; exact again_of u3 u4
            · split
              · split
                · rename_i hnn
                  have hnone : m.node = none := by cases hx : m.node with
                    | none => rfl
                    | some x => rw [hx] at hnn; cases hnn
                  have ho := hmo.open_ hnone
                  rw [hid] at ho
                  refine ⟨g, Ext.refl g, h.put hm (by rw [hid]; exact ho) (.inl ?_)⟩
                  rw [hid, openM_lg]
                  unfold lgN
                  rw [hnone]
                · exact ⟨g, Ext.refl g, h.mono⟩
              · exact ⟨g, Ext.refl g, h.mono⟩
    · exact ⟨g, Ext.refl g, h.mono⟩
theorem CI.prop {K : Nat} {S : CS} {g : Gh} {i : Int} {d : ByteArray} (h : CI K S g) (hK : K ≤ 505) : ∃ g', Ext g g' ∧ CI (K + 1) (propC i d S).1 g' := by
  unfold propC
  split
  · exact ⟨g, Ext.refl g, h.mono⟩
  · rename_i hi
    cases hm : S.ms[(i - 1).toNat]? with
    | none => exact ⟨g, Ext.refl g, h.mono⟩
    | some m =>
      dsimp only
      cases hx : m.node with
      | none => exact ⟨g, Ext.refl g, h.mono⟩
      | some x =>
        dsimp only
        split
        · exact ⟨g, Ext.refl g, h.mono⟩
        · rename_i hp
          have key : ∃ g', Ext g g' ∧ CI (K + 1) (Council.stepC (i - 1).toNat (fun x => proposeS x d) S).1 g' := by
            refine h.stepC (mails := S.mails) hK (fun _ h => h) h.mails fun m' x' hm' hx' => ?_
            have e1 : m' = m := by rw [hm] at hm'; exact (Option.some.inj hm').symm
            subst e1
            have e2 : x' = x := by rw [hx] at hx'; exact (Option.some.inj hx').symm
            subst e2
            obtain ⟨h1, h2⟩ := h.node hm hx
            have := h.iok.propose (d := d) (j := (((i - 1).toNat : Nat) : Int) + 1) ⟨by omega, by omega⟩ (by rw [h2]; exact Decidable.not_not.1 hp)
            rw [h2] at this
            exact ⟨this, prop_wr x' d, by rcases (Kin.propose x' d).2.2 with h | h; exact .inl (by omega); exact .inr h⟩
          split
          · exact key
          · exact key
theorem start_ok {n k : Nat} (hn : n ≤ 5) (hk : k < n) : newOk ((k : Int) + 1) n 0 0 [] := ⟨by omega, by omega, by omega, by omega, by unfold mayS; exact ⟨Int.le_refl _, by decide, Int.le_refl _, by omega, by decide, rfl⟩⟩
def gh0 : Gh := ⟨fun _ _ => 0, fun _ => none, fun _ => [], fun _ => [], fun _ _ => 0, fun _ => 0⟩
theorem gh0_ok (n : Int) : GOk n gh0 := by
  refine ⟨fun s h => absurd rfl h, fun s j h => (by cases h), fun k s h => absurd rfl h, fun s j h => (by cases h), fun s h => absurd rfl h, fun s h => absurd rfl h, fun j t h => absurd h (Nat.lt_irrefl 0), fun s j h => (by cases h), fun j => .inl rfl, fun s h => absurd rfl h⟩
theorem start_node {n k : Nat} (hn : n ≤ 5) (hk : k < n) : NOk n gh0 ((k : Int) + 1) (newR ((k : Int) + 1) n 0 0 []) := by
  refine ⟨RInv.new (start_ok hn hk), Ld.new (by omega), rfl, rfl, fun s h => absurd rfl h, rfl, fun h => absurd h (by show ¬ (0 : Int) = 1; decide), fun h => absurd h (by show ¬ (0 : Int) = 2; decide), fun s h => (by cases h), fun p h1 h2 => absurd h2 (by show ¬ p ≤ 0; omega), Int.le_refl _, fun t p h => absurd rfl h.1, fun h => absurd h (by show ¬ (0 : Int) = 1; decide), .inl rfl⟩
/-- n managers that begin -/
def freshC (n : Nat) : CS := ⟨(List.range n).map fun i : Nat => ⟨newD, some (newR ((i : Int) + 1) n 0 0 []), []⟩, []⟩
theorem freshC_at {n j : Nat} {m : Mg} (h : (freshC n).ms[j]? = some m) : m = ⟨newD, some (newR ((j : Int) + 1) n 0 0 []), []⟩ ∧ j < n := by
  unfold freshC at h
  dsimp only at h
  rw [List.getElem?_map] at h
  by_cases hj : j < n
  · rw [List.getElem?_range hj] at h
    exact ⟨(Option.some.inj h).symm, hj⟩
  · rw [List.getElem?_eq_none (by rw [List.length_range]; omega)] at h; cases h
theorem freshC_len (n : Nat) : (freshC n).ms.length = n := by simp [freshC]
theorem CI.fresh {n : Nat} (h1 : 1 ≤ n) (h5 : n ≤ 5) : CI 0 (freshC n) gh0 := by
  have hl := freshC_len n
  refine ⟨by rw [hl]; exact ⟨h1, h5⟩, fun j m hm => ?_, Nat.zero_le _, ?_⟩
  · obtain ⟨rfl, hj⟩ := freshC_at hm
    rw [hl]
    exact MgOk.fresh ⟨by omega, by omega⟩ ⟨by omega, by omega⟩
  · rw [hl]
    refine ⟨gh0_ok _, fun j hj1 hjn => ?_, fun m hm => by cases hm⟩
    have hjl : (j - 1).toNat < n := by omega
    have e : j = (((j - 1).toNat : Nat) : Int) + 1 := by omega
    have hm : (freshC n).ms[(j - 1).toNat]? = some ⟨newD, some (newR ((((j - 1).toNat : Nat) : Int) + 1) n 0 0 []), []⟩ := by
      unfold freshC; dsimp only; rw [List.getElem?_map, List.getElem?_range hjl]; rfl
    rw [e, ndC_at hm]
    exact start_node h5 hjl
/-! ### What is watched -/
/-- who led, what was committed, in which term that was seen: all of it is so -/
structure WI (n : Int) (g : Gh) (led : List (Int × Int)) (done : List Cl) (seen : List Int) : Prop where
  led : ∀ e ∈ led, g.ld e.1 = some e.2
  len : seen.length = done.length
  done : ∀ (k : Nat) (v : Int), k < done.length → seen[k]? = some v → ∃ t p, Cm n g t p ∧ t ≤ v ∧ k < p ∧ done.take (k + 1) = (g.lg t).take (k + 1)
section
variable {n : Int} {g g' : Gh} {led : List (Int × Int)} {done : List Cl} {seen : List Int} {j : Int} {x : Rn}
theorem WI.nil : WI n g [] [] [] := ⟨fun e he => (by cases he), rfl, fun k v hk => absurd hk (Nat.not_lt_zero k)⟩
theorem WI.ext (h : WI n g led done seen) (he : Ext g g') : WI n g' led done seen := by
  refine ⟨fun e hm => ?_, h.len, fun k v hk hv => ?_⟩
  · have h2 := h.led e hm
    rw [he.ld e.1 (by rw [h2]; simp)]; exact h2
  · obtain ⟨t, p, hcm, htv, hkp, htk⟩ := h.done k v hk hv
    exact ⟨t, p, hcm.ext he, htv, hkp, by rw [htk, he.lgTake hcm.1.1 (by have := hcm.1.2.2.1; omega)]⟩
theorem at_takeC {l m : List Cl} {k : Nat} (h : l.take (k + 1) = m.take (k + 1)) : l[k]? = m[k]? := by
  have := congrArg (fun l => l[k]?) h
  simpa only [List.getElem?_take, if_pos (Nat.lt_succ_self k)] using this
theorem WI.led_ok (h : WI n g led done seen) (hx : NOk n g j x) (hr : x.role = 2) : ∀ e ∈ led, e.1 = x.term → e.2 = j := fun e he h1 => by
  have h2 := h.led e he
  have h3 := (hx.lead hr).1
  rw [h1, h3] at h2
  exact (Option.some.inj h2).symm
theorem WI.led_done (hg : GOk n g) (h : WI n g led done seen) (hx : NOk n g j x) (hr : x.role = 2) : ∀ (k : Nat) (c : Cl) (v : Int), done[k]? = some c → seen[k]? = some v → v < x.term → x.log[k]? = some c := fun k c v hc hv hlt => by
  obtain ⟨t, p, hcm, htv, hkp, htk⟩ := h.done k v (List.getElem?_eq_some_iff.1 hc).1 hv
  have h3 := hx.lead hr
  have h4 := hcm.leader hg (by omega) (by rw [h3.1]; simp : g.ld x.term ≠ none)
  rw [h3.2.1] at h4
  have h5 : x.log.take (k + 1) = (g.lg t).take (k + 1) := take_less h4.2 (by omega)
  rw [at_takeC (h5.trans htk.symm), hc]
theorem WI.led_add (h : WI n g led done seen) (hx : NOk n g j x) (hr : x.role = 2) : WI n g (led ++ [(x.term, j)]) done seen := by
  refine ⟨fun e he => ?_, h.len, h.done⟩
  rcases List.mem_append.1 he with he | he
  · exact h.led e he
  · simp only [List.mem_singleton] at he
    subst he
    exact (hx.lead hr).1
theorem WI.cm (hx : NOk n g j x) {k : Nat} (hk : (k : Int) < x.commit) : ∃ t p, Cm n g t p ∧ t ≤ x.term ∧ k < p ∧ x.log.take (k + 1) = (g.lg t).take (k + 1) := by
  rcases hx.c with h0 | ⟨t, p, hc, ht, hp, htk⟩
  · omega
  · exact ⟨t, p, hc, ht, by omega, take_less htk (by omega)⟩
theorem WI.done_eq (hg : GOk n g) (h : WI n g led done seen) (hx : NOk n g j x) {k : Nat} (hk : (k : Int) < x.commit) (hd : k < done.length) : done.take (k + 1) = x.log.take (k + 1) := by
  obtain ⟨t, p, hc, ht, hp, htk⟩ := WI.cm hx hk
  obtain ⟨v, hv⟩ : ∃ v, seen[k]? = some v := ⟨_, List.getElem?_eq_getElem (by have := h.len; omega)⟩
  obtain ⟨t2, p2, hc2, ht2, hp2, htk2⟩ := h.done k v hd hv
  rw [htk, htk2]
  exact hc2.meet hg hc (by omega) (by omega)
theorem WI.done_add (hg : GOk n g) (h : WI n g led done seen) (hx : NOk n g j x) {c : Cl} (hk : (done.length : Int) < x.commit) (hc : x.log[done.length]? = some c) : WI n g led (done ++ [c]) (seen ++ [x.term]) := by
  have e : done ++ [c] = x.log.take (done.length + 1) := by
    rw [List.take_add_one, hc]
    rcases Nat.eq_zero_or_pos done.length with h0 | h0
    · rw [h0, List.take_zero, List.eq_nil_of_length_eq_zero h0]; rfl
    · have h1 := h.done_eq hg hx (k := done.length - 1) (by omega) (by omega)
      rw [show done.length - 1 + 1 = done.length by omega, List.take_length] at h1
      rw [← h1]; rfl
  refine ⟨h.led, by simp [h.len], fun k v hkl hv => ?_⟩
  simp only [List.length_append, List.length_cons, List.length_nil] at hkl
  rcases Nat.lt_or_ge k done.length with h1 | h1
  · rw [List.getElem?_append_left (by rw [h.len]; exact h1)] at hv
    rw [List.take_append_of_le_length (by omega)]
    exact h.done k v h1 hv
  · have h2 : k = done.length := by omega
    subst h2
    rw [List.getElem?_append_right (by rw [h.len]; exact Nat.le_refl _), h.len, Nat.sub_self] at hv
    have : v = x.term := by simpa using hv.symm
    subst this
    obtain ⟨t, p, hcm, ht, hp, htk⟩ := WI.cm hx hk
    refine ⟨t, p, hcm, ht, hp, ?_⟩
    rw [e, List.take_take, Nat.min_self, htk]
end
end Go.Council
end
section
set_option linter.unusedVariables false
set_option linter.unusedSimpArgs false
set_option maxRecDepth 4000
namespace Go.Proofs.Ytigjompojlhomaa
open Go.Sl Go.RowKit Go.Raft Go.Journal Go.Pack Go.Council

theorem open_newC : openS lnm newD = (newD, 0) := by
  have h1 : readS lnm newD = ([], 21) := rfl
  unfold openS
  rw [if_neg (show ¬ newD.off = true by decide), if_neg (fun h => h lnm_ok), h1, recsB_nil, if_pos rfl]
abbrev m0C : Mg := ⟨newD, none, []⟩
abbrev upC (n : Nat) (i : Nat) : Mg := ⟨newD, some (newR ((i : Int) + 1) n 0 0 []), []⟩
def uptoC (n k : Nat) : CS := ⟨(List.range n).map fun i : Nat => if i < k then upC n i else m0C, []⟩
theorem upto_all (n : Nat) : uptoC n n = freshC n := by
  unfold uptoC freshC
  congr 1
  apply List.map_congr_left
  intro i hi
  rw [if_pos (List.mem_range.1 hi)]
theorem upto_none (n : Nat) : uptoC n 0 = ⟨List.replicate n m0C, []⟩ := by
  unfold uptoC
  congr 1
  apply List.ext_getElem?
  intro i
  rw [List.getElem?_map, List.getElem?_replicate]
  by_cases hi : i < n
  · rw [List.getElem?_range hi, if_pos hi]; rfl
  · rw [List.getElem?_eq_none (by rw [List.length_range]; omega), if_neg hi]; rfl
theorem upto_len (n k : Nat) : (uptoC n k).ms.length = n := by simp [uptoC]
theorem upto_at {n k : Nat} (hk : k < n) : (uptoC n k).ms[k]? = some m0C := by
  unfold uptoC
  dsimp only
  rw [List.getElem?_map, List.getElem?_range hk]
  simp
theorem upto_next {n k : Nat} (hk : k < n) : putM (uptoC n k) k (upC n k) = uptoC n (k + 1) := by
  unfold putM uptoC
  dsimp only
  congr 1
  apply List.ext_getElem?
  intro i
  by_cases hi : i = k
  · subst hi
    rw [List.getElem?_set_self (by simpa using hk), List.getElem?_map, List.getElem?_range hk]
    simp
  · rw [List.getElem?_set_ne (fun e => hi e.symm), List.getElem?_map, List.getElem?_map]
    by_cases hin : i < n
    · rw [List.getElem?_range hin]
      simp only [Option.map_some]
      by_cases hik : i < k
      · rw [if_pos hik, if_pos (by omega)]
      · rw [if_neg hik, if_neg (by omega)]
    · rw [List.getElem?_eq_none (by rw [List.length_range]; omega)]; rfl
theorem open_m0 (n i : Nat) : openM ((i : Int) + 1) n m0C = upC n i := by
  unfold openM
  dsimp only
  rw [open_newC, if_pos rfl]
  rfl
structure NwI where
  l : List ME
  b : Option Addr
  c : Nat
theorem nptrC_snoc (l : List ME) (e : ME) : nptrC ((l ++ [e]).map ME.q) = nptrC (l.map ME.q) ++ [.pointer (some ⟨e.q, 0, none⟩)] := by simp [nptrC]
theorem new_step {w0 w : World} {A : List HProp} {l : List ME} {p q d c : Nat} {b : Option Addr} (H : Own w0 (row b c 1 59 (nptrC (l.map ME.q) ++ [.pointer (some ⟨q, 0, none⟩)]) :: cel p [.slice b (l.length + 1) c, .slice none 0 0] 58 :: cel q (mcell d none none) 65 :: pdisk d newD :: hmans l :: A) w) :
    Own w0 (cel p [.slice b (l ++ [(⟨q, d, m0C⟩ : ME)]).length c, .slice none 0 0] 58 :: row b c 1 59 (nptrC ((l ++ [(⟨q, d, m0C⟩ : ME)]).map ME.q)) :: hmans (l ++ [⟨q, d, m0C⟩]) :: A) w := by
  rw [nptrC_snoc, List.length_append]
  have h1 := hman_mkD (q := q) (dk := d) (m := m0C) (jo := none) rfl (H.ix [2, 3, 4, 0, 1])
  have h2 := hmans_snoc (f := ⟨q, d, m0C⟩) (l := l) h1
  exact h2.ix [2, 1, 0]
theorem c_new_no {w0 : World} {A : List HProp} {n : Int} (hn : n < 1 ∨ 5 < n) : Fun Try.prog w0 9 [.int .i64 n] A (Ret w0 (fun _ : Unit => True) (fun _ => .tuple #[.pointer none, .int .i64 1]) (fun _ => A)) := by
  refine Fun.enter Try.func9 rfl Try.ntmps9 rfl ?_
  refine WC.seq <| WC.region <| sv (vaP rfl) <| sv (vaI rfl) <| WL.nil <| WX.thenN <| WC.seq <| ?_
  refine WC.cutS [(11, .bool (decide (True)))] [(0, .int _ _)] ⟨rfl, trivial⟩ ?_ fun ρh => ?_
  · -- council.go:29
    refine WC.region <| sv (vmI rfl) <| svs (vlt rfl rfl) (fun q1 => ?_) (fun q1 => ?_)
    ·
      exact sv (vmB rfl) <| sng rfl <| sng rfl <| sv (vpkt rfl) <| WL.nil <| WX.mid () trivial ⟨bT (by first | omega | simp_all | grind), trivial⟩ ⟨rfl, trivial⟩ (fun _ h => Sb.own (by repeat' (first | with_reducible exact Sb.all | exact Sb.nil | (apply Sb.cons; focus (first | ((repeat (first | with_reducible exact Tk.here | with_reducible apply Tk.there)); done) | ((repeat (first | exact Tk.here | apply Tk.there)); done))) | apply Sb.drop)) h)
    ·
      exact sv (vmB rfl) <| svg rfl (vmI rfl) <| svg rfl (vgt rfl rfl) <| sv (vpkf rfl) <| WL.nil <| WX.mid () trivial ⟨bI (by first | omega | simp_all | grind), trivial⟩ ⟨rfl, trivial⟩ (fun _ h => Sb.own (by repeat' (first | with_reducible exact Sb.all | exact Sb.nil | (apply Sb.cons; focus (first | ((repeat (first | with_reducible exact Tk.here | with_reducible apply Tk.there)); done) | ((repeat (first | exact Tk.here | apply Tk.there)); done))) | apply Sb.drop)) h)
  refine WC.tt rfl ?_
  exact WC.seq <| WC.region <| sv (vaP rfl) <| sv (vaI rfl) <| WL.nil <| WX.thenN <| WC.ret <| WX.thenR <| WX.ret2 rfl (()) (trivial) rfl (fun _ h => Sb.own (by repeat' (first | with_reducible exact Sb.all | exact Sb.nil | (apply Sb.cons; focus (first | ((repeat (first | with_reducible exact Tk.here | with_reducible apply Tk.there)); done) | ((repeat (first | exact Tk.here | apply Tk.there)); done))) | apply Sb.drop)) h)
theorem c_new {w0 : World} {A : List HProp} {n : Nat} (h1 : 1 ≤ n) (h5 : n ≤ 5) : Fun Try.prog w0 9 [.int .i64 (n : Int)] A (Ret w0 (fun _ : Nat => True) (fun p => .tuple #[.pointer (some ⟨p, 0, none⟩), .int .i64 0]) (fun p => hc p (freshC n) :: A)) := by
  refine Fun.enter Try.func9 rfl Try.ntmps9 rfl ?_
  refine WC.seq <| WC.region <| sv (vaP rfl) <| sv (vaI rfl) <| WL.nil <| WX.thenN <| WC.seq <| ?_
  refine WC.cutS [(11, .bool (decide (False)))] [(0, .int _ _)] ⟨rfl, trivial⟩ ?_ fun ρh => ?_
  · -- council.go:29
    refine WC.region <| sv (vmI rfl) <| svs (vlt rfl rfl) (fun q1 => ?_) (fun q1 => ?_)
    ·
      exact sv (vmB rfl) <| sng rfl <| sng rfl <| sv (vpkt rfl) <| WL.nil <| WX.mid () trivial ⟨bT (by first | omega | simp_all | grind), trivial⟩ ⟨rfl, trivial⟩ (fun _ h => Sb.own (by repeat' (first | with_reducible exact Sb.all | exact Sb.nil | (apply Sb.cons; focus (first | ((repeat (first | with_reducible exact Tk.here | with_reducible apply Tk.there)); done) | ((repeat (first | exact Tk.here | apply Tk.there)); done))) | apply Sb.drop)) h)
    ·
      exact sv (vmB rfl) <| svg rfl (vmI rfl) <| svg rfl (vgt rfl rfl) <| sv (vpkf rfl) <| WL.nil <| WX.mid () trivial ⟨bI ⟨fun h => by omega, False.elim⟩, trivial⟩ ⟨rfl, trivial⟩ (fun _ h => Sb.own (by repeat' (first | with_reducible exact Sb.all | exact Sb.nil | (apply Sb.cons; focus (first | ((repeat (first | with_reducible exact Tk.here | with_reducible apply Tk.there)); done) | ((repeat (first | exact Tk.here | apply Tk.there)); done))) | apply Sb.drop)) h)
  refine WC.ff rfl ?_
  refine WC.skip <| WX.thenN <| WC.seq <| WC.region <| sv (vbd (ps := []) (cs := [_, _]) bt58 zt58 rfl (by rfl)) <| bxc (v := .agg _) (cs := [.slice _ _ _, .slice _ _ _]) rfl rfl fun b2 => sv (vaP rfl) <| WL.nil <| WX.thenN <| WC.seq <| WC.seq <| WC.region <| sv (vmI rfl) <| sv (vmI rfl) <| WL.nil <| WX.thenN <| WC.block <| ?_
  refine WC.loop (ι := NwI) (fun i => [(15, .int .i64 i.l.length)]) [(4, .pointer _), (14, .int _ _)] (fun i => cel b2 [.slice i.b i.l.length i.c, .slice none 0 0] 58 :: row i.b i.c 1 59 (nptrC (i.l.map ME.q)) :: hmans i.l :: A) (fun i => i.l.length ≤ n ∧ i.l.length ≤ i.c ∧ i.l.map ME.m = List.replicate i.l.length m0C) (fun i => n - i.l.length) (⟨[], none, 0⟩) (⟨Nat.zero_le _, Nat.zero_le _, rfl⟩) ⟨rfl, trivial⟩ ⟨rfl, rfl, trivial⟩ (fun w h => by have h2 : Own w0 (row none 0 1 59 (nptrC []) :: hmans [] :: _) w := Own.intro_row_nil (Own.intro_emp h); exact Sb.own (by repeat' (first | with_reducible exact Sb.all | exact Sb.nil | (apply Sb.cons; focus (first | ((repeat (first | with_reducible exact Tk.here | with_reducible apply Tk.there)); done) | ((repeat (first | exact Tk.here | apply Tk.there)); done))) | apply Sb.drop)) h2) ?_
  rintro ⟨l, lb, lc⟩ ⟨hl1, hl2, hl3⟩ ρh
  dsimp only at hl1 hl2 hl3 ⊢
  refine WC.seq <| WC.region <| sv (vlt rfl rfl) <| WL.nil <| WX.thenN <| WC.seq <| ?_
  refine WC.ite rfl (fun h2 => ?_) (fun h2 => ?_)
  · -- then
    refine WC.skip <| WX.thenN <| WC.seq <| WC.block <| WC.plan (.one [0, 1, 2, 3, 4] 5 (.pre [6] (.one [] 7 (.one [] 8 (.one [] 9 (.bar [10, 11] 12 (.done []))))))) rfl (by kernel_rfl) <| WPl.oneX [row lb lc 1 59 (nptrC (l.map ME.q))] (by repeat' (first | exact Spl.nil | (apply Spl.cons; focus (first | ((repeat (first | with_reducible exact Tk.here | with_reducible apply Tk.there)); done) | ((repeat (first | exact Tk.here | apply Tk.there)); done))))) (fun g => by infer_instance) ?_
    refine dv (fun g => (vmP rfl)) <| dv (fun g => (vmP rfl)) <| dv (fun g => (vnil rfl)) <| dv (fun g => (vfldpz fl58f0 rfl)) <| dv (fun g => (vldc pl56 rfl)) <| WD.eff rfl <| clx (by repeat' (first | with_reducible exact Sb.all | exact Sb.nil | (apply Sb.cons; focus (first | ((repeat (first | with_reducible exact Tk.here | with_reducible apply Tk.there)); done) | ((repeat (first | exact Tk.here | apply Tk.there)); done))) | apply Sb.drop)) (disk_new) ct23 rfl fun r4 hr4 => ?_
    refine WL.nil <| WX.br <| WPl.preC <| dv (fun g => (vbd (ps := [(0, .pointer _)]) (cs := [_, _, _]) bt65 zt65 rfl (by rfl))) <| WD.nil <| WPl.oneX [row lb lc 1 59 (nptrC (l.map ME.q))] (by repeat' (first | exact Spl.nil | (apply Spl.cons; focus (first | ((repeat (first | with_reducible exact Tk.here | with_reducible apply Tk.there)); done) | ((repeat (first | exact Tk.here | apply Tk.there)); done))))) (fun g => by infer_instance) ?_
    refine WD.eff rfl <| bxc (v := .agg _) (cs := [.pointer _, .pointer _, .pointer _]) rfl rfl fun b6 => WL.nil <| WX.br <| WPl.oneX [row lb lc 1 59 (nptrC (l.map ME.q))] (by repeat' (first | exact Spl.nil | (apply Spl.cons; focus (first | ((repeat (first | with_reducible exact Tk.here | with_reducible apply Tk.there)); done) | ((repeat (first | exact Tk.here | apply Tk.there)); done))))) (fun g => by infer_instance) ?_
    refine WD.eff rfl <| bsln [.pointer _] Try.underlying56 zt59 rfl rfl (by intro v hv; simp only [List.mem_cons, List.not_mem_nil, or_false] at hv; rcases hv with rfl <;> rfl) (by simp) fun b7 => WL.nil <| WX.br <| WPl.oneX [row lb lc 1 59 (nptrC (l.map ME.q))] (by repeat' (first | exact Spl.nil | (apply Spl.cons; focus (first | ((repeat (first | with_reducible exact Tk.here | with_reducible apply Tk.there)); done) | ((repeat (first | exact Tk.here | apply Tk.there)); done))))) (fun g => by infer_instance) ?_
    refine WD.eff rfl <| pm (fun _ h => Sb.own (by repeat' (first | with_reducible exact Sb.all | exact Sb.nil | (apply Sb.cons; focus (first | ((repeat (first | with_reducible exact Tk.here | with_reducible apply Tk.there)); done) | ((repeat (first | exact Tk.here | apply Tk.there)); done))) | apply Sb.drop)) h) <| ap (vs := nptrC (l.map ME.q)) (news := [.pointer (some ⟨b6, 0, none⟩)]) rfl Try.underlying56 zt59 rfl rfl rfl (by rw [nptrC_length, List.length_map, Nat.mul_one]) (rfl) ((by intro v hv; simp only [List.mem_cons, List.not_mem_nil, or_false] at hv; rcases hv with rfl; rfl)) (reads) (by simp only [maxLen]; omega) (by omega) fun base8 c8 hc8 => ?_
    exact WL.nil <| WX.br <| WPl.barC <| dv (fun g => (vnil rfl)) <| dv (fun g => (vfldpz fl58f0 rfl)) <| WD.eff rfl <| stp (v := .slice _ _ _) pl56 sz56 rfl rfl rfl <| WL.nil <| WX.brT <| WPl.finC <| WD.nil <| WX.blockN <| WX.thenN <| WC.region <| sv (vadd rfl rfl (by omega)) <| sv (vmI rfl) <| WL.nil <| WX.again (⟨l ++ [⟨b6, r4, m0C⟩], base8, c8⟩) (⟨by dsimp only; rw [List.length_append]; show l.length + 1 ≤ n; omega, by dsimp only; rw [List.length_append]; exact hc8, by dsimp only; rw [List.length_append, List.map_append, hl3]; exact List.replicate_succ'.symm⟩) (by dsimp only; rw [List.length_append]; show n - (l.length + 1) < _; omega) ⟨iv (by rw [List.length_append]; rfl), trivial⟩ ⟨rfl, rfl, trivial⟩ (fun w h => new_step (Sb.own (by repeat' (first | with_reducible exact Sb.all | exact Sb.nil | (apply Sb.cons; focus (first | ((repeat (first | with_reducible exact Tk.here | with_reducible apply Tk.there)); done) | ((repeat (first | exact Tk.here | apply Tk.there)); done))) | apply Sb.drop)) h))
  · -- else
    have hln : l.length = n := by omega
    rw [hln] at hl3
    refine WC.exit <| WX.thenE <| WX.thenE <| WX.blockH <| WX.thenN <| WC.seq <| WC.seq <| WC.region <| sv (vmP rfl) <| sv (vnil rfl) <| sv (vfldpz fl58f0 rfl) <| sv (vldc pl56 rfl) <| sv (vlen Try.underlying56 rfl) <| sv (vmI rfl) <| WL.nil <| WX.thenN <| WC.block <| ?_
    refine WC.loop (ι := Nat) (fun i => [(35, .int .i64 i)]) [(4, .pointer _), (34, .int _ _)] (fun i => hc b2 (uptoC n i) :: A) (fun i => i ≤ n) (fun i => n - i) (0) (by omega) ⟨rfl, trivial⟩ ⟨rfl, rfl, trivial⟩ (fun w h => by rw [upto_none]; exact hc_mk (b := ⟨l, [], lb, lc, none, 0⟩) ⟨hl3, rfl, Nat.le_refl _, hl2⟩ (by have h2 : Own w0 (row none 0 9 54 (mvs []) :: mrows [] :: _) w := no_mails h; exact Sb.own (by repeat' (first | with_reducible exact Sb.all | exact Sb.nil | (apply Sb.cons; focus (first | ((repeat (first | with_reducible exact Tk.here | with_reducible apply Tk.there)); done) | ((repeat (first | exact Tk.here | apply Tk.there)); done))) | apply Sb.drop)) h2)) ?_
    intro i hi ρh
    refine WC.seq <| WC.region <| sv (vlt rfl rfl) <| WL.nil <| WX.thenN <| WC.seq <| ?_
    refine WC.ite rfl (fun h3 => ?_) (fun h3 => ?_)
    · -- then
      have hin : i < n := by omega
      have hnewi := start_ok (n := n) (k := i) (by omega) hin
      refine WC.skip <| WX.thenN <| WC.seq <| WC.block <| WC.seq <| WC.region <| sv (vmI rfl) <| sv (vaI rfl) <| WL.nil <| WX.thenN <| WC.region <| sv (vmP rfl) <| sv (vmI rfl) <| clx (by repeat' (first | with_reducible exact Sb.all | exact Sb.nil | (apply Sb.cons; focus (first | ((repeat (first | with_reducible exact Tk.here | with_reducible apply Tk.there)); done) | ((repeat (first | exact Tk.here | apply Tk.there)); done))) | apply Sb.drop)) (c_open (n := (n : Int)) (m := m0C) (K := 0) (by rw [upto_len]) (by rw [upto_len]; omega) (upto_at hin) rfl rfl (by decide) (by decide) (by rw [show readS lnm newD = ([], 21) from rfl, recsB_nil]; rfl) (Nat.le_refl _) RecsOk.nil hnewi) ct24 rfl fun r12 hr12 => ?_
      exact WL.nil <| WX.blockN <| WX.thenN <| WC.region <| sv (vadd rfl rfl (by omega)) <| sv (vmI rfl) <| WL.nil <| WX.again (i + 1) (by omega) (by omega) ⟨rfl, trivial⟩ ⟨rfl, rfl, trivial⟩ (fun w h => by rw [open_m0, upto_next hin] at h; exact h)
    · -- else
      exact WC.exit <| WX.thenE <| WX.thenE <| WX.blockH <| WX.thenN <| WC.seq <| WC.region <| sv (vmP rfl) <| sv (vaP rfl) <| sv (vaI rfl) <| WL.nil <| WX.thenN <| WC.ret <| WX.ret2 rfl (b2) (trivial) rfl (fun w h => by rw [show i = n by omega, upto_all] at h; exact h)
end Go.Proofs.Ytigjompojlhomaa
end
section
set_option linter.unusedVariables false
set_option linter.unusedSimpArgs false
set_option maxRecDepth 4000
namespace Go.Proofs.Ytigjompojlhomaa
open Go.Sl Go.RowKit Go.Raft Go.Journal Go.Pack Go.Council

/-- a manager's node -/
def nodeOf (S : CS) (i : Int) : Option Rn := if 1 ≤ i ∧ i ≤ S.ms.length then S.ms[(i - 1).toNat]?.bind Mg.node else none
theorem nodeOf_at {S : CS} {j : Nat} {m : Mg} (h : S.ms[j]? = some m) : nodeOf S ((j : Int) + 1) = m.node := by
  have hl : j < S.ms.length := by by_cases hh : j < S.ms.length; exact hh; rw [List.getElem?_eq_none (by omega)] at h; cases h
  unfold nodeOf
  rw [if_pos (by omega), show ((j : Int) + 1 - 1).toNat = j by omega, h]
  rfl
theorem nodeOf_some {S : CS} {i : Int} {x : Rn} (h : nodeOf S i = some x) : ∃ (j : Nat) (m : Mg), i = (j : Int) + 1 ∧ S.ms[j]? = some m ∧ m.node = some x := by
  unfold nodeOf at h
  split at h
  · rename_i hi
    cases hm : S.ms[(i - 1).toNat]? with
    | none => rw [hm] at h; cases h
    | some m => rw [hm] at h; exact ⟨(i - 1).toNat, m, by omega, hm, h⟩
  · cases h
theorem nodeOf_none {S : CS} {i : Int} (h : nodeOf S i = none) : i < 1 ∨ (1 ≤ i ∧ (S.ms.length : Int) < i) ∨ ∃ (j : Nat) (m : Mg), i = (j : Int) + 1 ∧ S.ms[j]? = some m ∧ m.node = none := by
  unfold nodeOf at h
  split at h
  · rename_i hi
    obtain ⟨m, hm⟩ : ∃ m, S.ms[(i - 1).toNat]? = some m := ⟨_, List.getElem?_eq_getElem (by omega)⟩
    rw [hm] at h
    exact .inr (.inr ⟨(i - 1).toNat, m, by omega, hm, h⟩)
  · omega
theorem lt_of_at {l : List ME} {j : Nat} {e : ME} (h : l[j]? = some e) : j < l.length := by by_cases hh : j < l.length; exact hh; rw [List.getElem?_eq_none (by omega)] at h; cases h
theorem c_of_nil {w0 : World} {A : List HProp} {i : Int} : Fun Try.prog w0 26 [.pointer none, .int .i64 i] A (Ret w0 (fun _ : Unit => True) (fun _ => .pointer none) (fun _ => A)) := by
  refine Fun.enter Try.func26 rfl Try.ntmps26 rfl ?_
  refine WC.seq <| WC.region <| sv (vaP rfl) <| WL.nil <| WX.thenN <| WC.seq <| ?_
  refine WC.cutS [(19, .bool (decide (True)))] [(0, .pointer _), (1, .int _ _)] ⟨rfl, rfl, trivial⟩ ?_ fun ρh => ?_
  · -- council.go:184
    exact WC.region <| sv (vmP rfl) <| sv (vpeqT Try.underlying25 rfl rfl) <| sv (vmB rfl) <| sng rfl <| sng rfl <| sv (vpkt rfl) <| sv (vmB rfl) <| sng rfl <| sng rfl <| sng rfl <| sng rfl <| sng rfl <| sng rfl <| sng rfl <| sv (vpkt rfl) <| WL.nil <| WX.mid () trivial ⟨bT (by first | omega | simp_all | grind), trivial⟩ ⟨rfl, rfl, trivial⟩ (fun _ h => Sb.own (by repeat' (first | with_reducible exact Sb.all | exact Sb.nil | (apply Sb.cons; focus (first | ((repeat (first | with_reducible exact Tk.here | with_reducible apply Tk.there)); done) | ((repeat (first | exact Tk.here | apply Tk.there)); done))) | apply Sb.drop)) h)
  refine WC.tt rfl ?_
  exact WC.seq <| WC.region <| sv (vaP rfl) <| WL.nil <| WX.thenN <| WC.ret <| WX.thenR <| WX.ret1 rfl (()) (trivial) rfl (fun _ h => Sb.own (by repeat' (first | with_reducible exact Sb.all | exact Sb.nil | (apply Sb.cons; focus (first | ((repeat (first | with_reducible exact Tk.here | with_reducible apply Tk.there)); done) | ((repeat (first | exact Tk.here | apply Tk.there)); done))) | apply Sb.drop)) h)
theorem c_of_low {w0 : World} {A : List HProp} {p : Nat} {i : Int} (hi : i < 1) : Fun Try.prog w0 26 [.pointer (some ⟨p, 0, none⟩), .int .i64 i] A (Ret w0 (fun _ : Unit => True) (fun _ => .pointer none) (fun _ => A)) := by
  refine Fun.enter Try.func26 rfl Try.ntmps26 rfl ?_
  refine WC.seq <| WC.region <| sv (vaP rfl) <| WL.nil <| WX.thenN <| WC.seq <| ?_
  refine WC.cutS [(19, .bool (decide (True)))] [(0, .pointer _), (1, .int _ _)] ⟨rfl, rfl, trivial⟩ ?_ fun ρh => ?_
  · -- council.go:184
    exact WC.region <| sv (vmP rfl) <| sv (vpeqF Try.underlying25 rfl rfl) <| sv (vmB rfl) <| svg rfl (vmI rfl) <| svg rfl (vT (vlt rfl rfl) (by omega)) <| sv (vpkf rfl) <| sv (vmB rfl) <| sng rfl <| sng rfl <| sng rfl <| sng rfl <| sng rfl <| sng rfl <| sng rfl <| sv (vpkt rfl) <| WL.nil <| WX.mid () trivial ⟨bT (by first | omega | simp_all | grind), trivial⟩ ⟨rfl, rfl, trivial⟩ (fun _ h => Sb.own (by repeat' (first | with_reducible exact Sb.all | exact Sb.nil | (apply Sb.cons; focus (first | ((repeat (first | with_reducible exact Tk.here | with_reducible apply Tk.there)); done) | ((repeat (first | exact Tk.here | apply Tk.there)); done))) | apply Sb.drop)) h)
  refine WC.tt rfl ?_
  exact WC.seq <| WC.region <| sv (vaP rfl) <| WL.nil <| WX.thenN <| WC.ret <| WX.thenR <| WX.ret1 rfl (()) (trivial) rfl (fun _ h => Sb.own (by repeat' (first | with_reducible exact Sb.all | exact Sb.nil | (apply Sb.cons; focus (first | ((repeat (first | with_reducible exact Tk.here | with_reducible apply Tk.there)); done) | ((repeat (first | exact Tk.here | apply Tk.there)); done))) | apply Sb.drop)) h)
theorem c_of_high {w0 : World} {A : List HProp} {p : Nat} {b : CB} {i : Int} (h1 : 1 ≤ i) (hi : (b.l.length : Int) < i) : Fun Try.prog w0 26 [.pointer (some ⟨p, 0, none⟩), .int .i64 i] (cel p (ccell b) 58 :: A) (Ret w0 (fun _ : Unit => True) (fun _ => .pointer none) (fun _ => cel p (ccell b) 58 :: A)) := by
  refine Fun.enter Try.func26 rfl Try.ntmps26 rfl ?_
  refine WC.seq <| WC.region <| sv (vaP rfl) <| WL.nil <| WX.thenN <| WC.seq <| ?_
  refine WC.cutS [(19, .bool (decide (True)))] [(0, .pointer _), (1, .int _ _)] ⟨rfl, rfl, trivial⟩ ?_ fun ρh => ?_
  · -- council.go:184
    exact WC.region <| sv (vmP rfl) <| sv (vpeqF Try.underlying25 rfl rfl) <| sv (vmB rfl) <| svg rfl (vmI rfl) <| svg rfl (vF (vlt rfl rfl) (by omega)) <| sv (vpkf rfl) <| sv (vmB rfl) <| svg rfl (vmI rfl) <| svg rfl (vmP rfl) <| svg rfl (vnil rfl) <| svg rfl (vfldpz fl58f0 rfl) <| svg rfl (vldc pl56 rfl) <| svg rfl (vlen Try.underlying56 rfl) <| svg rfl (vgt rfl rfl) <| sv (vpkf rfl) <| WL.nil <| WX.mid () trivial ⟨bI (by first | omega | simp_all | grind), trivial⟩ ⟨rfl, rfl, trivial⟩ (fun _ h => Sb.own (by repeat' (first | with_reducible exact Sb.all | exact Sb.nil | (apply Sb.cons; focus (first | ((repeat (first | with_reducible exact Tk.here | with_reducible apply Tk.there)); done) | ((repeat (first | exact Tk.here | apply Tk.there)); done))) | apply Sb.drop)) h)
  refine WC.tt rfl ?_
  exact WC.seq <| WC.region <| sv (vaP rfl) <| WL.nil <| WX.thenN <| WC.ret <| WX.thenR <| WX.ret1 rfl (()) (trivial) rfl (fun _ h => Sb.own (by repeat' (first | with_reducible exact Sb.all | exact Sb.nil | (apply Sb.cons; focus (first | ((repeat (first | with_reducible exact Tk.here | with_reducible apply Tk.there)); done) | ((repeat (first | exact Tk.here | apply Tk.there)); done))) | apply Sb.drop)) h)
theorem c_of_open {w0 : World} {A : List HProp} {p j : Nat} {b : CB} {e : ME} {np jp : Option Addr} (hl5 : b.l.length ≤ 5) (he : b.l[j]? = some e) : Fun Try.prog w0 26 [.pointer (some ⟨p, 0, none⟩), .int .i64 ((j : Int) + 1)] (cel e.q (mcell e.dk np jp) 65 :: cel p (ccell b) 58 :: row b.lb b.lc 1 59 (nptrC (b.l.map ME.q)) :: A) (Ret w0 (fun _ : Unit => True) (fun _ => .pointer np) (fun _ => cel e.q (mcell e.dk np jp) 65 :: cel p (ccell b) 58 :: row b.lb b.lc 1 59 (nptrC (b.l.map ME.q)) :: A)) := by
  have hjl := lt_of_at he
  have hpt := nptrs_at he
  have hpl : 0 < (nptrC (b.l.map ME.q)).length := by rw [nptrC_length, List.length_map]; omega
  refine Fun.enter Try.func26 rfl Try.ntmps26 rfl ?_
  refine WC.seq <| WC.region <| sv (vaP rfl) <| WL.nil <| WX.thenN <| WC.seq <| ?_
  refine WC.cutS [(19, .bool (decide (False)))] [(0, .pointer _), (1, .int _ _)] ⟨rfl, rfl, trivial⟩ ?_ fun ρh => ?_
  · -- council.go:184
    exact WC.region <| sv (vmP rfl) <| sv (vpeqF Try.underlying25 rfl rfl) <| sv (vmB rfl) <| svg rfl (vmI rfl) <| svg rfl (vF (vlt rfl rfl) (by omega)) <| sv (vpkf rfl) <| sv (vmB rfl) <| svg rfl (vmI rfl) <| svg rfl (vmP rfl) <| svg rfl (vnil rfl) <| svg rfl (vfldpz fl58f0 rfl) <| svg rfl (vldc pl56 rfl) <| svg rfl (vlen Try.underlying56 rfl) <| svg rfl (vgt rfl rfl) <| sv (vpkf rfl) <| WL.nil <| WX.mid () trivial ⟨bI ⟨fun h => by omega, False.elim⟩, trivial⟩ ⟨rfl, rfl, trivial⟩ (fun _ h => Sb.own (by repeat' (first | with_reducible exact Sb.all | exact Sb.nil | (apply Sb.cons; focus (first | ((repeat (first | with_reducible exact Tk.here | with_reducible apply Tk.there)); done) | ((repeat (first | exact Tk.here | apply Tk.there)); done))) | apply Sb.drop)) h)
  refine WC.ff rfl ?_
  exact WC.skip <| WX.thenN <| WC.seq <| WC.region <| sv (vmP rfl) <| sv (vnil rfl) <| sv (vfldpz fl58f0 rfl) <| sv (vldc pl56 rfl) <| sv (vmI rfl) <| sv (vsub rfl rfl (by omega)) <| sv (vix1 Try.underlying56 sz59 rfl rfl (by omega) (by omega) reads hpl) <| sv (vldr pl59 rfl hpt) <| sv (vnil rfl) <| sv (vfldp fl65f1 rfl) <| sv (vldc pl62 rfl) <| sv (vaP rfl) <| WL.nil <| WX.thenN <| WC.ret <| WX.ret1 rfl (()) (trivial) rfl (fun _ h => Sb.own (by repeat' (first | with_reducible exact Sb.all | exact Sb.nil | (apply Sb.cons; focus (first | ((repeat (first | with_reducible exact Tk.here | with_reducible apply Tk.there)); done) | ((repeat (first | exact Tk.here | apply Tk.there)); done))) | apply Sb.drop)) h)
theorem c_of_none {w0 : World} {A : List HProp} {p : Nat} {S : CS} {i : Int} (hl5 : S.ms.length ≤ 5) (h : nodeOf S i = none) : Fun Try.prog w0 26 [.pointer (some ⟨p, 0, none⟩), .int .i64 i] (hc p S :: A) (Ret w0 (fun _ : Unit => True) (fun _ => .pointer none) (fun _ => hc p S :: A)) := by
  rcases nodeOf_none h with hi | hi | ⟨j, m, rfl, hj, hn⟩
  · exact c_of_low hi
  · refine Fun.ex (fun w h => hc_open h) ?_
    intro b hb
    refine (c_of_high hi.1 (by rw [hb.len.1]; exact hi.2)).mono ?_
    rintro _ w ⟨u, hu, rfl, hw⟩
    refine ⟨(), trivial, rfl, ?_⟩
    exact hc_mk hb hw
  · refine Fun.ex (fun w h => hc_open h) ?_
    intro b hb
    obtain ⟨e, he, hem⟩ := hb.at_ hj
    subst hem
    refine Fun.ex (fun w h => (hman_down hn (cL_out he h)).elim fun jo h => ⟨jo, True.intro, h.ix [0, 2, 3, 1]⟩) ?_
    intro jo _
    refine (c_of_open (by rw [hb.len.1]; exact hl5) he).mono ?_
    rintro _ w ⟨u, hu, rfl, hw⟩
    refine ⟨(), trivial, rfl, ?_⟩
    exact hc_mk (by have h2 := hb.set (m := e.m) he; rwa [putM_same hj] at h2) (cL_in he (hman_mkD hn (hw.ix [0, 3, 1, 2])))
end Go.Proofs.Ytigjompojlhomaa
end
section
set_option linter.unusedVariables false
set_option linter.unusedSimpArgs false
set_option maxRecDepth 4000
namespace Go.Proofs.Ytigjompojlhomaa
open Go.Sl Go.RowKit Go.Raft Go.Journal Go.Pack Go.Council

theorem rnil_stable {w0 : World} {A : List HProp} : Fun Try.prog w0 27 [.pointer none] A (Ret w0 (fun _ : Unit => True) (fun _ => .agg [.int .i64 0, .int .i64 0, .slice none 0 0].toArray) (fun _ => A)) := by
  refine Fun.enter Try.func27 rfl Try.ntmps27 rfl ?_
  refine WC.seq <| WC.region <| alz (cs := [.int .i64 0, .int .i64 0, .slice none 0 0]) zt72 (by rfl) fun b1 => WL.nil <| WX.thenN <| WC.seq <| WC.seq <| WC.region <| sv (vmP rfl) <| sv (vpeqT Try.underlying62 rfl rfl) <| WL.nil <| WX.thenN <| ?_
  refine WC.tt rfl ?_
  exact WC.seq <| WC.region <| sv (vbd (ps := []) (cs := [_, _, _]) bt72 zt72 rfl (by rfl)) <| stAp sz72 rfl rfl rfl (by intro v hv; simp only [List.mem_cons, List.not_mem_nil, or_false] at hv; rcases hv with rfl | rfl | rfl <;> rfl) rfl <| WL.nil <| WX.thenN <| WC.ret <| WX.thenR <| WX.ret1c rfl ag72 sz72 (()) (trivial) rfl rfl (by decide) rfl (fun _ h => Sb.own (by repeat' (first | with_reducible exact Sb.all | exact Sb.nil | (apply Sb.cons; focus (first | ((repeat (first | with_reducible exact Tk.here | with_reducible apply Tk.there)); done) | ((repeat (first | exact Tk.here | apply Tk.there)); done))) | apply Sb.drop)) h)
theorem rnil_commit {w0 : World} {A : List HProp} : Fun Try.prog w0 35 [.pointer none] A (Ret w0 (fun _ : Unit => True) (fun _ => .int .i64 0) (fun _ => A)) := by
  refine Fun.enter Try.func35 rfl Try.ntmps35 rfl ?_
  refine WC.seq <| WC.region <| sv (vaI rfl) <| WL.nil <| WX.thenN <| WC.seq <| WC.seq <| WC.region <| sv (vmP rfl) <| sv (vpeqT Try.underlying62 rfl rfl) <| WL.nil <| WX.thenN <| ?_
  refine WC.tt rfl ?_
  exact WC.seq <| WC.region <| sv (vaI rfl) <| WL.nil <| WX.thenN <| WC.ret <| WX.thenR <| WX.ret1 rfl (()) (trivial) rfl (fun _ h => Sb.own (by repeat' (first | with_reducible exact Sb.all | exact Sb.nil | (apply Sb.cons; focus (first | ((repeat (first | with_reducible exact Tk.here | with_reducible apply Tk.there)); done) | ((repeat (first | exact Tk.here | apply Tk.there)); done))) | apply Sb.drop)) h)
theorem rnil_role {w0 : World} {A : List HProp} : Fun Try.prog w0 34 [.pointer none] A (Ret w0 (fun _ : Unit => True) (fun _ => .int .i64 0) (fun _ => A)) := by
  refine Fun.enter Try.func34 rfl Try.ntmps34 rfl ?_
  refine WC.seq <| WC.region <| sv (vaI rfl) <| WL.nil <| WX.thenN <| WC.seq <| WC.seq <| WC.region <| sv (vmP rfl) <| sv (vpeqT Try.underlying62 rfl rfl) <| WL.nil <| WX.thenN <| ?_
  refine WC.tt rfl ?_
  exact WC.seq <| WC.region <| sv (vaI rfl) <| WL.nil <| WX.thenN <| WC.ret <| WX.thenR <| WX.ret1 rfl (()) (trivial) rfl (fun _ h => Sb.own (by repeat' (first | with_reducible exact Sb.all | exact Sb.nil | (apply Sb.cons; focus (first | ((repeat (first | with_reducible exact Tk.here | with_reducible apply Tk.there)); done) | ((repeat (first | exact Tk.here | apply Tk.there)); done))) | apply Sb.drop)) h)
theorem rnil_leader {w0 : World} {A : List HProp} : Fun Try.prog w0 36 [.pointer none] A (Ret w0 (fun _ : Unit => True) (fun _ => .int .i64 0) (fun _ => A)) := by
  refine Fun.enter Try.func36 rfl Try.ntmps36 rfl ?_
  refine WC.seq <| WC.region <| sv (vaI rfl) <| WL.nil <| WX.thenN <| WC.seq <| WC.seq <| WC.region <| sv (vmP rfl) <| sv (vpeqT Try.underlying62 rfl rfl) <| WL.nil <| WX.thenN <| ?_
  refine WC.tt rfl ?_
  exact WC.seq <| WC.region <| sv (vaI rfl) <| WL.nil <| WX.thenN <| WC.ret <| WX.thenR <| WX.ret1 rfl (()) (trivial) rfl (fun _ h => Sb.own (by repeat' (first | with_reducible exact Sb.all | exact Sb.nil | (apply Sb.cons; focus (first | ((repeat (first | with_reducible exact Tk.here | with_reducible apply Tk.there)); done) | ((repeat (first | exact Tk.here | apply Tk.there)); done))) | apply Sb.drop)) h)
theorem c_up_nil {w0 : World} {A : List HProp} {i : Int} : Fun Try.prog w0 13 [.pointer none, .int .i64 i] A (Ret w0 (fun _ : Unit => True) (fun _ => .bool false) (fun _ => A)) := by
  refine Fun.enter Try.func13 rfl Try.ntmps13 rfl ?_
  refine WC.seq <| WC.region <| sv (vaB rfl) <| WL.nil <| WX.thenN <| WC.seq <| WC.region <| sv (vmP rfl) <| sv (vmI rfl) <| clx (by repeat' (first | with_reducible exact Sb.all | exact Sb.nil | (apply Sb.cons; focus (first | ((repeat (first | with_reducible exact Tk.here | with_reducible apply Tk.there)); done) | ((repeat (first | exact Tk.here | apply Tk.there)); done))) | apply Sb.drop)) (c_of_nil) ct26 rfl fun r1 hr1 => ?_
  exact sv (vpneF Try.underlying62 rfl rfl) <| sv (vaB rfl) <| WL.nil <| WX.thenN <| WC.ret <| WX.ret1 rfl (()) (trivial) rfl (fun _ h => Sb.own (by repeat' (first | with_reducible exact Sb.all | exact Sb.nil | (apply Sb.cons; focus (first | ((repeat (first | with_reducible exact Tk.here | with_reducible apply Tk.there)); done) | ((repeat (first | exact Tk.here | apply Tk.there)); done))) | apply Sb.drop)) h)
theorem c_up_none {w0 : World} {A : List HProp} {p : Nat} {S : CS} {i : Int} (hl5 : S.ms.length ≤ 5) (h : nodeOf S i = none) : Fun Try.prog w0 13 [.pointer (some ⟨p, 0, none⟩), .int .i64 i] (hc p S :: A) (Ret w0 (fun _ : Unit => True) (fun _ => .bool false) (fun _ => hc p S :: A)) := by
  refine Fun.enter Try.func13 rfl Try.ntmps13 rfl ?_
  refine WC.seq <| WC.region <| sv (vaB rfl) <| WL.nil <| WX.thenN <| WC.seq <| WC.region <| sv (vmP rfl) <| sv (vmI rfl) <| clx (by repeat' (first | with_reducible exact Sb.all | exact Sb.nil | (apply Sb.cons; focus (first | ((repeat (first | with_reducible exact Tk.here | with_reducible apply Tk.there)); done) | ((repeat (first | exact Tk.here | apply Tk.there)); done))) | apply Sb.drop)) (c_of_none hl5 h) ct26 rfl fun r1 hr1 => ?_
  exact sv (vpneF Try.underlying62 rfl rfl) <| sv (vaB rfl) <| WL.nil <| WX.thenN <| WC.ret <| WX.ret1 rfl (()) (trivial) rfl (fun _ h => Sb.own (by repeat' (first | with_reducible exact Sb.all | exact Sb.nil | (apply Sb.cons; focus (first | ((repeat (first | with_reducible exact Tk.here | with_reducible apply Tk.there)); done) | ((repeat (first | exact Tk.here | apply Tk.there)); done))) | apply Sb.drop)) h)
theorem c_up_some {w0 : World} {A : List HProp} {p : Nat} {S : CS} {i : Int} {x : Rn} (hl5 : S.ms.length ≤ 5) (h : nodeOf S i = some x) : Fun Try.prog w0 13 [.pointer (some ⟨p, 0, none⟩), .int .i64 i] (hc p S :: A) (Ret w0 (fun _ : Unit => True) (fun _ => .bool true) (fun _ => hc p S :: A)) := by
  obtain ⟨j, m, rfl, hj, hn⟩ := nodeOf_some h
  refine Fun.ex (fun w h => hc_open h) ?_
  intro b hb
  obtain ⟨e, he, hem⟩ := hb.at_ hj
  subst hem
  have hl5b : b.l.length ≤ 5 := by rw [hb.len.1]; exact hl5
  refine Fun.ex (fun w h => (hman_up hn (cL_out he h)).elim fun i h => ⟨i, True.intro, h⟩) ?_
  rintro ⟨np, jp⟩ _
  dsimp only
  refine Fun.enter Try.func13 rfl Try.ntmps13 rfl ?_
  refine WC.seq <| WC.region <| sv (vaB rfl) <| WL.nil <| WX.thenN <| WC.seq <| WC.region <| sv (vmP rfl) <| sv (vmI rfl) <| clx (by repeat' (first | with_reducible exact Sb.all | exact Sb.nil | (apply Sb.cons; focus (first | ((repeat (first | with_reducible exact Tk.here | with_reducible apply Tk.there)); done) | ((repeat (first | exact Tk.here | apply Tk.there)); done))) | apply Sb.drop)) (c_of_open hl5b he) ct26 rfl fun r1 hr1 => ?_
  exact sv (vpneT Try.underlying62 rfl rfl) <| sv (vaB rfl) <| WL.nil <| WX.thenN <| WC.ret <| WX.ret1 rfl (()) (trivial) rfl (fun w h => hc_mk (by have h2 := hb.set (m := e.m) he; rwa [putM_same hj] at h2) (cL_in he (hman_mkU (np := np) (jp := jp) hn (Sb.own (by repeat' (first | with_reducible exact Sb.all | exact Sb.nil | (apply Sb.cons; focus (first | ((repeat (first | with_reducible exact Tk.here | with_reducible apply Tk.there)); done) | ((repeat (first | exact Tk.here | apply Tk.there)); done))) | apply Sb.drop)) h))))
theorem c_role_nil {w0 : World} {A : List HProp} {i : Int} : Fun Try.prog w0 17 [.pointer none, .int .i64 i] A (Ret w0 (fun _ : Unit => True) (fun _ => .int .i64 0) (fun _ => A)) := by
  refine Fun.enter Try.func17 rfl Try.ntmps17 rfl ?_
  refine WC.seq <| WC.region <| sv (vaI rfl) <| WL.nil <| WX.thenN <| WC.seq <| WC.region <| sv (vmP rfl) <| sv (vmI rfl) <| clx (by repeat' (first | with_reducible exact Sb.all | exact Sb.nil | (apply Sb.cons; focus (first | ((repeat (first | with_reducible exact Tk.here | with_reducible apply Tk.there)); done) | ((repeat (first | exact Tk.here | apply Tk.there)); done))) | apply Sb.drop)) (c_of_nil) ct26 rfl fun r1 hr1 => ?_
  refine clx (by repeat' (first | with_reducible exact Sb.all | exact Sb.nil | (apply Sb.cons; focus (first | ((repeat (first | with_reducible exact Tk.here | with_reducible apply Tk.there)); done) | ((repeat (first | exact Tk.here | apply Tk.there)); done))) | apply Sb.drop)) (rnil_role) ct34 rfl fun r2 hr2 => ?_
  exact sv (vaI rfl) <| WL.nil <| WX.thenN <| WC.ret <| WX.ret1 rfl (()) (trivial) rfl (fun _ h => Sb.own (by repeat' (first | with_reducible exact Sb.all | exact Sb.nil | (apply Sb.cons; focus (first | ((repeat (first | with_reducible exact Tk.here | with_reducible apply Tk.there)); done) | ((repeat (first | exact Tk.here | apply Tk.there)); done))) | apply Sb.drop)) h)
theorem c_role_none {w0 : World} {A : List HProp} {p : Nat} {S : CS} {i : Int} (hl5 : S.ms.length ≤ 5) (h : nodeOf S i = none) : Fun Try.prog w0 17 [.pointer (some ⟨p, 0, none⟩), .int .i64 i] (hc p S :: A) (Ret w0 (fun _ : Unit => True) (fun _ => .int .i64 0) (fun _ => hc p S :: A)) := by
  refine Fun.enter Try.func17 rfl Try.ntmps17 rfl ?_
  refine WC.seq <| WC.region <| sv (vaI rfl) <| WL.nil <| WX.thenN <| WC.seq <| WC.region <| sv (vmP rfl) <| sv (vmI rfl) <| clx (by repeat' (first | with_reducible exact Sb.all | exact Sb.nil | (apply Sb.cons; focus (first | ((repeat (first | with_reducible exact Tk.here | with_reducible apply Tk.there)); done) | ((repeat (first | exact Tk.here | apply Tk.there)); done))) | apply Sb.drop)) (c_of_none hl5 h) ct26 rfl fun r1 hr1 => ?_
  refine clx (by repeat' (first | with_reducible exact Sb.all | exact Sb.nil | (apply Sb.cons; focus (first | ((repeat (first | with_reducible exact Tk.here | with_reducible apply Tk.there)); done) | ((repeat (first | exact Tk.here | apply Tk.there)); done))) | apply Sb.drop)) (rnil_role) ct34 rfl fun r2 hr2 => ?_
  exact sv (vaI rfl) <| WL.nil <| WX.thenN <| WC.ret <| WX.ret1 rfl (()) (trivial) rfl (fun _ h => Sb.own (by repeat' (first | with_reducible exact Sb.all | exact Sb.nil | (apply Sb.cons; focus (first | ((repeat (first | with_reducible exact Tk.here | with_reducible apply Tk.there)); done) | ((repeat (first | exact Tk.here | apply Tk.there)); done))) | apply Sb.drop)) h)
theorem c_role_some {w0 : World} {A : List HProp} {p : Nat} {S : CS} {i : Int} {x : Rn} (hl5 : S.ms.length ≤ 5) (h : nodeOf S i = some x) : Fun Try.prog w0 17 [.pointer (some ⟨p, 0, none⟩), .int .i64 i] (hc p S :: A) (Ret w0 (fun _ : Unit => True) (fun _ => .int .i64 x.role) (fun _ => hc p S :: A)) := by
  obtain ⟨j, m, rfl, hj, hn⟩ := nodeOf_some h
  refine Fun.ex (fun w h => hc_open h) ?_
  intro b hb
  obtain ⟨e, he, hem⟩ := hb.at_ hj
  subst hem
  have hl5b : b.l.length ≤ 5 := by rw [hb.len.1]; exact hl5
  refine Fun.ex (fun w h => (hman_up hn (cL_out he h)).elim fun i h => ⟨i, True.intro, h⟩) ?_
  rintro ⟨np, jp⟩ _
  dsimp only
  refine Fun.enter Try.func17 rfl Try.ntmps17 rfl ?_
  refine WC.seq <| WC.region <| sv (vaI rfl) <| WL.nil <| WX.thenN <| WC.seq <| WC.region <| sv (vmP rfl) <| sv (vmI rfl) <| clx (by repeat' (first | with_reducible exact Sb.all | exact Sb.nil | (apply Sb.cons; focus (first | ((repeat (first | with_reducible exact Tk.here | with_reducible apply Tk.there)); done) | ((repeat (first | exact Tk.here | apply Tk.there)); done))) | apply Sb.drop)) (c_of_open hl5b he) ct26 rfl fun r1 hr1 => ?_
  refine clx (by repeat' (first | with_reducible exact Sb.all | exact Sb.nil | (apply Sb.cons; focus (first | ((repeat (first | with_reducible exact Tk.here | with_reducible apply Tk.there)); done) | ((repeat (first | exact Tk.here | apply Tk.there)); done))) | apply Sb.drop)) (raft_role) ct34 rfl fun r2 hr2 => ?_
  exact sv (vaI rfl) <| WL.nil <| WX.thenN <| WC.ret <| WX.ret1 rfl (()) (trivial) rfl (fun w h => hc_mk (by have h2 := hb.set (m := e.m) he; rwa [putM_same hj] at h2) (cL_in he (hman_mkU (np := np) (jp := jp) hn (Sb.own (by repeat' (first | with_reducible exact Sb.all | exact Sb.nil | (apply Sb.cons; focus (first | ((repeat (first | with_reducible exact Tk.here | with_reducible apply Tk.there)); done) | ((repeat (first | exact Tk.here | apply Tk.there)); done))) | apply Sb.drop)) h))))
theorem c_leader_nil {w0 : World} {A : List HProp} {i : Int} : Fun Try.prog w0 21 [.pointer none, .int .i64 i] A (Ret w0 (fun _ : Unit => True) (fun _ => .int .i64 0) (fun _ => A)) := by
  refine Fun.enter Try.func21 rfl Try.ntmps21 rfl ?_
  refine WC.seq <| WC.region <| sv (vaI rfl) <| WL.nil <| WX.thenN <| WC.seq <| WC.region <| sv (vmP rfl) <| sv (vmI rfl) <| clx (by repeat' (first | with_reducible exact Sb.all | exact Sb.nil | (apply Sb.cons; focus (first | ((repeat (first | with_reducible exact Tk.here | with_reducible apply Tk.there)); done) | ((repeat (first | exact Tk.here | apply Tk.there)); done))) | apply Sb.drop)) (c_of_nil) ct26 rfl fun r1 hr1 => ?_
  refine clx (by repeat' (first | with_reducible exact Sb.all | exact Sb.nil | (apply Sb.cons; focus (first | ((repeat (first | with_reducible exact Tk.here | with_reducible apply Tk.there)); done) | ((repeat (first | exact Tk.here | apply Tk.there)); done))) | apply Sb.drop)) (rnil_leader) ct36 rfl fun r2 hr2 => ?_
  exact sv (vaI rfl) <| WL.nil <| WX.thenN <| WC.ret <| WX.ret1 rfl (()) (trivial) rfl (fun _ h => Sb.own (by repeat' (first | with_reducible exact Sb.all | exact Sb.nil | (apply Sb.cons; focus (first | ((repeat (first | with_reducible exact Tk.here | with_reducible apply Tk.there)); done) | ((repeat (first | exact Tk.here | apply Tk.there)); done))) | apply Sb.drop)) h)
theorem c_leader_none {w0 : World} {A : List HProp} {p : Nat} {S : CS} {i : Int} (hl5 : S.ms.length ≤ 5) (h : nodeOf S i = none) : Fun Try.prog w0 21 [.pointer (some ⟨p, 0, none⟩), .int .i64 i] (hc p S :: A) (Ret w0 (fun _ : Unit => True) (fun _ => .int .i64 0) (fun _ => hc p S :: A)) := by
  refine Fun.enter Try.func21 rfl Try.ntmps21 rfl ?_
  refine WC.seq <| WC.region <| sv (vaI rfl) <| WL.nil <| WX.thenN <| WC.seq <| WC.region <| sv (vmP rfl) <| sv (vmI rfl) <| clx (by repeat' (first | with_reducible exact Sb.all | exact Sb.nil | (apply Sb.cons; focus (first | ((repeat (first | with_reducible exact Tk.here | with_reducible apply Tk.there)); done) | ((repeat (first | exact Tk.here | apply Tk.there)); done))) | apply Sb.drop)) (c_of_none hl5 h) ct26 rfl fun r1 hr1 => ?_
  refine clx (by repeat' (first | with_reducible exact Sb.all | exact Sb.nil | (apply Sb.cons; focus (first | ((repeat (first | with_reducible exact Tk.here | with_reducible apply Tk.there)); done) | ((repeat (first | exact Tk.here | apply Tk.there)); done))) | apply Sb.drop)) (rnil_leader) ct36 rfl fun r2 hr2 => ?_
  exact sv (vaI rfl) <| WL.nil <| WX.thenN <| WC.ret <| WX.ret1 rfl (()) (trivial) rfl (fun _ h => Sb.own (by repeat' (first | with_reducible exact Sb.all | exact Sb.nil | (apply Sb.cons; focus (first | ((repeat (first | with_reducible exact Tk.here | with_reducible apply Tk.there)); done) | ((repeat (first | exact Tk.here | apply Tk.there)); done))) | apply Sb.drop)) h)
theorem c_leader_some {w0 : World} {A : List HProp} {p : Nat} {S : CS} {i : Int} {x : Rn} (hl5 : S.ms.length ≤ 5) (h : nodeOf S i = some x) : Fun Try.prog w0 21 [.pointer (some ⟨p, 0, none⟩), .int .i64 i] (hc p S :: A) (Ret w0 (fun _ : Unit => True) (fun _ => .int .i64 x.leader) (fun _ => hc p S :: A)) := by
  obtain ⟨j, m, rfl, hj, hn⟩ := nodeOf_some h
  refine Fun.ex (fun w h => hc_open h) ?_
  intro b hb
  obtain ⟨e, he, hem⟩ := hb.at_ hj
  subst hem
  have hl5b : b.l.length ≤ 5 := by rw [hb.len.1]; exact hl5
  refine Fun.ex (fun w h => (hman_up hn (cL_out he h)).elim fun i h => ⟨i, True.intro, h⟩) ?_
  rintro ⟨np, jp⟩ _
  dsimp only
  refine Fun.enter Try.func21 rfl Try.ntmps21 rfl ?_
  refine WC.seq <| WC.region <| sv (vaI rfl) <| WL.nil <| WX.thenN <| WC.seq <| WC.region <| sv (vmP rfl) <| sv (vmI rfl) <| clx (by repeat' (first | with_reducible exact Sb.all | exact Sb.nil | (apply Sb.cons; focus (first | ((repeat (first | with_reducible exact Tk.here | with_reducible apply Tk.there)); done) | ((repeat (first | exact Tk.here | apply Tk.there)); done))) | apply Sb.drop)) (c_of_open hl5b he) ct26 rfl fun r1 hr1 => ?_
  refine clx (by repeat' (first | with_reducible exact Sb.all | exact Sb.nil | (apply Sb.cons; focus (first | ((repeat (first | with_reducible exact Tk.here | with_reducible apply Tk.there)); done) | ((repeat (first | exact Tk.here | apply Tk.there)); done))) | apply Sb.drop)) (raft_leader) ct36 rfl fun r2 hr2 => ?_
  exact sv (vaI rfl) <| WL.nil <| WX.thenN <| WC.ret <| WX.ret1 rfl (()) (trivial) rfl (fun w h => hc_mk (by have h2 := hb.set (m := e.m) he; rwa [putM_same hj] at h2) (cL_in he (hman_mkU (np := np) (jp := jp) hn (Sb.own (by repeat' (first | with_reducible exact Sb.all | exact Sb.nil | (apply Sb.cons; focus (first | ((repeat (first | with_reducible exact Tk.here | with_reducible apply Tk.there)); done) | ((repeat (first | exact Tk.here | apply Tk.there)); done))) | apply Sb.drop)) h))))
theorem c_commit_nil {w0 : World} {A : List HProp} {i : Int} : Fun Try.prog w0 18 [.pointer none, .int .i64 i] A (Ret w0 (fun _ : Unit => True) (fun _ => .int .i64 0) (fun _ => A)) := by
  refine Fun.enter Try.func18 rfl Try.ntmps18 rfl ?_
  refine WC.seq <| WC.region <| sv (vaI rfl) <| WL.nil <| WX.thenN <| WC.seq <| WC.region <| sv (vmP rfl) <| sv (vmI rfl) <| clx (by repeat' (first | with_reducible exact Sb.all | exact Sb.nil | (apply Sb.cons; focus (first | ((repeat (first | with_reducible exact Tk.here | with_reducible apply Tk.there)); done) | ((repeat (first | exact Tk.here | apply Tk.there)); done))) | apply Sb.drop)) (c_of_nil) ct26 rfl fun r1 hr1 => ?_
  refine clx (by repeat' (first | with_reducible exact Sb.all | exact Sb.nil | (apply Sb.cons; focus (first | ((repeat (first | with_reducible exact Tk.here | with_reducible apply Tk.there)); done) | ((repeat (first | exact Tk.here | apply Tk.there)); done))) | apply Sb.drop)) (rnil_commit) ct35 rfl fun r2 hr2 => ?_
  exact sv (vaI rfl) <| WL.nil <| WX.thenN <| WC.ret <| WX.ret1 rfl (()) (trivial) rfl (fun _ h => Sb.own (by repeat' (first | with_reducible exact Sb.all | exact Sb.nil | (apply Sb.cons; focus (first | ((repeat (first | with_reducible exact Tk.here | with_reducible apply Tk.there)); done) | ((repeat (first | exact Tk.here | apply Tk.there)); done))) | apply Sb.drop)) h)
theorem c_commit_none {w0 : World} {A : List HProp} {p : Nat} {S : CS} {i : Int} (hl5 : S.ms.length ≤ 5) (h : nodeOf S i = none) : Fun Try.prog w0 18 [.pointer (some ⟨p, 0, none⟩), .int .i64 i] (hc p S :: A) (Ret w0 (fun _ : Unit => True) (fun _ => .int .i64 0) (fun _ => hc p S :: A)) := by
  refine Fun.enter Try.func18 rfl Try.ntmps18 rfl ?_
  refine WC.seq <| WC.region <| sv (vaI rfl) <| WL.nil <| WX.thenN <| WC.seq <| WC.region <| sv (vmP rfl) <| sv (vmI rfl) <| clx (by repeat' (first | with_reducible exact Sb.all | exact Sb.nil | (apply Sb.cons; focus (first | ((repeat (first | with_reducible exact Tk.here | with_reducible apply Tk.there)); done) | ((repeat (first | exact Tk.here | apply Tk.there)); done))) | apply Sb.drop)) (c_of_none hl5 h) ct26 rfl fun r1 hr1 => ?_
  refine clx (by repeat' (first | with_reducible exact Sb.all | exact Sb.nil | (apply Sb.cons; focus (first | ((repeat (first | with_reducible exact Tk.here | with_reducible apply Tk.there)); done) | ((repeat (first | exact Tk.here | apply Tk.there)); done))) | apply Sb.drop)) (rnil_commit) ct35 rfl fun r2 hr2 => ?_
  exact sv (vaI rfl) <| WL.nil <| WX.thenN <| WC.ret <| WX.ret1 rfl (()) (trivial) rfl (fun _ h => Sb.own (by repeat' (first | with_reducible exact Sb.all | exact Sb.nil | (apply Sb.cons; focus (first | ((repeat (first | with_reducible exact Tk.here | with_reducible apply Tk.there)); done) | ((repeat (first | exact Tk.here | apply Tk.there)); done))) | apply Sb.drop)) h)
theorem c_commit_some {w0 : World} {A : List HProp} {p : Nat} {S : CS} {i : Int} {x : Rn} (hl5 : S.ms.length ≤ 5) (h : nodeOf S i = some x) : Fun Try.prog w0 18 [.pointer (some ⟨p, 0, none⟩), .int .i64 i] (hc p S :: A) (Ret w0 (fun _ : Unit => True) (fun _ => .int .i64 x.commit) (fun _ => hc p S :: A)) := by
  obtain ⟨j, m, rfl, hj, hn⟩ := nodeOf_some h
  refine Fun.ex (fun w h => hc_open h) ?_
  intro b hb
  obtain ⟨e, he, hem⟩ := hb.at_ hj
  subst hem
  have hl5b : b.l.length ≤ 5 := by rw [hb.len.1]; exact hl5
  refine Fun.ex (fun w h => (hman_up hn (cL_out he h)).elim fun i h => ⟨i, True.intro, h⟩) ?_
  rintro ⟨np, jp⟩ _
  dsimp only
  refine Fun.enter Try.func18 rfl Try.ntmps18 rfl ?_
  refine WC.seq <| WC.region <| sv (vaI rfl) <| WL.nil <| WX.thenN <| WC.seq <| WC.region <| sv (vmP rfl) <| sv (vmI rfl) <| clx (by repeat' (first | with_reducible exact Sb.all | exact Sb.nil | (apply Sb.cons; focus (first | ((repeat (first | with_reducible exact Tk.here | with_reducible apply Tk.there)); done) | ((repeat (first | exact Tk.here | apply Tk.there)); done))) | apply Sb.drop)) (c_of_open hl5b he) ct26 rfl fun r1 hr1 => ?_
  refine clx (by repeat' (first | with_reducible exact Sb.all | exact Sb.nil | (apply Sb.cons; focus (first | ((repeat (first | with_reducible exact Tk.here | with_reducible apply Tk.there)); done) | ((repeat (first | exact Tk.here | apply Tk.there)); done))) | apply Sb.drop)) (raft_commit) ct35 rfl fun r2 hr2 => ?_
  exact sv (vaI rfl) <| WL.nil <| WX.thenN <| WC.ret <| WX.ret1 rfl (()) (trivial) rfl (fun w h => hc_mk (by have h2 := hb.set (m := e.m) he; rwa [putM_same hj] at h2) (cL_in he (hman_mkU (np := np) (jp := jp) hn (Sb.own (by repeat' (first | with_reducible exact Sb.all | exact Sb.nil | (apply Sb.cons; focus (first | ((repeat (first | with_reducible exact Tk.here | with_reducible apply Tk.there)); done) | ((repeat (first | exact Tk.here | apply Tk.there)); done))) | apply Sb.drop)) h))))
theorem c_term_nil {w0 : World} {A : List HProp} {i : Int} : Fun Try.prog w0 14 [.pointer none, .int .i64 i] A (Ret w0 (fun _ : Unit => True) (fun _ => .int .i64 0) (fun _ => A)) := by
  refine Fun.enter Try.func14 rfl Try.ntmps14 rfl ?_
  refine WC.seq <| WC.region <| sv (vaI rfl) <| WL.nil <| WX.thenN <| WC.seq <| WC.region <| sv (vmP rfl) <| sv (vmI rfl) <| clx (by repeat' (first | with_reducible exact Sb.all | exact Sb.nil | (apply Sb.cons; focus (first | ((repeat (first | with_reducible exact Tk.here | with_reducible apply Tk.there)); done) | ((repeat (first | exact Tk.here | apply Tk.there)); done))) | apply Sb.drop)) (c_of_nil) ct26 rfl fun r1 hr1 => ?_
  refine clx (by repeat' (first | with_reducible exact Sb.all | exact Sb.nil | (apply Sb.cons; focus (first | ((repeat (first | with_reducible exact Tk.here | with_reducible apply Tk.there)); done) | ((repeat (first | exact Tk.here | apply Tk.there)); done))) | apply Sb.drop)) (rnil_stable) ct27 rfl fun r2 hr2 => ?_
  exact sv (vfd (off := 0) (by kernel_rfl) rfl rfl) <| sv (vaI rfl) <| WL.nil <| WX.thenN <| WC.ret <| WX.ret1 rfl (()) (trivial) rfl (fun _ h => Sb.own (by repeat' (first | with_reducible exact Sb.all | exact Sb.nil | (apply Sb.cons; focus (first | ((repeat (first | with_reducible exact Tk.here | with_reducible apply Tk.there)); done) | ((repeat (first | exact Tk.here | apply Tk.there)); done))) | apply Sb.drop)) h)
theorem c_term_none {w0 : World} {A : List HProp} {p : Nat} {S : CS} {i : Int} (hl5 : S.ms.length ≤ 5) (h : nodeOf S i = none) : Fun Try.prog w0 14 [.pointer (some ⟨p, 0, none⟩), .int .i64 i] (hc p S :: A) (Ret w0 (fun _ : Unit => True) (fun _ => .int .i64 0) (fun _ => hc p S :: A)) := by
  refine Fun.enter Try.func14 rfl Try.ntmps14 rfl ?_
  refine WC.seq <| WC.region <| sv (vaI rfl) <| WL.nil <| WX.thenN <| WC.seq <| WC.region <| sv (vmP rfl) <| sv (vmI rfl) <| clx (by repeat' (first | with_reducible exact Sb.all | exact Sb.nil | (apply Sb.cons; focus (first | ((repeat (first | with_reducible exact Tk.here | with_reducible apply Tk.there)); done) | ((repeat (first | exact Tk.here | apply Tk.there)); done))) | apply Sb.drop)) (c_of_none hl5 h) ct26 rfl fun r1 hr1 => ?_
  refine clx (by repeat' (first | with_reducible exact Sb.all | exact Sb.nil | (apply Sb.cons; focus (first | ((repeat (first | with_reducible exact Tk.here | with_reducible apply Tk.there)); done) | ((repeat (first | exact Tk.here | apply Tk.there)); done))) | apply Sb.drop)) (rnil_stable) ct27 rfl fun r2 hr2 => ?_
  exact sv (vfd (off := 0) (by kernel_rfl) rfl rfl) <| sv (vaI rfl) <| WL.nil <| WX.thenN <| WC.ret <| WX.ret1 rfl (()) (trivial) rfl (fun _ h => Sb.own (by repeat' (first | with_reducible exact Sb.all | exact Sb.nil | (apply Sb.cons; focus (first | ((repeat (first | with_reducible exact Tk.here | with_reducible apply Tk.there)); done) | ((repeat (first | exact Tk.here | apply Tk.there)); done))) | apply Sb.drop)) h)
theorem c_term_some {w0 : World} {A : List HProp} {p : Nat} {S : CS} {i : Int} {x : Rn} (hl5 : S.ms.length ≤ 5) (h : nodeOf S i = some x) (hx : RInv x) : Fun Try.prog w0 14 [.pointer (some ⟨p, 0, none⟩), .int .i64 i] (hc p S :: A) (Ret w0 (fun _ : Unit => True) (fun _ => .int .i64 x.term) (fun _ => hc p S :: A)) := by
  obtain ⟨j, m, rfl, hj, hn⟩ := nodeOf_some h
  refine Fun.ex (fun w h => hc_open h) ?_
  intro b hb
  obtain ⟨e, he, hem⟩ := hb.at_ hj
  subst hem
  have hl5b : b.l.length ≤ 5 := by rw [hb.len.1]; exact hl5
  refine Fun.ex (fun w h => (hman_up hn (cL_out he h)).elim fun i h => ⟨i, True.intro, h⟩) ?_
  rintro ⟨np, jp⟩ _
  dsimp only
  refine Fun.enter Try.func14 rfl Try.ntmps14 rfl ?_
  refine WC.seq <| WC.region <| sv (vaI rfl) <| WL.nil <| WX.thenN <| WC.seq <| WC.region <| sv (vmP rfl) <| sv (vmI rfl) <| clx (by repeat' (first | with_reducible exact Sb.all | exact Sb.nil | (apply Sb.cons; focus (first | ((repeat (first | with_reducible exact Tk.here | with_reducible apply Tk.there)); done) | ((repeat (first | exact Tk.here | apply Tk.there)); done))) | apply Sb.drop)) (c_of_open hl5b he) ct26 rfl fun r1 hr1 => ?_
  refine clx (by repeat' (first | with_reducible exact Sb.all | exact Sb.nil | (apply Sb.cons; focus (first | ((repeat (first | with_reducible exact Tk.here | with_reducible apply Tk.there)); done) | ((repeat (first | exact Tk.here | apply Tk.there)); done))) | apply Sb.drop)) (raft_stable hx) ct27 rfl fun r2 hr2 => ?_
  exact sv (vfd (off := 0) (by kernel_rfl) rfl rfl) <| sv (vaI rfl) <| WL.nil <| WX.thenN <| WC.ret <| WX.ret1 rfl (()) (trivial) rfl (fun w h => hc_mk (by have h2 := hb.set (m := e.m) he; rwa [putM_same hj] at h2) (cL_in he (hman_mkU (np := np) (jp := jp) hn (Sb.own (by repeat' (first | with_reducible exact Sb.all | exact Sb.nil | (apply Sb.cons; focus (first | ((repeat (first | with_reducible exact Tk.here | with_reducible apply Tk.there)); done) | ((repeat (first | exact Tk.here | apply Tk.there)); done))) | apply Sb.drop)) h))))
theorem c_log_nil {w0 : World} {A : List HProp} {i : Int} : Fun Try.prog w0 15 [.pointer none, .int .i64 i] A (Ret w0 (fun _ : Unit => True) (fun _ => .slice none 0 0) (fun _ => A)) := by
  refine Fun.enter Try.func15 rfl Try.ntmps15 rfl ?_
  refine WC.seq <| WC.region <| sv (vaS rfl) <| WL.nil <| WX.thenN <| WC.seq <| WC.region <| sv (vmP rfl) <| sv (vmI rfl) <| clx (by repeat' (first | with_reducible exact Sb.all | exact Sb.nil | (apply Sb.cons; focus (first | ((repeat (first | with_reducible exact Tk.here | with_reducible apply Tk.there)); done) | ((repeat (first | exact Tk.here | apply Tk.there)); done))) | apply Sb.drop)) (c_of_nil) ct26 rfl fun r1 hr1 => ?_
  refine clx (by repeat' (first | with_reducible exact Sb.all | exact Sb.nil | (apply Sb.cons; focus (first | ((repeat (first | with_reducible exact Tk.here | with_reducible apply Tk.there)); done) | ((repeat (first | exact Tk.here | apply Tk.there)); done))) | apply Sb.drop)) (rnil_stable) ct27 rfl fun r2 hr2 => ?_
  exact sv (vfd (off := 2) (by kernel_rfl) rfl rfl) <| sv (vaS rfl) <| WL.nil <| WX.thenN <| WC.ret <| WX.ret1 rfl (()) (trivial) rfl (fun _ h => Sb.own (by repeat' (first | with_reducible exact Sb.all | exact Sb.nil | (apply Sb.cons; focus (first | ((repeat (first | with_reducible exact Tk.here | with_reducible apply Tk.there)); done) | ((repeat (first | exact Tk.here | apply Tk.there)); done))) | apply Sb.drop)) h)
theorem c_log_none {w0 : World} {A : List HProp} {p : Nat} {S : CS} {i : Int} (hl5 : S.ms.length ≤ 5) (h : nodeOf S i = none) : Fun Try.prog w0 15 [.pointer (some ⟨p, 0, none⟩), .int .i64 i] (hc p S :: A) (Ret w0 (fun _ : Unit => True) (fun _ => .slice none 0 0) (fun _ => hc p S :: A)) := by
  refine Fun.enter Try.func15 rfl Try.ntmps15 rfl ?_
  refine WC.seq <| WC.region <| sv (vaS rfl) <| WL.nil <| WX.thenN <| WC.seq <| WC.region <| sv (vmP rfl) <| sv (vmI rfl) <| clx (by repeat' (first | with_reducible exact Sb.all | exact Sb.nil | (apply Sb.cons; focus (first | ((repeat (first | with_reducible exact Tk.here | with_reducible apply Tk.there)); done) | ((repeat (first | exact Tk.here | apply Tk.there)); done))) | apply Sb.drop)) (c_of_none hl5 h) ct26 rfl fun r1 hr1 => ?_
  refine clx (by repeat' (first | with_reducible exact Sb.all | exact Sb.nil | (apply Sb.cons; focus (first | ((repeat (first | with_reducible exact Tk.here | with_reducible apply Tk.there)); done) | ((repeat (first | exact Tk.here | apply Tk.there)); done))) | apply Sb.drop)) (rnil_stable) ct27 rfl fun r2 hr2 => ?_
  exact sv (vfd (off := 2) (by kernel_rfl) rfl rfl) <| sv (vaS rfl) <| WL.nil <| WX.thenN <| WC.ret <| WX.ret1 rfl (()) (trivial) rfl (fun _ h => Sb.own (by repeat' (first | with_reducible exact Sb.all | exact Sb.nil | (apply Sb.cons; focus (first | ((repeat (first | with_reducible exact Tk.here | with_reducible apply Tk.there)); done) | ((repeat (first | exact Tk.here | apply Tk.there)); done))) | apply Sb.drop)) h)
theorem c_log_some {w0 : World} {A : List HProp} {p : Nat} {S : CS} {i : Int} {x : Rn} (hl5 : S.ms.length ≤ 5) (h : nodeOf S i = some x) (hx : RInv x) : Fun Try.prog w0 15 [.pointer (some ⟨p, 0, none⟩), .int .i64 i] (hc p S :: A) (Ret w0 (fun i : Option Addr × Nat => x.log.length ≤ i.2) (fun i => .slice i.1 x.log.length i.2) (fun i => row i.1 i.2 2 69 (cvs x.log) :: hc p S :: A)) := by
  obtain ⟨j, m, rfl, hj, hn⟩ := nodeOf_some h
  refine Fun.ex (fun w h => hc_open h) ?_
  intro b hb
  obtain ⟨e, he, hem⟩ := hb.at_ hj
  subst hem
  have hl5b : b.l.length ≤ 5 := by rw [hb.len.1]; exact hl5
  refine Fun.ex (fun w h => (hman_up hn (cL_out he h)).elim fun i h => ⟨i, True.intro, h⟩) ?_
  rintro ⟨np, jp⟩ _
  dsimp only
  refine Fun.enter Try.func15 rfl Try.ntmps15 rfl ?_
  refine WC.seq <| WC.region <| sv (vaS rfl) <| WL.nil <| WX.thenN <| WC.seq <| WC.region <| sv (vmP rfl) <| sv (vmI rfl) <| clx (by repeat' (first | with_reducible exact Sb.all | exact Sb.nil | (apply Sb.cons; focus (first | ((repeat (first | with_reducible exact Tk.here | with_reducible apply Tk.there)); done) | ((repeat (first | exact Tk.here | apply Tk.there)); done))) | apply Sb.drop)) (c_of_open hl5b he) ct26 rfl fun r1 hr1 => ?_
  refine clx (by repeat' (first | with_reducible exact Sb.all | exact Sb.nil | (apply Sb.cons; focus (first | ((repeat (first | with_reducible exact Tk.here | with_reducible apply Tk.there)); done) | ((repeat (first | exact Tk.here | apply Tk.there)); done))) | apply Sb.drop)) (raft_stable hx) ct27 rfl fun r2 hr2 => ?_
  exact sv (vfd (off := 2) (by kernel_rfl) rfl rfl) <| sv (vaS rfl) <| WL.nil <| WX.thenN <| WC.ret <| WX.ret1 rfl (r2) (hr2) rfl (fun w h => (hc_mk (by have h2 := hb.set (m := e.m) he; rwa [putM_same hj] at h2) (cL_in he (hman_mkU (A := cL1 p j b (row r2.1 r2.2 2 69 (cvs x.log) :: A)) (np := np) (jp := jp) hn (Sb.own (by repeat' (first | with_reducible exact Sb.all | exact Sb.nil | (apply Sb.cons; focus (first | ((repeat (first | with_reducible exact Tk.here | with_reducible apply Tk.there)); done) | ((repeat (first | exact Tk.here | apply Tk.there)); done))) | apply Sb.drop)) h)))).pk1)
end Go.Proofs.Ytigjompojlhomaa
end
section
set_option linter.unusedVariables false
set_option linter.unusedSimpArgs false
set_option maxRecDepth 4000
namespace Go.Proofs.Ytigjompojlhomaa
open Go.Sl Go.RowKit Go.Raft Go.Journal Go.Pack Go.Council

theorem mvs_kth {l : List Mh} {i k : Nat} {m : Mh} (h : l[i]? = some m) (hk : k < 9) : (mvs l)[i * 9 + k]? = (mv m)[k]? := by
  have hi := (List.getElem?_eq_some_iff.1 h).1
  have := flat_at (f := mv) (s := 9) (l := l) (i := i) (k := k) (fun _ _ => rfl) hi hk
  rw [(List.getElem?_eq_some_iff.1 h).2] at this
  exact this
/-- the cells of a mail are in memory of their own now -/
theorem mvs_put : ∀ {l : List Mh} {i : Nat} {m : Mh} {b : Option Addr} {c : Nat}, l[i]? = some m → (mvs l).set (i * 9 + 8) (.slice b m.cs.xs.length c) = mvs (l.set i { m with cs := ⟨b, m.cs.xs, c⟩ })
  | [], _, _, _, _, h => by simp at h
  | y :: l, 0, m, b, c, h => by
    have : y = m := by simpa using h
    subst this
    show (mv y ++ mvs l).set 8 _ = _
    rw [List.set_append_left _ _ (by show 8 < 9; decide)]
    rfl
  | y :: l, i + 1, m, b, c, h => by
    have ih := mvs_put (l := l) (i := i) (m := m) (b := b) (c := c) (by simpa using h)
    show (mv y ++ mvs l).set _ _ = mv y ++ mvs (l.set i _)
    rw [List.set_append_right _ _ (by show 9 ≤ _; omega), ← ih]
    congr 2
    show (i + 1) * 9 + 8 - 9 = _
    omega
theorem mails_clone {w0 : World} {A : List HProp} {c : Nat} {base : Option Addr} {l : List Mh} (hl : l.length ≤ 256) [hR : Reads w0 A base (mvs l)] :
    Fun Try.prog w0 37 [.slice base l.length c] A
      (Ret w0 (fun i : Option Addr × Nat => l.length ≤ i.2) (fun i => .slice i.1 l.length i.2) (fun i => row i.1 i.2 9 54 (mvs l) :: A)) := by
  refine Fun.enter Try.func37 rfl Try.ntmps37 rfl ?_
  refine WC.seq <| WC.region <| sv (vaS rfl) <| WL.nil <| WX.thenN <| WC.seq <| WC.seq <| WC.region <| sv (vmS rfl) <| sv (vsnl Try.underlying50 rfl rfl) <| WL.nil <| WX.thenN <| ?_
  refine WC.iteb rfl (fun h1 => ?_) (fun h1 => ?_)
  · -- then
    refine WC.known (p := l = []) (fun w h => ?_) fun hnil => ?_
    · rcases Nat.eq_zero_or_pos l.length with h0 | h0
      · exact List.eq_nil_of_length_eq_zero h0
      · have := rsome (base := base) (vs := mvs l) (by rw [mvs_length]; omega) reads h
        rw [Option.isSome_iff_ne_none] at this
        exact absurd (Option.isNone_iff_eq_none.1 h1) this
    subst hnil
    exact WC.seq <| WC.region <| sv (vaS rfl) <| WL.nil <| WX.thenN <| WC.ret <| WX.thenR <| WX.ret1 rfl ((none, 0)) (by simp) rfl (fun _ h => h.intro_row_nil)
  · -- else
    refine WC.skip <| WX.thenN <| WC.seq <| WC.region <| bslz Try.underlying50 zt54 fun b1 => sv (vmS rfl) <| pm (fun _ h => Sb.own (by repeat' (first | with_reducible exact Sb.all | exact Sb.nil | (apply Sb.cons; focus (first | ((repeat (first | with_reducible exact Tk.here | with_reducible apply Tk.there)); done) | ((repeat (first | exact Tk.here | apply Tk.there)); done))) | apply Sb.drop)) h) <| ap (vs := mvs []) (news := mvs l) rfl Try.underlying50 zt54 rfl rfl rfl rfl (mvs_length l) (mvs_one l) reads (by simp only [maxLen]; omega) (by omega) fun base2 c2 hc2 =>?_
    exact sv (vaS rfl) <| WL.nil <| WX.thenN <| WC.ret <| WX.ret1 rfl ((base2, c2)) (by simpa using hc2) (by show Value.slice base2 (0 + l.length) c2 = _; rw [Nat.zero_add]) (fun _ h => Sb.own (by repeat' (first | with_reducible exact Sb.all | exact Sb.nil | (apply Sb.cons; focus (first | ((repeat (first | with_reducible exact Tk.here | with_reducible apply Tk.there)); done) | ((repeat (first | exact Tk.here | apply Tk.there)); done))) | apply Sb.drop)) h)
theorem mails_step {w0 w : World} {A : List HProp} {ms l : List Mh} {m : Mh} {rb sb : Option Addr} {rc sc : Nat} (hm : ms[l.length]? = some m) (H : Own w0 (row sb sc 2 69 (cvs m.cs.xs) :: row rb rc 9 54 ((mvs (l ++ ms.drop l.length)).set (((l.length : Nat) : Int).toNat * 9 + 8) (.slice sb m.cs.xs.length sc)) :: mrows l :: A) w) :
    Own w0 (row rb rc 9 54 (mvs (l ++ [{ m with cs := ⟨sb, m.cs.xs, sc⟩ }] ++ ms.drop (l ++ [{ m with cs := ⟨sb, m.cs.xs, sc⟩ }]).length)) :: mrows (l ++ [{ m with cs := ⟨sb, m.cs.xs, sc⟩ }]) :: A) w := by
  have hkm : (l ++ ms.drop l.length)[l.length]? = some m := by rw [List.getElem?_append_right (Nat.le_refl _), Nat.sub_self, List.getElem?_drop]; exact hm
  obtain ⟨hl, hme⟩ := List.getElem?_eq_some_iff.1 hm
  rw [Int.toNat_natCast, mvs_put hkm, List.set_append_right _ _ (Nat.le_refl _), Nat.sub_self, List.drop_eq_getElem_cons hl, List.set_cons_zero] at H
  have h2 := mrows_snoc (y := { m with cs := ⟨sb, m.cs.xs, sc⟩ }) (l := l) (H.ix [0, 2, 1])
  rw [List.length_append, List.append_assoc]
  exact h2.pk1
theorem c_mails_nil {w0 : World} {A : List HProp} : Fun Try.prog w0 22 [.pointer none] A (Ret w0 (fun _ : Unit => True) (fun _ => .slice none 0 0) (fun _ => A)) := by
  refine Fun.enter Try.func22 rfl Try.ntmps22 rfl ?_
  refine WC.seq <| WC.region <| sv (vaS rfl) <| WL.nil <| WX.thenN <| WC.seq <| WC.seq <| WC.region <| sv (vmP rfl) <| sv (vpeqT Try.underlying25 rfl rfl) <| WL.nil <| WX.thenN <| ?_
  refine WC.tt rfl ?_
  exact WC.seq <| WC.region <| sv (vaS rfl) <| WL.nil <| WX.thenN <| WC.ret <| WX.thenR <| WX.ret1 rfl (()) (trivial) rfl (fun _ h => Sb.own (by repeat' (first | with_reducible exact Sb.all | exact Sb.nil | (apply Sb.cons; focus (first | ((repeat (first | with_reducible exact Tk.here | with_reducible apply Tk.there)); done) | ((repeat (first | exact Tk.here | apply Tk.there)); done))) | apply Sb.drop)) h)
theorem c_mails {w0 : World} {A : List HProp} {p : Nat} {S : CS} (hml : S.mails.length ≤ 256) (hcl : ∀ m ∈ S.mails, m.cells.length ≤ 1099511627776) :
    Fun Try.prog w0 22 [.pointer (some ⟨p, 0, none⟩)] (hc p S :: A) (Ret w0 (fun i : Option Addr × Nat × List Mh => i.2.2.map Mh.ml = S.mails ∧ i.2.2.length ≤ i.2.1) (fun i => .slice i.1 i.2.2.length i.2.1) (fun i => row i.1 i.2.1 9 54 (mvs i.2.2) :: mrows i.2.2 :: hc p S :: A)) := by
  refine Fun.ex (fun w h => hc_open h) ?_
  intro b hcw
  have hbm := hcw.len.2
  refine Fun.enter Try.func22 rfl Try.ntmps22 rfl ?_
  refine WC.seq <| WC.region <| sv (vaS rfl) <| WL.nil <| WX.thenN <| WC.seq <| WC.seq <| WC.region <| sv (vmP rfl) <| sv (vpeqF Try.underlying25 rfl rfl) <| WL.nil <| WX.thenN <| ?_
  refine WC.ff rfl ?_
  refine WC.skip <| WX.thenN <| WC.seq <| WC.region <| sv (vmP rfl) <| sv (vnil rfl) <| sv (vfldp fl58f1 rfl) <| sv (vldc pl50 rfl) <| clx (by repeat' (first | with_reducible exact Sb.all | exact Sb.nil | (apply Sb.cons; focus (first | ((repeat (first | with_reducible exact Tk.here | with_reducible apply Tk.there)); done) | ((repeat (first | exact Tk.here | apply Tk.there)); done))) | apply Sb.drop)) (mails_clone (by omega)) ct37 rfl fun r3 hr3 => ?_
  refine sv (vaS rfl) <| WL.nil <| WX.thenN <| WC.seq <| WC.seq <| WC.region <| sv (vmS rfl) <| sv (vlen Try.underlying50 rfl) <| sv (vmI rfl) <| WL.nil <| WX.thenN <| WC.block <| ?_
  refine WC.loop (ι := List Mh) (fun i => [(14, .int .i64 i.length)]) [(3, .slice _ _ _), (13, .int _ _)] (fun i => row r3.1 r3.2 9 54 (mvs (i ++ b.ms.drop i.length)) :: mrows i :: cL p b A) (fun i => i.length ≤ b.ms.length ∧ i.map Mh.ml = (b.ms.take i.length).map Mh.ml) (fun i => b.ms.length - i.length) ([]) (⟨Nat.zero_le _, by simp⟩) ⟨rfl, trivial⟩ ⟨rfl, rfl, trivial⟩ (fun w h => (Own.intro_emp (Sb.own (by repeat' (first | with_reducible exact Sb.all | exact Sb.nil | (apply Sb.cons; focus (first | ((repeat (first | with_reducible exact Tk.here | with_reducible apply Tk.there)); done) | ((repeat (first | exact Tk.here | apply Tk.there)); done))) | apply Sb.drop)) h)).pk1) ?_
  rintro l ⟨hi1, hi2⟩ ρh
  refine WC.seq <| WC.region <| sv (vlt rfl rfl) <| WL.nil <| WX.thenN <| WC.seq <| ?_
  refine WC.ite rfl (fun h2 => ?_) (fun h2 => ?_)
  · -- then
    have hil : l.length < b.ms.length := by omega
    obtain ⟨m, hm⟩ : ∃ m, b.ms[l.length]? = some m := ⟨_, List.getElem?_eq_getElem hil⟩
    have hcm := hcl m.ml (by rw [← hcw.ms]; exact List.mem_map_of_mem (List.mem_of_getElem? hm))
    have hmx : m.cs.xs.length ≤ 1099511627776 := hcm
    obtain ⟨k, hk⟩ : ∃ k, k = l ++ b.ms.drop l.length := ⟨_, rfl⟩
    have hkl : k.length = b.ms.length := by rw [hk, List.length_append, List.length_drop]; omega
    have hkm : k[l.length]? = some m := by rw [hk, List.getElem?_append_right (Nat.le_refl _), Nat.sub_self, List.getElem?_drop]; exact hm
    rw [← hk]
    have hkv := mvs_length k
    have hpos : 0 < (mvs k).length := by omega
    have hf8 : (mvs k)[((l.length : Int)).toNat * 9 + 8]? = some (.slice m.cs.base m.cs.xs.length m.cs.cap) := by rw [Int.toNat_natCast, mvs_kth hkm (by omega)]; rfl
    have hcr : RdC w0 (mrows b.ms :: A) m.cs.base (cvs m.cs.xs) := mrowsRd (List.Mem.head _) (List.mem_of_getElem? hm)
    refine WC.known (fun w h => rsome (base := r3.1) hpos (RdC.of_row (List.Mem.head _)) h) fun hb => ?_
    refine WC.skip <| WX.thenN <| WC.seq <| WC.block <| WC.seq <| WC.region <| sv (vmI rfl) <| sv (vaI rfl) <| WL.nil <| WX.thenN <| WC.region <| sv (vmS rfl) <| sv (vmI rfl) <| sv (vmS rfl) <| sv (vmI rfl) <| sv (vix Try.underlying50 sz54 rfl rfl (by omega) (by omega) reads hpos) <| sv (vfldr (hb) fl54f8 rfl) <| sv (vldr pl31 rfl hf8) <| clx (by repeat' (first | with_reducible exact Sb.all | exact Sb.nil | (apply Sb.cons; focus (first | ((repeat (first | with_reducible exact Tk.here | with_reducible apply Tk.there)); done) | ((repeat (first | exact Tk.here | apply Tk.there)); done))) | apply Sb.drop)) (raft_clone (hR := ⟨hcr.mono fun _ h => Sb.own (by repeat' (first | with_reducible exact Sb.all | exact Sb.nil | (apply Sb.cons; focus (first | ((repeat (first | with_reducible exact Tk.here | with_reducible apply Tk.there)); done) | ((repeat (first | exact Tk.here | apply Tk.there)); done))) | apply Sb.drop)) h⟩) hmx) ct29 rfl fun r6 hr6 => ?_
    exact sv (vix Try.underlying50 sz54 rfl rfl (by omega) (by omega) reads hpos) <| sv (vfldr (hb) fl54f8 rfl) <| strp (v := .slice r6.1 m.cs.xs.length r6.2) pl31 sz31 rfl rfl rfl (by show ((l.length : Int)).toNat * 9 + 8 < _; omega) <| WL.nil <| WX.blockN <| WX.thenN <| WC.region <| sv (vadd rfl rfl (by omega)) <| sv (vmI rfl) <| WL.nil <| WX.again (l ++ [{ m with cs := ⟨r6.1, m.cs.xs, r6.2⟩ }]) (⟨by rw [List.length_append]; exact hil, by rw [List.length_append, List.map_append, hi2]; show _ ++ _ = (b.ms.take (l.length + 1)).map Mh.ml; rw [List.take_add_one, hm, List.map_append]; rfl⟩) (by rw [List.length_append]; show b.ms.length - (l.length + 1) < _; omega) ⟨iv (by rw [List.length_append]; rfl), trivial⟩ ⟨rfl, rfl, trivial⟩ (fun w h => by rw [hk] at h; exact mails_step hm (Sb.own (by repeat' (first | with_reducible exact Sb.all | exact Sb.nil | (apply Sb.cons; focus (first | ((repeat (first | with_reducible exact Tk.here | with_reducible apply Tk.there)); done) | ((repeat (first | exact Tk.here | apply Tk.there)); done))) | apply Sb.drop)) h))
  · -- else
    refine WC.exit <| WX.thenE <| WX.thenE <| WX.blockH <| WX.thenN <| WC.seq <| WC.region <| sv (vmS rfl) <| sv (vaS rfl) <| WL.nil <| WX.thenN <| WC.ret <| WX.ret1 rfl ((r3.1, r3.2, l)) (⟨by have hll : l.length = b.ms.length := (by omega); rw [hi2, hll, List.take_length, hcw.ms], by dsimp only; omega⟩) (show Value.slice r3.1 b.ms.length r3.2 = .slice r3.1 l.length r3.2 from by rw [show l.length = b.ms.length by omega]) (fun w h => ?_)
    have hll : l.length = b.ms.length := by omega
    rw [hll, List.drop_length, List.append_nil] at h
    exact (hc_mk (A := row r3.1 r3.2 9 54 (mvs l) :: mrows l :: A) hcw (Sb.own (by repeat' (first | with_reducible exact Sb.all | exact Sb.nil | (apply Sb.cons; focus (first | ((repeat (first | with_reducible exact Tk.here | with_reducible apply Tk.there)); done) | ((repeat (first | exact Tk.here | apply Tk.there)); done))) | apply Sb.drop)) h)).ix [1, 2, 0]
end Go.Proofs.Ytigjompojlhomaa
end
section
set_option linter.unusedVariables false
set_option linter.unusedSimpArgs false
set_option maxRecDepth 4000
namespace Go.Proofs.Ytigjompojlhomaa
open Go.Sl Go.RowKit Go.Raft Go.Journal Go.Pack Go.Council

/-- what the code needs of a council -/
structure CO (K : Nat) (S : CS) : Prop where
  n : 1 ≤ S.ms.length ∧ S.ms.length ≤ 5
  mg : ∀ (j : Nat) (m : Mg), S.ms[j]? = some m → MgOk S.ms.length ((j : Int) + 1) K m
  mails : S.mails.length ≤ 256
theorem _root_.Go.Council.CI.co {K : Nat} {S : CS} {g : Gh} (h : CI K S g) : CO K S := ⟨h.n, h.mg, h.mails⟩
theorem CO.lose {K : Nat} {S : CS} {mails : List Ml} (h : CO K S) (hl : mails.length ≤ 256) : CO K ⟨S.ms, mails⟩ := ⟨h.n, h.mg, hl⟩
def stepI (i : Int) (f : Rn → Rn × List Ml) (S : CS) : CS × Bool := if 1 ≤ i then Go.Council.stepC (i - 1).toNat f S else (S, false)
theorem c_step {w0 : World} {A : List HProp} {p K : Nat} {S : CS} {i : Int} {t : TypeId} {v : Value} {fd : FuncId} {f : Rn → Rn × List Ml} (h : CO K S) (hK : K ≤ 505)
    (hmt : methT Try.prog t "watershed/council.do" fd false = true) (hct : callT Try.prog fd = true)
    (hf : ∀ x : Rn, RInv x → RInv (f x).1 ∧ (f x).1.n = x.n ∧ Wr x.log (f x).1.log) (hdo : ∀ x : Rn, RInv x → x.waited ≤ 505 → DoF w0 fd v A A f x) :
    Fun Try.prog w0 30 [.pointer (some ⟨p, 0, none⟩), .int .i64 i, .iface t v] (hc p S :: A) (Ret w0 (fun _ : Unit => True) (fun _ => .bool (stepI i f S).2) (fun _ => hc p (stepI i f S).1 :: A)) := by
  unfold stepI
  by_cases hi : 1 ≤ i
  · rw [if_pos hi]
    obtain ⟨j, hj⟩ : ∃ j : Nat, i = (j : Int) + 1 := ⟨(i - 1).toNat, by omega⟩
    subst hj
    rw [show ((j : Int) + 1 - 1).toNat = j by omega]
    cases hm : S.ms[j]? with
    | none =>
      have e : Go.Council.stepC j f S = (S, false) := by unfold Go.Council.stepC; rw [hm]
      rw [e]
      have hl : ¬ j < S.ms.length := fun hh => by rw [List.getElem?_eq_getElem hh] at hm; cases hm
      exact c_step_high (by omega) (by omega)
    | some m =>
      have hg := h.mg j m hm
      cases hx : m.node with
      | none =>
        have e : Go.Council.stepC j f S = (S, false) := by unfold Go.Council.stepC; rw [hm]; dsimp only; rw [hx]
        rw [e]
        exact c_step_nil h.n.2 hm hx
      | some x =>
        obtain ⟨g1, g2, g3, g4, g5⟩ := hg.up x hx
        obtain ⟨f1, f2, f3⟩ := hf x g2
        have hn := h.n
        exact c_step_up h.n.2 h.mails hm hx hg hK (by omega) f1 (by rw [f2]; exact g3.2) f3 hmt hct (hdo x g2 (by omega))
  · rw [if_neg hi]
    exact c_step_low (by omega)
theorem tick_dof {w0 : World} {A : List HProp} {x : Rn} (hx : RInv x) (hw : x.waited ≤ 505) : DoF w0 102 (.agg #[]) A A tickS x := fun np B => tick_do hx (by omega)
theorem take_dof {w0 : World} {A : List HProp} {x : Rn} {m : Mh} (hx : RInv x) (hml : m.cs.xs.length ≤ 9223372036854775807) (hcc : m.cs.xs.length ≤ m.cs.cap) (hR : RdC w0 A m.cs.base (cvs m.cs.xs)) : DoF w0 87 (.agg (mv m).toArray) A A (fun x => takeS x m.ml) x := fun np B => take_do (hR := ⟨hR.mono fun w h => dropL B h⟩) hx hml hcc
theorem c_do_nil {w0 : World} {A : List HProp} {k i n keep : Int} : Fun Try.prog w0 16 [.pointer none, .agg #[.int .i64 k, .int .i64 i, .int .i64 n, .int .i64 keep]] A (Ret w0 (fun _ : Unit => True) (fun _ => .int .i64 3) (fun _ => A)) := by
  refine Fun.enter Try.func16 rfl Try.ntmps16 rfl ?_
  refine WC.seq <| WC.region <| bxc (v := .agg _) (cs := [.int _ _, .int _ _, .int _ _, .int _ _]) rfl rfl fun b1 => sv (vaI rfl) <| WL.nil <| WX.thenN <| WC.seq <| WC.seq <| WC.region <| sv (vmP rfl) <| sv (vpeqT Try.underlying25 rfl rfl) <| WL.nil <| WX.thenN <| ?_
  refine WC.tt rfl ?_
  exact WC.seq <| WC.region <| sv (vaI rfl) <| WL.nil <| WX.thenN <| WC.ret <| WX.thenR <| WX.ret1 rfl (()) (trivial) rfl (fun _ h => Sb.own (by repeat' (first | with_reducible exact Sb.all | exact Sb.nil | (apply Sb.cons; focus (first | ((repeat (first | with_reducible exact Tk.here | with_reducible apply Tk.there)); done) | ((repeat (first | exact Tk.here | apply Tk.there)); done))) | apply Sb.drop)) h)
theorem c_do_place {w0 : World} {A : List HProp} {p : Nat} {S : CS} {k i n keep : Int} (hk : k = 2 ∨ k = 3 ∨ k = 4) (hn : ¬ (0 ≤ n ∧ n < S.mails.length)) : Fun Try.prog w0 16 [.pointer (some ⟨p, 0, none⟩), .agg #[.int .i64 k, .int .i64 i, .int .i64 n, .int .i64 keep]] (hc p S :: A) (Ret w0 (fun _ : Unit => True) (fun _ => .int .i64 1) (fun _ => hc p S :: A)) := by
  refine Fun.ex (fun w h => hc_open h) ?_
  intro b hcw
  have hbm := hcw.len.2
  refine Fun.enter Try.func16 rfl Try.ntmps16 rfl ?_
  refine WC.seq <| WC.region <| bxc (v := .agg _) (cs := [.int _ _, .int _ _, .int _ _, .int _ _]) rfl rfl fun b1 => sv (vaI rfl) <| WL.nil <| WX.thenN <| WC.seq <| WC.seq <| WC.region <| sv (vmP rfl) <| sv (vpeqF Try.underlying25 rfl rfl) <| WL.nil <| WX.thenN <| ?_
  refine WC.ff rfl ?_
  refine WC.skip <| WX.thenN <| WC.seq <| WC.seq <| WC.region <| sv (vfldpz fl37f0 rfl) <| sv (vldc pl3 rfl) <| WL.nil <| WX.thenN <| WC.block <| ?_
  refine WC.cutvS (ι := Unit) (fun i => [(11, .bool true)]) [(0, .pointer _), (3, .pointer _)] (fun i => True) ⟨rfl, rfl, trivial⟩ ?_ ?_
  · -- up to the join
    refine WC.seq <| WC.region <| sv (veq rfl rfl) <| sv (vaB rfl) <| WL.nil <| WX.thenN <| ?_
    refine WC.ite rfl (fun h2 => ?_) (fun h2 => ?_)
    · -- then
      exact WC.skip <| WX.mid (()) (trivial) ⟨(bT h2).symm, trivial⟩ ⟨rfl, rfl, trivial⟩ (fun _ h => Sb.own (by repeat' (first | with_reducible exact Sb.all | exact Sb.nil | (apply Sb.cons; focus (first | ((repeat (first | with_reducible exact Tk.here | with_reducible apply Tk.there)); done) | ((repeat (first | exact Tk.here | apply Tk.there)); done))) | apply Sb.drop)) h)
    · -- else
      refine WC.seq <| WC.region <| sv (veq rfl rfl) <| sv (vaB rfl) <| WL.nil <| WX.thenN <| ?_
      refine WC.ite rfl (fun h3 => ?_) (fun h3 => ?_)
      · -- then
        exact WC.skip <| WX.mid (()) (trivial) ⟨(bT h3).symm, trivial⟩ ⟨rfl, rfl, trivial⟩ (fun _ h => Sb.own (by repeat' (first | with_reducible exact Sb.all | exact Sb.nil | (apply Sb.cons; focus (first | ((repeat (first | with_reducible exact Tk.here | with_reducible apply Tk.there)); done) | ((repeat (first | exact Tk.here | apply Tk.there)); done))) | apply Sb.drop)) h)
      · -- else
        exact WC.region <| sv (veq rfl rfl) <| sv (vaB rfl) <| WL.nil <| WX.mid (()) (trivial) ⟨(bT (by omega)).symm, trivial⟩ ⟨rfl, rfl, trivial⟩ (fun _ h => Sb.own (by repeat' (first | with_reducible exact Sb.all | exact Sb.nil | (apply Sb.cons; focus (first | ((repeat (first | with_reducible exact Tk.here | with_reducible apply Tk.there)); done) | ((repeat (first | exact Tk.here | apply Tk.there)); done))) | apply Sb.drop)) h)
  · -- behind the join
    intro i hi ρh
    refine WC.tt rfl ?_
    refine WC.seq <| ?_
    refine WC.cutS [(27, .bool (decide (True)))] [(0, .pointer _), (3, .pointer _)] ⟨rfl, rfl, trivial⟩ ?_ fun ρh => ?_
    · -- council.go:131
      refine WC.draws rfl (by kernel_rfl) <| qv (vfldp fl37f2 rfl) <| qv (vldc pl3 rfl) <| qvs (vlt rfl rfl) (fun q1 => ?_) (fun q1 => ?_)
      ·
        exact qv (vmB rfl) <| qng rfl <| qng rfl <| qng rfl <| qng rfl <| qng rfl <| qng rfl <| qng rfl <| qng rfl <| qv (vpkt rfl) <| WQ.nil <| WX.mid () trivial ⟨bT (by first | omega | simp_all | grind), trivial⟩ ⟨rfl, rfl, trivial⟩ (fun _ h => Sb.own (by repeat' (first | with_reducible exact Sb.all | exact Sb.nil | (apply Sb.cons; focus (first | ((repeat (first | with_reducible exact Tk.here | with_reducible apply Tk.there)); done) | ((repeat (first | exact Tk.here | apply Tk.there)); done))) | apply Sb.drop)) h)
      ·
        exact qv (vmB rfl) <| qvg rfl (vfldp fl37f2 rfl) <| qvg rfl (vldc pl3 rfl) <| qvg rfl (vmP rfl) <| qvg rfl (vnil rfl) <| qvg rfl (vfldp fl58f1 rfl) <| qvg rfl (vldc pl50 rfl) <| qvg rfl (vlen Try.underlying50 rfl) <| qvg rfl (vge rfl rfl) <| qv (vpkf rfl) <| WQ.nil <| WX.mid () trivial ⟨bI ⟨fun _ => trivial, fun _ => by omega⟩, trivial⟩ ⟨rfl, rfl, trivial⟩ (fun _ h => Sb.own (by repeat' (first | with_reducible exact Sb.all | exact Sb.nil | (apply Sb.cons; focus (first | ((repeat (first | with_reducible exact Tk.here | with_reducible apply Tk.there)); done) | ((repeat (first | exact Tk.here | apply Tk.there)); done))) | apply Sb.drop)) h)
    refine WC.tt rfl ?_
    exact WC.seq <| WC.region <| sv (vaI rfl) <| WL.nil <| WX.thenN <| WC.ret <| WX.thenR <| WX.blockR <| WX.thenR <| WX.ret1 rfl (()) (trivial) rfl (fun w h => hc_mk hcw (Sb.own (by repeat' (first | with_reducible exact Sb.all | exact Sb.nil | (apply Sb.cons; focus (first | ((repeat (first | with_reducible exact Tk.here | with_reducible apply Tk.there)); done) | ((repeat (first | exact Tk.here | apply Tk.there)); done))) | apply Sb.drop)) h))
theorem c_do_mgr {w0 : World} {A : List HProp} {p : Nat} {S : CS} {k i n keep : Int} (hk : ¬ (k = 2 ∨ k = 3 ∨ k = 4)) (hi : ¬ (1 ≤ i ∧ i ≤ S.ms.length)) : Fun Try.prog w0 16 [.pointer (some ⟨p, 0, none⟩), .agg #[.int .i64 k, .int .i64 i, .int .i64 n, .int .i64 keep]] (hc p S :: A) (Ret w0 (fun _ : Unit => True) (fun _ => .int .i64 1) (fun _ => hc p S :: A)) := by
  refine Fun.ex (fun w h => hc_open h) ?_
  intro b hcw
  have hbm := hcw.len.1
  refine Fun.enter Try.func16 rfl Try.ntmps16 rfl ?_
  refine WC.seq <| WC.region <| bxc (v := .agg _) (cs := [.int _ _, .int _ _, .int _ _, .int _ _]) rfl rfl fun b1 => sv (vaI rfl) <| WL.nil <| WX.thenN <| WC.seq <| WC.seq <| WC.region <| sv (vmP rfl) <| sv (vpeqF Try.underlying25 rfl rfl) <| WL.nil <| WX.thenN <| ?_
  refine WC.ff rfl ?_
  refine WC.skip <| WX.thenN <| WC.seq <| WC.seq <| WC.region <| sv (vfldpz fl37f0 rfl) <| sv (vldc pl3 rfl) <| WL.nil <| WX.thenN <| WC.block <| ?_
  refine WC.cutvS (ι := Unit) (fun i => [(11, .bool false)]) [(0, .pointer _), (3, .pointer _)] (fun i => True) ⟨rfl, rfl, trivial⟩ ?_ ?_
  · -- up to the join
    refine WC.seq <| WC.region <| sv (veq rfl rfl) <| sv (vaB rfl) <| WL.nil <| WX.thenN <| ?_
    refine WC.ite rfl (fun h2 => ?_) (fun h2 => ?_)
    · -- then
      exact WC.skip <| WX.mid (()) (trivial) ⟨(bF (by omega)).symm, trivial⟩ ⟨rfl, rfl, trivial⟩ (fun _ h => Sb.own (by repeat' (first | with_reducible exact Sb.all | exact Sb.nil | (apply Sb.cons; focus (first | ((repeat (first | with_reducible exact Tk.here | with_reducible apply Tk.there)); done) | ((repeat (first | exact Tk.here | apply Tk.there)); done))) | apply Sb.drop)) h)
    · -- else
      refine WC.seq <| WC.region <| sv (veq rfl rfl) <| sv (vaB rfl) <| WL.nil <| WX.thenN <| ?_
      refine WC.ite rfl (fun h3 => ?_) (fun h3 => ?_)
      · -- then
        exact WC.skip <| WX.mid (()) (trivial) ⟨(bF (by omega)).symm, trivial⟩ ⟨rfl, rfl, trivial⟩ (fun _ h => Sb.own (by repeat' (first | with_reducible exact Sb.all | exact Sb.nil | (apply Sb.cons; focus (first | ((repeat (first | with_reducible exact Tk.here | with_reducible apply Tk.there)); done) | ((repeat (first | exact Tk.here | apply Tk.there)); done))) | apply Sb.drop)) h)
      · -- else
        exact WC.region <| sv (veq rfl rfl) <| sv (vaB rfl) <| WL.nil <| WX.mid (()) (trivial) ⟨(bF (by omega)).symm, trivial⟩ ⟨rfl, rfl, trivial⟩ (fun _ h => Sb.own (by repeat' (first | with_reducible exact Sb.all | exact Sb.nil | (apply Sb.cons; focus (first | ((repeat (first | with_reducible exact Tk.here | with_reducible apply Tk.there)); done) | ((repeat (first | exact Tk.here | apply Tk.there)); done))) | apply Sb.drop)) h)
  · -- behind the join
    intro i hi ρh
    refine WC.ff rfl ?_
    refine WC.skip <| WX.blockN <| WX.thenN <| WC.seq <| ?_
    refine WC.cutS [(78, .bool (decide (True)))] [(0, .pointer _), (3, .pointer _)] ⟨rfl, rfl, trivial⟩ ?_ fun ρh => ?_
    · -- council.go:144
      refine WC.draws rfl (by kernel_rfl) <| qv (vfldp fl37f1 rfl) <| qv (vldc pl3 rfl) <| qvs (vlt rfl rfl) (fun q1 => ?_) (fun q1 => ?_)
      ·
        exact qv (vmB rfl) <| qng rfl <| qng rfl <| qng rfl <| qng rfl <| qng rfl <| qng rfl <| qng rfl <| qng rfl <| qv (vpkt rfl) <| WQ.nil <| WX.mid () trivial ⟨bT (by first | omega | simp_all | grind), trivial⟩ ⟨rfl, rfl, trivial⟩ (fun _ h => Sb.own (by repeat' (first | with_reducible exact Sb.all | exact Sb.nil | (apply Sb.cons; focus (first | ((repeat (first | with_reducible exact Tk.here | with_reducible apply Tk.there)); done) | ((repeat (first | exact Tk.here | apply Tk.there)); done))) | apply Sb.drop)) h)
      ·
        exact qv (vmB rfl) <| qvg rfl (vfldp fl37f1 rfl) <| qvg rfl (vldc pl3 rfl) <| qvg rfl (vmP rfl) <| qvg rfl (vnil rfl) <| qvg rfl (vfldpz fl58f0 rfl) <| qvg rfl (vldc pl56 rfl) <| qvg rfl (vlen Try.underlying56 rfl) <| qvg rfl (vgt rfl rfl) <| qv (vpkf rfl) <| WQ.nil <| WX.mid () trivial ⟨bI ⟨fun _ => trivial, fun _ => by omega⟩, trivial⟩ ⟨rfl, rfl, trivial⟩ (fun _ h => Sb.own (by repeat' (first | with_reducible exact Sb.all | exact Sb.nil | (apply Sb.cons; focus (first | ((repeat (first | with_reducible exact Tk.here | with_reducible apply Tk.there)); done) | ((repeat (first | exact Tk.here | apply Tk.there)); done))) | apply Sb.drop)) h)
    refine WC.tt rfl ?_
    exact WC.seq <| WC.region <| sv (vaI rfl) <| WL.nil <| WX.thenN <| WC.ret <| WX.thenR <| WX.ret1 rfl (()) (trivial) rfl (fun w h => hc_mk hcw (Sb.own (by repeat' (first | with_reducible exact Sb.all | exact Sb.nil | (apply Sb.cons; focus (first | ((repeat (first | with_reducible exact Tk.here | with_reducible apply Tk.there)); done) | ((repeat (first | exact Tk.here | apply Tk.there)); done))) | apply Sb.drop)) h))
end Go.Proofs.Ytigjompojlhomaa
end
