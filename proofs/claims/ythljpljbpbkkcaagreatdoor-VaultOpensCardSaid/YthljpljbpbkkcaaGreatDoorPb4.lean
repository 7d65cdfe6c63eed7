/-
  Texts one behind the other: PackSpecD, PackSpecE, VaultRedo, JournalLawB, JournalRefP, JournalRefA, JournalRefB, RefDiskA, RefDiskB, RefDiskC, RefDiskD, RefDiskE, RefDiskF, JournalRefC, JournalLawC, JournalAllP, JournalDoesA, VaultOpen, PackRefC, SlFlat, SlRet.
-/
import Derived.Sort.Walk0
import Derived.Test.YthljpljbpbkkcaaGreatDoorPb3
section
set_option linter.unusedVariables false
set_option linter.unusedSimpArgs false
set_option maxRecDepth 4000
namespace Go.Proofs.YthljpljbpbkkcaaGreatDoor
open Go.Sl Go.Pack Go.RowKit

theorem ref_num {w0 : World} {A : List HProp} {x : Int} (hx : -9223372036854775808 ≤ x ∧ x ≤ 9223372036854775807) :
    Fun Tryz.prog w0 78 [.int .i64 x] A
      (Ret w0 (fun i : Option Addr × Nat => (num x).length ≤ i.2) (fun i => .slice i.1 (num x).length i.2) (fun i => row i.1 i.2 1 5 (u8s (num x)) :: A)) := by
  have hz := zig_lt hx
  have hn := leb_len10 hz
  refine Fun.enter Tryz.func78 rfl Tryz.ntmps78 rfl ?_
  refine WC.seq <| WC.region <| sv (vaS rfl) <| WL.nil <| WX.thenN <| WC.seq <| WC.region <| sv (vaI rfl) <| WL.nil <| WX.thenN <| WC.seq <| WC.seq <| WC.region <| sv (vmI rfl) <| sv (vge rfl rfl) <| WL.nil <| WX.thenN <| ?_
  refine WC.ite rfl (fun h1 => ?_) (fun h1 => ?_)
  · -- then
    refine WC.region <| sv (vmI rfl) <| sv (vcv is3 Tryz.underlying139 rfl) <| sv (vmulr rfl rfl) <| sv (vaI rfl) <| WL.nil <| WX.thenN <| WC.seq <| WC.region <| sv (vaS rfl) <| WL.nil <| WX.thenN <| WC.seq <| WC.block <| ?_
    refine WC.loop (ι := Nat × List UInt8 × Option Addr × Nat) (fun i => [(3, .int .u64 i.1), (4, .slice i.2.2.1 i.2.1.length i.2.2.2)]) [] (fun i => row i.2.2.1 i.2.2.2 1 5 (u8s i.2.1) :: A) (fun i => i.2.1 ++ leb i.1 = leb (zig x)) (fun i => i.1) ((zig x, [], none, 0)) (rfl) ⟨iv (ref_zig_pos hx h1), rfl, trivial⟩ trivial (fun w h => h.intro_row_nil) ?_
    rintro ⟨z, out, base', c'⟩ hi ρh
    dsimp only at hi ⊢
    have hlen : out.length + (leb z).length ≤ 10 := by rw [← List.length_append, hi]; exact hn
    have hpos := leb_pos z
    have hzl : z < 18446744073709551616 ∨ True := .inr trivial
    refine WC.seq <| WC.seq <| WC.region <| sv (vmI rfl) <| sv (vge rfl rfl) <| WL.nil <| WX.thenN <| ?_
    refine WC.ite rfl (fun h2 => ?_) (fun h2 => ?_)
    · -- then
      have h3 := leb_ge (z := z) (by omega)
      refine WC.skip <| WX.thenN <| WC.block <| WC.seq <| WC.region <| sv (vmS rfl) <| sv (vmI rfl) <| sv (vrem rfl rfl (by decide)) <| sv (vaddr rfl rfl) <| sv (vcv is139 Tryz.underlying5 rfl) <| ap1 (v := .int _ _) Tryz.underlying23 zt5 rfl (fun _ => rfl) (fun _ => rfl) rfl rfl rfl (by simp) (by simp only [maxLen]; omega) (by omega) fun _ base10 c10 hc10 => sv (vaS rfl) <| WL.nil <| WX.thenN <| WC.region <| sv (vmI rfl) <| sv (vquo rfl rfl (by decide)) <| sv (vaI rfl) <| WL.nil <| WX.blockN <| WX.again ((z / 128, out ++ [UInt8.ofNat (z % 128 + 128)], base10, c10)) (by simp only; rw [List.append_assoc, List.singleton_append, ← h3]; exact hi) (by simp only; omega) ⟨iv (ref_quo (by have : z ≤ zig x := (leb_sub hi); omega)), by simp only [List.length_append]; rfl, trivial⟩ trivial (fun w h => ?_)
      rw [ref_more] at h
      have e : u8s out ++ [u8v (UInt8.ofNat (z % 128 + 128))] = u8s (out ++ [UInt8.ofNat (z % 128 + 128)]) := by simp [u8s]
      rw [e] at h
      exact h
    · -- else
      have h3 := leb_lt (z := z) (by omega)
      refine WC.exit <| WX.thenE <| WX.thenE <| WX.blockH <| WX.thenN <| WC.seq <| WC.region <| sv (vmS rfl) <| sv (vmI rfl) <| sv (vcv is139 Tryz.underlying5 rfl) <| ap1 (v := .int _ _) Tryz.underlying23 zt5 rfl (fun _ => rfl) (fun _ => rfl) rfl rfl rfl (by simp) (by simp only [maxLen]; omega) (by omega) fun _ base14 c14 hc14 => sv (vaS rfl) <| WL.nil <| WX.thenN <| WC.seq <| WC.region <| sv (vmS rfl) <| sv (vaS rfl) <| WL.nil <| WX.thenN <| WC.ret <| WX.ret1 rfl ((base14, c14)) (by unfold num; rw [← hi, h3, List.length_append, List.length_singleton]; dsimp only; omega) (by unfold num; rw [← hi, h3, List.length_append]; rfl) (fun w h => ?_)
      rw [byte_last z (by omega)] at h
      have e : u8s out ++ [u8v (UInt8.ofNat z)] = u8s (num x) := by unfold num; rw [← hi, h3]; simp [u8s]
      rw [e] at h
      exact h
  · -- else
    refine WC.region <| sv (vmI rfl) <| sv (vadd rfl rfl (by omega)) <| sv (vneg rfl) <| sv (vcv is3 Tryz.underlying139 rfl) <| sv (vmulr rfl rfl) <| sv (vaddr rfl rfl) <| sv (vaI rfl) <| WL.nil <| WX.thenN <| WC.seq <| WC.region <| sv (vaS rfl) <| WL.nil <| WX.thenN <| WC.seq <| WC.block <| ?_
    refine WC.loop (ι := Nat × List UInt8 × Option Addr × Nat) (fun i => [(3, .int .u64 i.1), (4, .slice i.2.2.1 i.2.1.length i.2.2.2)]) [] (fun i => row i.2.2.1 i.2.2.2 1 5 (u8s i.2.1) :: A) (fun i => i.2.1 ++ leb i.1 = leb (zig x) ∧ i.1 < 18446744073709551616) (fun i => i.1) ((zig x, [], none, 0)) (⟨rfl, hz⟩) ⟨iv (ref_zig_neg hx h1), rfl, trivial⟩ trivial (fun w h => h.intro_row_nil) ?_
    rintro ⟨z, out, base', c'⟩ ⟨hi, hzl⟩ ρh
    dsimp only at hi hzl ⊢
    have hlen : out.length + (leb z).length ≤ 10 := by rw [← List.length_append, hi]; exact hn
    have hpos := leb_pos z
    refine WC.seq <| WC.seq <| WC.region <| sv (vmI rfl) <| sv (vge rfl rfl) <| WL.nil <| WX.thenN <| ?_
    refine WC.ite rfl (fun h3 => ?_) (fun h3 => ?_)
    · -- then
      have h3 := leb_ge (z := z) (by omega)
      refine WC.skip <| WX.thenN <| WC.block <| WC.seq <| WC.region <| sv (vmS rfl) <| sv (vmI rfl) <| sv (vrem rfl rfl (by decide)) <| sv (vaddr rfl rfl) <| sv (vcv is139 Tryz.underlying5 rfl) <| ap1 (v := .int _ _) Tryz.underlying23 zt5 rfl (fun _ => rfl) (fun _ => rfl) rfl rfl rfl (by simp) (by simp only [maxLen]; omega) (by omega) fun _ base10 c10 hc10 => sv (vaS rfl) <| WL.nil <| WX.thenN <| WC.region <| sv (vmI rfl) <| sv (vquo rfl rfl (by decide)) <| sv (vaI rfl) <| WL.nil <| WX.blockN <| WX.again ((z / 128, out ++ [UInt8.ofNat (z % 128 + 128)], base10, c10)) (⟨by simp only; rw [List.append_assoc, List.singleton_append, ← h3]; exact hi, by simp only; omega⟩) (by simp only; omega) ⟨iv (ref_quo hzl), by simp only [List.length_append]; rfl, trivial⟩ trivial (fun w h => ?_)
      rw [ref_more] at h
      have e : u8s out ++ [u8v (UInt8.ofNat (z % 128 + 128))] = u8s (out ++ [UInt8.ofNat (z % 128 + 128)]) := by simp [u8s]
      rw [e] at h
      exact h
    · -- else
      have h3 := leb_lt (z := z) (by omega)
      refine WC.exit <| WX.thenE <| WX.thenE <| WX.blockH <| WX.thenN <| WC.seq <| WC.region <| sv (vmS rfl) <| sv (vmI rfl) <| sv (vcv is139 Tryz.underlying5 rfl) <| ap1 (v := .int _ _) Tryz.underlying23 zt5 rfl (fun _ => rfl) (fun _ => rfl) rfl rfl rfl (by simp) (by simp only [maxLen]; omega) (by omega) fun _ base14 c14 hc14 => sv (vaS rfl) <| WL.nil <| WX.thenN <| WC.seq <| WC.region <| sv (vmS rfl) <| sv (vaS rfl) <| WL.nil <| WX.thenN <| WC.ret <| WX.ret1 rfl ((base14, c14)) (by unfold num; rw [← hi, h3, List.length_append, List.length_singleton]; dsimp only; omega) (by unfold num; rw [← hi, h3, List.length_append]; rfl) (fun w h => ?_)
      rw [byte_last z (by omega)] at h
      have e : u8s out ++ [u8v (UInt8.ofNat z)] = u8s (num x) := by unfold num; rw [← hi, h3]; simp [u8s]
      rw [e] at h
      exact h

theorem ref_text {w0 : World} {A : List HProp} {s : ByteArray} (hs : s.size ≤ 140737488351232) :
    Fun Tryz.prog w0 79 [.string s] A
      (Ret w0 (fun i : Option Addr × Nat => (text s.data.toList).length ≤ i.2) (fun i => .slice i.1 (text s.data.toList).length i.2) (fun i => row i.1 i.2 1 5 (u8s (text s.data.toList)) :: A)) := by
  have hx : -9223372036854775808 ≤ (s.size : Int) ∧ (s.size : Int) ≤ 9223372036854775807 := by omega
  have hn := num_len hx
  have hz : s.data.toList.length = s.size := by simp
  refine Fun.enter Tryz.func79 rfl Tryz.ntmps79 rfl ?_
  refine WC.seq <| WC.region <| sv (vaS rfl) <| WL.nil <| WX.thenN <| WC.seq <| WC.region <| sv (vmT rfl) <| sv (vlens Tryz.underlying9 rfl) <| cl (ref_num hx) ct78 rfl fun r _ => sv (vaS rfl) <| WL.nil <| WX.thenN <| WC.seq <| WC.region <| sv (vmS rfl) <| sv (vmT rfl) <| aps Tryz.underlying23 (.inl Tryz.underlying9) zt5 rfl rfl rfl (by simp) (by simp only [maxLen]; omega) (by omega) fun base' c' hc' => sv (vaS rfl) <| WL.nil <| WX.thenN <| WC.seq <| WC.region <| sv (vmS rfl) <| sv (vaS rfl) <| WL.nil <| WX.thenN <| WC.ret <| WX.ret1 rfl ((base', c')) (by unfold text; rw [List.length_append, hz]; dsimp only; omega) (by unfold text; rw [List.length_append, hz]; rfl) (fun w h => ?_)
  have e : u8s (num (s.size : Int)) ++ u8s s.data.toList = u8s (text s.data.toList) := by unfold text; rw [hz]; simp [u8s]
  rw [e] at h
  exact h

end Go.Proofs.YthljpljbpbkkcaaGreatDoor
end
section
set_option linter.unusedVariables false
set_option linter.unusedSimpArgs false
set_option maxRecDepth 4000
namespace Go.Proofs.YthljpljbpbkkcaaGreatDoor
open Go.Sl Go.Pack Go.RowKit

theorem lebval_drop : ∀ (l : List UInt8) (k : Nat), lebval (l.drop k) ≤ lebval l
  | l, 0 => by simp
  | [], k + 1 => by simp
  | c :: r, k + 1 => by
    have := lebval_drop r k
    simp only [List.drop_succ_cons, lebval]; omega
theorem lebval_step {l : List UInt8} {m : Nat} (h : m < l.length) : lebval (l.drop m) = (l.getD m 0).toNat % 128 + 128 * lebval (l.drop (m + 1)) := by
  rw [List.drop_eq_getElem_cons h, lebval, List.getD_eq_getElem?_getD, List.getElem?_eq_getElem h]; rfl
theorem take_ok {bs : List UInt8} (h : okEnd 0 bs) : take bs = some (zag (lebval (bs.take (lead bs + 1))), lead bs + 1) ∧ lebval (bs.take (lead bs + 1)) < 18446744073709551616 := by
  have h1 := (rdn_spec bs 0 0 (by omega)).1 h
  have h2 := (rdn_lt bs 0 0 (by decide) (by omega) _ h1).1
  simp at h1 h2
  exact ⟨by unfold take; rw [h1]; rfl, h2⟩
theorem take_no {bs : List UInt8} (h : ¬ okEnd 0 bs) : take bs = none := by
  unfold take; rw [(rdn_spec bs 0 0 (by omega)).2 h]; rfl
theorem ref_acc {z c : Nat} (h : c % 128 + 128 * z < 18446744073709551616) (hc : c < 256) : IntKind.u64.wrap (IntKind.u64.wrap ((z : Int) * 128) + (IntKind.u64.wrap (c : Int)).tmod 128) = ((c % 128 + 128 * z : Nat) : Int) := by
  rw [wrap_u64 (a := (c : Int)) (by omega), wrap_u64 (a := (z : Int) * 128) (by omega)]
  have : ((c : Int)).tmod 128 = ((c % 128 : Nat) : Int) := by
    rw [Int.tmod_eq_emod_of_nonneg (by omega)]; omega
  rw [this, wrap_u64 (by omega)]
  omega
theorem ref_even {z : Nat} (h : z < 18446744073709551616) : IntKind.i64.wrap (IntKind.u64.wrap ((z : Int).tdiv 2)) = ((z / 2 : Nat) : Int) := by
  have : ((z : Int)).tdiv 2 = ((z / 2 : Nat) : Int) := by rw [Int.tdiv_eq_ediv_of_nonneg (by omega)]; omega
  rw [this, wrap_u64 (by omega), IntKind.wrap_i64]
  omega
theorem ref_odd {z : Nat} (h : z < 18446744073709551616) : IntKind.i64.wrap (0 - IntKind.i64.wrap (IntKind.u64.wrap ((z : Int).tdiv 2))) = -((z / 2 : Nat) : Int) := by
  rw [ref_even h, IntKind.wrap_i64]
  omega
theorem tmod2 {z : Nat} : ((z : Int)).tmod 2 = ((z % 2 : Nat) : Int) := by
  rw [Int.tmod_eq_emod_of_nonneg (by omega)]; omega
theorem tup2 {a b c d : Int} (h1 : a = c) (h2 : b = d) : Value.tuple #[.int .i64 a, .int .i64 b] = Value.tuple #[.int .i64 c, .int .i64 d] := by rw [h1, h2]
theorem ref_take {w0 : World} {A : List HProp} {base : Option Addr} {c : Nat} {bs : List UInt8} [hR : Reads w0 A base (u8s bs)] (hb : bs.length ≤ 140737488355328) :
    Fun Tryz.prog w0 93 [.slice base bs.length c] A
      (Ret w0 (fun _ : Unit => True) (fun _ => .tuple #[.int .i64 (((take bs).map (·.1)).getD 0), .int .i64 ((((take bs).map (·.2)).getD 0 : Nat) : Int)]) (fun _ => A)) := by
  refine Fun.enter Tryz.func93 rfl Tryz.ntmps93 rfl ?_
  refine WC.seq <| WC.region <| sv (vaI rfl) <| sv (vaI rfl) <| WL.nil <| WX.thenN <| WC.seq <| WC.region <| sv (vaI rfl) <| WL.nil <| WX.thenN <| WC.seq <| WC.block <| ?_
  refine WC.loop (ι := Nat) (fun i => [(4, .int .i64 i)]) [(0, .slice _ _ _)] (fun i => A) (fun i => i ≤ bs.length ∧ ∀ j, j < i → 128 ≤ (bs.getD j 0).toNat) (fun i => bs.length - i) (0) (⟨by omega, fun j h => by omega⟩) ⟨rfl, trivial⟩ ⟨rfl, trivial⟩ (fun _ h => h) ?_
  rintro n ⟨hn, hj⟩ ρh
  refine WC.seq <| ?_
  refine WC.cut0 [(17, .bool (decide (n < bs.length ∧ 128 ≤ (bs.getD n 0).toNat)))] [(0, .slice _ _ _), (4, .int _ _)] (A) ⟨rfl, rfl, trivial⟩ ?_ fun ρh => ?_
  · -- ref.go:31
    refine WC.region <| sv (vmI rfl) <| sv (vmS rfl) <| sv (vlen Tryz.underlying23 rfl) <| svs (vlt rfl rfl) (fun q1 => ?_) (fun q1 => ?_)
    ·
      exact sv (vmB rfl) <| svg rfl (vmS rfl) <| svg rfl (vmI rfl) <| svg rfl (vixb Tryz.underlying23 sz5 rfl rfl (by omega) (by omega) (by omega)) <| svg rfl (vldr pl5 rfl (u8s_getD (by omega))) <| svg rfl (vge rfl rfl) <| sv (vpkt rfl) <| WL.nil <| WX.mid () trivial ⟨bI (by first | omega | simp_all | grind), trivial⟩ ⟨rfl, rfl, trivial⟩ (fun _ h => h)
    ·
      exact sv (vmB rfl) <| sng rfl <| sng rfl <| sng rfl <| sng rfl <| sng rfl <| sv (vpkf rfl) <| WL.nil <| WX.mid () trivial ⟨bF (by first | omega | simp_all | grind), trivial⟩ ⟨rfl, rfl, trivial⟩ (fun _ h => h)
  refine WC.ite rfl (fun h1 => ?_) (fun h1 => ?_)
  · -- then
    exact WC.skip <| WX.thenN <| WC.block <| WC.region <| sv (vmI rfl) <| sv (vadd rfl rfl (by omega)) <| sv (vaI rfl) <| WL.nil <| WX.blockN <| WX.again (n + 1) (⟨by omega, fun j h => by rcases Nat.lt_succ_iff_lt_or_eq.1 h with h | rfl; exact hj j h; exact h1.2⟩) (by omega) ⟨rfl, trivial⟩ ⟨rfl, trivial⟩ (fun _ h => h)
  · -- else
    have hl : lead bs = n := lead_eq bs n hn hj (fun h => by omega)
    refine WC.exit <| WX.thenE <| WX.thenE <| WX.blockH <| WX.thenN <| WC.seq <| ?_
    refine WC.cut0 [(49, .bool (decide (¬ (n < bs.length ∧ n ≤ 9 ∧ ¬ (0 < n ∧ (bs.getD n 0).toNat = 0) ∧ ¬ (n = 9 ∧ (bs.getD n 0).toNat ≠ 1)))))] [(0, .slice _ _ _), (4, .int _ _)] (A) ⟨rfl, rfl, trivial⟩ ?_ fun ρh => ?_
    · -- ref.go:34
      refine WC.region <| sv (vmI rfl) <| sv (vmS rfl) <| sv (vlen Tryz.underlying23 rfl) <| svs (vge rfl rfl) (fun q2 => ?_) (fun q2 => ?_)
      ·
        exact sv (vmB rfl) <| sng rfl <| sng rfl <| sv (vpkt rfl) <| sv (vmB rfl) <| sng rfl <| sng rfl <| sng rfl <| sng rfl <| sng rfl <| sng rfl <| sng rfl <| sng rfl <| sng rfl <| sv (vpkt rfl) <| sv (vmB rfl) <| sng rfl <| sng rfl <| sng rfl <| sng rfl <| sng rfl <| sng rfl <| sng rfl <| sng rfl <| sng rfl <| sv (vpkt rfl) <| WL.nil <| WX.mid () trivial ⟨bT (by first | omega | simp_all | grind), trivial⟩ ⟨rfl, rfl, trivial⟩ (fun _ h => h)
      ·
        refine sv (vmB rfl) <| svg rfl (vmI rfl) <| svsg rfl (vgt rfl rfl) (fun q3 => ?_) (fun q3 => ?_)
        ·
          exact sv (vpkf rfl) <| sv (vmB rfl) <| sng rfl <| sng rfl <| sng rfl <| sng rfl <| sng rfl <| sng rfl <| sng rfl <| sng rfl <| sng rfl <| sv (vpkt rfl) <| sv (vmB rfl) <| sng rfl <| sng rfl <| sng rfl <| sng rfl <| sng rfl <| sng rfl <| sng rfl <| sng rfl <| sng rfl <| sv (vpkt rfl) <| WL.nil <| WX.mid () trivial ⟨bT (by first | omega | simp_all | grind), trivial⟩ ⟨rfl, rfl, trivial⟩ (fun _ h => h)
        ·
          refine sv (vpkf rfl) <| sv (vmB rfl) <| svg rfl (vmI rfl) <| svsg rfl (vgt rfl rfl) (fun q4 => ?_) (fun q4 => ?_)
          ·
            refine svg rfl (vmB rfl) <| svg rfl (vmS rfl) <| svg rfl (vmI rfl) <| svg rfl (vixb Tryz.underlying23 sz5 rfl rfl (by omega) (by omega) (by omega)) <| svg rfl (vldr pl5 rfl (u8s_getD (by omega))) <| svsg rfl (veq rfl rfl) (fun q5 => ?_) (fun q5 => ?_)
            ·
              exact svg rfl (vpkt rfl) <| sv (vpkf rfl) <| sv (vmB rfl) <| sng rfl <| sng rfl <| sng rfl <| sng rfl <| sng rfl <| sng rfl <| sng rfl <| sng rfl <| sng rfl <| sv (vpkt rfl) <| WL.nil <| WX.mid () trivial ⟨bT (by first | omega | simp_all | grind), trivial⟩ ⟨rfl, rfl, trivial⟩ (fun _ h => h)
            ·
              refine svg rfl (vpkt rfl) <| sv (vpkf rfl) <| sv (vmB rfl) <| svg rfl (vmI rfl) <| svsg rfl (veq rfl rfl) (fun q6 => ?_) (fun q6 => ?_)
              ·
                exact svg rfl (vmB rfl) <| svg rfl (vmS rfl) <| svg rfl (vmI rfl) <| svg rfl (vixb Tryz.underlying23 sz5 rfl rfl (by omega) (by omega) (by omega)) <| svg rfl (vldr pl5 rfl (u8s_getD (by omega))) <| svg rfl (vne rfl rfl) <| svg rfl (vpkt rfl) <| sv (vpkf rfl) <| WL.nil <| WX.mid () trivial ⟨bI (by first | omega | simp_all | grind), trivial⟩ ⟨rfl, rfl, trivial⟩ (fun _ h => h)
              ·
                exact svg rfl (vmB rfl) <| sng rfl <| sng rfl <| sng rfl <| sng rfl <| sng rfl <| svg rfl (vpkf rfl) <| sv (vpkf rfl) <| WL.nil <| WX.mid () trivial ⟨bF (by first | omega | simp_all | grind), trivial⟩ ⟨rfl, rfl, trivial⟩ (fun _ h => h)
          ·
            refine svg rfl (vmB rfl) <| sng rfl <| sng rfl <| sng rfl <| sng rfl <| sng rfl <| svg rfl (vpkf rfl) <| sv (vpkf rfl) <| sv (vmB rfl) <| svg rfl (vmI rfl) <| svsg rfl (veq rfl rfl) (fun q7 => ?_) (fun q7 => ?_)
            ·
              exact svg rfl (vmB rfl) <| svg rfl (vmS rfl) <| svg rfl (vmI rfl) <| svg rfl (vixb Tryz.underlying23 sz5 rfl rfl (by omega) (by omega) (by omega)) <| svg rfl (vldr pl5 rfl (u8s_getD (by omega))) <| svg rfl (vne rfl rfl) <| svg rfl (vpkt rfl) <| sv (vpkf rfl) <| WL.nil <| WX.mid () trivial ⟨bI (by first | omega | simp_all | grind), trivial⟩ ⟨rfl, rfl, trivial⟩ (fun _ h => h)
            ·
              exact svg rfl (vmB rfl) <| sng rfl <| sng rfl <| sng rfl <| sng rfl <| sng rfl <| svg rfl (vpkf rfl) <| sv (vpkf rfl) <| WL.nil <| WX.mid () trivial ⟨bF (by first | omega | simp_all | grind), trivial⟩ ⟨rfl, rfl, trivial⟩ (fun _ h => h)
    refine WC.ite rfl (fun h2 => ?_) (fun h2 => ?_)
    · -- then
      have ht := take_no (bs := bs) (by unfold okEnd; rw [hl]; omega)
      exact WC.seq <| WC.region <| sv (vaI rfl) <| sv (vaI rfl) <| WL.nil <| WX.thenN <| WC.ret <| WX.thenR <| WX.ret2 rfl (()) (trivial) (by rw [ht]; rfl) (fun _ h => h)
    · -- else
      have hok : okEnd 0 bs := by unfold okEnd; rw [hl]; omega
      obtain ⟨ht, hz⟩ := take_ok hok
      rw [hl] at ht hz
      refine WC.skip <| WX.thenN <| WC.seq <| WC.region <| sv (vaI rfl) <| WL.nil <| WX.thenN <| WC.seq <| WC.seq <| WC.region <| sv (vmI rfl) <| sv (vaI rfl) <| WL.nil <| WX.thenN <| WC.block <| ?_
      refine WC.loop (ι := Nat) (fun i => [(5, .int .u64 (lebval ((bs.take (n + 1)).drop i))), (6, .int .i64 ((i : Int) - 1))]) [(0, .slice _ _ _), (4, .int _ _)] (fun i => A) (fun i => i ≤ n + 1) (fun i => i) (n + 1) (by omega) ⟨iv (by simp [lebval]), iv (by omega), trivial⟩ ⟨rfl, rfl, trivial⟩ (fun _ h => h) ?_
      intro i hi ρh
      refine WC.seq <| WC.seq <| WC.region <| sv (vmI rfl) <| sv (vge rfl rfl) <| WL.nil <| WX.thenN <| ?_
      refine WC.ite rfl (fun h3 => ?_) (fun h3 => ?_)
      · -- then
        obtain ⟨m, rfl⟩ : ∃ m, i = m + 1 := ⟨i - 1, by omega⟩
        have hi1 : (((m + 1 : Nat) : Int) - 1) = (m : Int) := by omega
        rw [hi1]
        have hs := lebval_step (l := bs.take (n + 1)) (m := m) (by simp; omega)
        have hg : (bs.take (n + 1)).getD m 0 = bs.getD m 0 := by rw [List.getD_eq_getElem?_getD, List.getD_eq_getElem?_getD, List.getElem?_take_of_lt (by omega)]
        rw [hg] at hs
        have hle := lebval_drop (bs.take (n + 1)) m
        have hacc := ref_acc (z := lebval ((bs.take (n + 1)).drop (m + 1))) (c := (bs.getD m 0).toNat) (by omega) (UInt8.toNat_lt _)
        exact WC.skip <| WX.thenN <| WC.seq <| WC.block <| WC.region <| sv (vmI rfl) <| sv (vmulr rfl rfl) <| sv (vmS rfl) <| sv (vmI rfl) <| sv (vixb Tryz.underlying23 sz5 rfl rfl (by omega) (by omega) (by omega)) <| sv (vldr pl5 rfl (u8s_getD (by omega))) <| sv (vcv is5 Tryz.underlying139 rfl) <| sv (vrem rfl rfl (by decide)) <| sv (vaddr rfl rfl) <| sv (vaI rfl) <| WL.nil <| WX.blockN <| WX.thenN <| WC.region <| sv (vmI rfl) <| sv (vsub rfl rfl (by omega)) <| sv (vaI rfl) <| WL.nil <| WX.again (m) (by omega) (by omega) ⟨iv (by rw [hs]; exact hacc), rfl, trivial⟩ ⟨rfl, rfl, trivial⟩ (fun _ h => h)
      · -- else
        have hi0 : i = 0 := by omega
        subst hi0
        simp only [List.drop_zero]
        have hev := ref_even hz
        have hod := ref_odd hz
        have h2m := tmod2 (z := lebval (bs.take (n + 1)))
        refine WC.exit <| WX.thenE <| WX.thenE <| WX.blockH <| WX.thenN <| WC.seq <| WC.seq <| WC.region <| sv (vmI rfl) <| sv (vrem rfl rfl (by decide)) <| sv (veq rfl rfl) <| WL.nil <| WX.thenN <| ?_
        refine WC.ite rfl (fun h4 => ?_) (fun h4 => ?_)
        · -- then
          have hzag : zag (lebval (bs.take (n + 1))) = ((lebval (bs.take (n + 1)) / 2 : Nat) : Int) := by unfold zag; rw [if_pos (by omega)]
          exact WC.seq <| WC.region <| sv (vmI rfl) <| sv (vquo rfl rfl (by decide)) <| sv (vcv is139 Tryz.underlying3 rfl) <| sv (vmI rfl) <| sv (vadd rfl rfl (by omega)) <| sv (vaI rfl) <| sv (vaI rfl) <| WL.nil <| WX.thenN <| WC.ret <| WX.thenR <| WX.ret2 rfl (()) (trivial) (by rw [ht]; exact tup2 (by rw [hev, ← hzag]; rfl) rfl) (fun _ h => h)
        · -- else
          have hzag : zag (lebval (bs.take (n + 1))) = -((lebval (bs.take (n + 1)) / 2 : Nat) : Int) - 1 := by unfold zag; rw [if_neg (by omega)]
          exact WC.skip <| WX.thenN <| WC.seq <| WC.region <| sv (vmI rfl) <| sv (vquo rfl rfl (by decide)) <| sv (vcv is139 Tryz.underlying3 rfl) <| sv (vneg rfl) <| sv (vsub rfl rfl (by omega)) <| sv (vmI rfl) <| sv (vadd rfl rfl (by omega)) <| sv (vaI rfl) <| sv (vaI rfl) <| WL.nil <| WX.thenN <| WC.ret <| WX.ret2 rfl (()) (trivial) (by rw [ht]; exact tup2 (by rw [hod, ← hzag]; rfl) rfl) (fun _ h => h)

/-- The document's reader: what is left of bytes that were there before; none: there was a fault. -/
def rread (w0 : World) (r : Nat) (st : Option (List UInt8)) : HProp := fun h => ∃ base c bs, (bs.length ≤ c ∧ Rd w0 base (u8s bs) ∧ ∀ b, st = some b → bs = b) ∧ cel r [.slice base bs.length c, .bool st.isNone] 125 h
theorem rread_open {w0 w : World} {r : Nat} {st : Option (List UInt8)} {A : List HProp} (H : Own w0 (rread w0 r st :: A) w) :
    ∃ x : Option Addr × Nat × List UInt8, (x.2.2.length ≤ x.2.1 ∧ Rd w0 x.1 (u8s x.2.2) ∧ ∀ b, st = some b → x.2.2 = b) ∧ Own w0 (cel r [.slice x.1 x.2.2.length x.2.1, .bool st.isNone] 125 :: A) w := by
  obtain ⟨hb, h, ⟨h1, h2, ⟨base, c, bs, hc, a⟩, a2, d, x⟩, hw⟩ := H
  exact ⟨(base, c, bs), hc, hb, h, ⟨h1, h2, a, a2, d, x⟩, hw⟩
theorem rread_mk {w0 w : World} {r : Nat} {st : Option (List UInt8)} {A : List HProp} {base : Option Addr} {c : Nat} {bs : List UInt8} (hc : bs.length ≤ c) (hr : Rd w0 base (u8s bs)) (hs : ∀ b, st = some b → bs = b) (H : Own w0 (cel r [.slice base bs.length c, .bool st.isNone] 125 :: A) w) :
    Own w0 (rread w0 r st :: A) w := H.head fun _ h => ⟨base, c, bs, ⟨hc, hr, hs⟩, h⟩
theorem rd_drop {w0 : World} {base : Option Addr} {bs : List UInt8} (h : Rd w0 base (u8s bs)) (k c : Nat) (hc : bs.length ≤ c) : Rd w0 (slB base k c 1) (u8s (bs.drop k)) := by
  intro j v hv
  have hj : j < (bs.drop k).length := by
    have := (List.getElem?_eq_some_iff.1 hv).1
    simpa using this
  have hk : c ≠ k := by simp at hj; omega
  rw [← u8s_drop, List.getElem?_drop] at hv
  obtain ⟨a, rfl, ha⟩ := h _ v hv
  refine ⟨a.add k, by simp [slB, hk], ?_⟩
  rw [Addr.add_add]; exact ha
theorem take_le {bs : List UInt8} {p : Int × Nat} (h : take bs = some p) : 0 < p.2 ∧ p.2 ≤ bs.length := by
  obtain ⟨x, k⟩ := p
  obtain ⟨hn, hk⟩ := num_take h
  have h2 := leb_pos (zig x)
  have := congrArg List.length hn
  unfold num at *
  simp at this ⊢
  omega
theorem rref_num {w0 : World} {A : List HProp} {r : Nat} {st : Option (List UInt8)} (hb : ∀ b, st = some b → b.length ≤ 140737488355328) :
    Fun Tryz.prog w0 69 [.pointer (some ⟨r, 0, none⟩)] (rread w0 r st :: A)
      (Ret w0 (fun _ : Unit => True) (fun _ => .int .i64 (((st.bind take).map (·.1)).getD 0)) (fun _ => rread w0 r (st.bind fun bs => (take bs).map fun p => bs.drop p.2) :: A)) := by
  refine Fun.ex (fun w h => rread_open h) ?_
  rintro ⟨base, c, bs⟩ ⟨hc, hr, hs⟩
  dsimp only at hc hr hs ⊢
  refine Fun.enter Tryz.func69 rfl Tryz.ntmps69 rfl ?_
  refine WC.seq <| WC.region <| sv (vaI rfl) <| WL.nil <| WX.thenN <| WC.seq <| WC.seq <| WC.region <| sv (vmP rfl) <| sv (vnil rfl) <| sv (vfld fl125f1 rfl) <| sv (vldc pl4 rfl) <| WL.nil <| WX.thenN <| ?_
  refine WC.iteb rfl (fun h1 => ?_) (fun h1 => ?_)
  · -- then
    obtain rfl : st = none := by simpa using h1
    exact WC.seq <| WC.region <| sv (vaI rfl) <| WL.nil <| WX.thenN <| WC.ret <| WX.thenR <| WX.ret1 rfl (()) (trivial) rfl (fun w h => rread_mk hc hr (fun b h => by cases h) h)
  · -- else
    obtain ⟨b, rfl⟩ : ∃ b, st = some b := by cases st <;> simp_all
    obtain rfl := hs b rfl
    have hbl := hb _ rfl
    have hpos := fun p => take_le (bs := bs) (p := p)
    refine WC.skip <| WX.thenN <| WC.seq <| WC.region <| sv (vmP rfl) <| sv (vnil rfl) <| sv (vfld fl125f0 rfl) <| sv (vldc pl23 rfl) <| cl (ref_take (hR := ⟨RdC.old hr⟩) hbl) ct93 rfl fun _ _ => sv vmv <| sv (vex rfl rfl) <| sv (vex rfl rfl) <| sv (vaI rfl) <| sv (vaI rfl) <| WL.nil <| WX.thenN <| WC.seq <| WC.seq <| WC.region <| sv (vmI rfl) <| sv (veq rfl rfl) <| WL.nil <| WX.thenN <| ?_
    refine WC.ite rfl (fun h2 => ?_) (fun h2 => ?_)
    · -- then
      have ht : take bs = none := by
        cases ht : take bs with
        | none => rfl
        | some p => have := hpos p ht; simp [ht] at h2; omega
      exact WC.seq <| WC.region <| sv (vmP rfl) <| sv (vnil rfl) <| sv (vfld fl125f1 rfl) <| stc (v := .bool _) pl4 sz4 rfl rfl rfl <| WL.nil <| WX.thenN <| WC.seq <| WC.region <| sv (vaI rfl) <| WL.nil <| WX.thenN <| WC.ret <| WX.thenR <| WX.ret1 rfl (()) (trivial) (by simp only [Option.bind_some, ht]; rfl) (fun w h => rread_mk hc hr (fun b h => by simp [ht] at h) (by simpa [ht] using h))
    · -- else
      obtain ⟨p, ht⟩ : ∃ p, take bs = some p := by
        cases ht : take bs with
        | none => simp [ht] at h2
        | some p => exact ⟨p, rfl⟩
      have hp := hpos p ht
      simp only [ht, Option.map_some, Option.getD_some, Option.bind_some]
      refine WC.skip <| WX.thenN <| WC.seq <| WC.region <| sv (vmP rfl) <| sv (vmP rfl) <| sv (vnil rfl) <| sv (vfld fl125f0 rfl) <| sv (vldc pl23 rfl) <| sv (vmI rfl) <| sv (vslL Tryz.underlying23 sz5 rfl rfl (by omega) (by omega)) <| sv (vnil rfl) <| sv (vfld fl125f0 rfl) <| stc (v := .slice _ _ _) pl23 sz23 rfl rfl rfl <| WL.nil <| WX.thenN <| WC.seq <| WC.region <| sv (vmI rfl) <| sv (vaI rfl) <| WL.nil <| WX.thenN <| WC.ret <| WX.ret1 rfl (()) (trivial) rfl (fun w h => ?_)
      have hl : bs.length - ((p.2 : Int)).toNat = (bs.drop p.2).length := by simp
      rw [hl] at h
      exact rread_mk (by simp; omega) (rd_drop hr p.2 c hc) (fun b h => by cases h; rfl) h
/-- the number with which what is left begins -/
def rnum (st : Option (List UInt8)) : Int := ((st.bind take).map (·.1)).getD 0
def rnumS (st : Option (List UInt8)) : Option (List UInt8) := st.bind fun bs => (take bs).map fun p => bs.drop p.2
theorem rt_none {st : Option (List UInt8)} (h : rnumS st = none) : st.bind rtext = none := by
  cases st with
  | none => rfl
  | some bs => cases ht : take bs <;> simp [rnumS, rtext, ht] at h ⊢
theorem rt_some {st : Option (List UInt8)} {ds : List UInt8} (h : rnumS st = some ds) : st.bind rtext = if rnum st < 0 ∨ (ds.length : Int) < rnum st then none else some (ds.take (rnum st).toNat, ds.drop (rnum st).toNat) := by
  cases st with
  | none => simp [rnumS] at h
  | some bs =>
    cases ht : take bs with
    | none => simp [rnumS, ht] at h
    | some p =>
      obtain ⟨x, k⟩ := p
      simp [rnumS, ht] at h
      subst h
      simp [rtext, ht, rnum]
theorem rref_text {w0 : World} {A : List HProp} {r : Nat} {st : Option (List UInt8)} (hb : ∀ b, st = some b → b.length ≤ 140737488355328) :
    Fun Tryz.prog w0 70 [.pointer (some ⟨r, 0, none⟩)] (rread w0 r st :: A)
      (Ret w0 (fun _ : Unit => True) (fun _ => .string ⟨(((st.bind rtext).map (·.1)).getD []).toArray⟩) (fun _ => rread w0 r ((st.bind rtext).map (·.2)) :: A)) := by
  have hN : ∀ {A : List HProp}, Fun Tryz.prog w0 69 [.pointer (some ⟨r, 0, none⟩)] (rread w0 r st :: A) (Ret w0 (fun _ : Unit => True) (fun _ => .int .i64 (rnum st)) (fun _ => rread w0 r (rnumS st) :: A)) := rref_num hb
  refine Fun.enter Tryz.func70 rfl Tryz.ntmps70 rfl ?_
  refine WC.seq <| WC.region <| sv (vaT rfl) <| WL.nil <| WX.thenN <| WC.seq <| WC.region <| sv (vmP rfl) <| cl (hN) ct69 rfl fun _ _ => ?_
  refine WL.ex (fun w h => rread_open h) ?_
  rintro ⟨base, c, ds⟩ ⟨hc, hr, hs⟩
  dsimp only at hc hr hs ⊢
  refine sv (vaI rfl) <| WL.nil <| WX.thenN <| WC.seq <| ?_
  refine WC.cut0 [(23, .bool (decide ((rnumS st).isNone = true ∨ rnum st < 0 ∨ (ds.length : Int) < rnum st)))] [(0, .pointer _), (3, .int _ _)] (cel r [.slice base ds.length c, .bool (rnumS st).isNone] 125 :: A) ⟨rfl, rfl, trivial⟩ ?_ fun ρh => ?_
  · -- ref.go:70
    refine WC.region <| sv (vmP rfl) <| sv (vnil rfl) <| sv (vfld fl125f1 rfl) <| svb (vldc pl4 rfl) (fun q1 => ?_) (fun q1 => ?_)
    ·
      exact sv (vmB rfl) <| sng rfl <| sng rfl <| sv (vpkt rfl) <| sv (vmB rfl) <| sng rfl <| sng rfl <| sng rfl <| sng rfl <| sng rfl <| sng rfl <| sng rfl <| sv (vpkt rfl) <| WL.nil <| WX.mid () trivial ⟨bT (.inl q1), trivial⟩ ⟨rfl, rfl, trivial⟩ (fun _ h => h)
    ·
      refine sv (vmB rfl) <| svg rfl (vmI rfl) <| svsg rfl (vlt rfl rfl) (fun q2 => ?_) (fun q2 => ?_)
      ·
        exact sv (vpkf rfl) <| sv (vmB rfl) <| sng rfl <| sng rfl <| sng rfl <| sng rfl <| sng rfl <| sng rfl <| sng rfl <| sv (vpkt rfl) <| WL.nil <| WX.mid () trivial ⟨bT (.inr (.inl q2)), trivial⟩ ⟨rfl, rfl, trivial⟩ (fun _ h => h)
      ·
        exact sv (vpkf rfl) <| sv (vmB rfl) <| svg rfl (vmI rfl) <| svg rfl (vmP rfl) <| svg rfl (vnil rfl) <| svg rfl (vfld fl125f0 rfl) <| svg rfl (vldc pl23 rfl) <| svg rfl (vlen Tryz.underlying23 rfl) <| svg rfl (vgt rfl rfl) <| sv (vpkf rfl) <| WL.nil <| WX.mid () trivial ⟨bI (by simp [q1, q2]), trivial⟩ ⟨rfl, rfl, trivial⟩ (fun _ h => h)
  refine WC.ite rfl (fun h1 => ?_) (fun h1 => ?_)
  · -- then
    have hrt : st.bind rtext = none := by
      cases h : rnumS st with
      | none => exact rt_none h
      | some d => obtain rfl := hs d h; rw [rt_some h, if_pos (by simpa [h] using h1)]
    rw [hrt]
    exact WC.seq <| WC.region <| sv (vmP rfl) <| sv (vnil rfl) <| sv (vfld fl125f1 rfl) <| stc (v := .bool _) pl4 sz4 rfl rfl rfl <| WL.nil <| WX.thenN <| WC.seq <| WC.region <| sv (vaT rfl) <| WL.nil <| WX.thenN <| WC.ret <| WX.thenR <| WX.ret1 rfl (()) (trivial) rfl (fun w h => rread_mk hc hr (fun b h => by cases h) h)
  · -- else
    obtain ⟨d, hd⟩ : ∃ d, rnumS st = some d := by cases h : rnumS st <;> simp_all
    obtain rfl := hs d hd
    have h1' : ¬ (rnum st < 0 ∨ (ds.length : Int) < rnum st) := fun h => h1 (.inr h)
    rw [rt_some hd, if_neg h1', hd]
    have hlt : (ds.take (rnum st).toNat).length = (rnum st).toNat := by simp; omega
    refine WC.skip <| WX.thenN <| WC.seq <| WC.region <| sv (vmP rfl) <| sv (vnil rfl) <| sv (vfld fl125f0 rfl) <| sv (vldc pl23 rfl) <| sv (vmI rfl) <| sv (vslH Tryz.underlying23 sz5 rfl rfl (by omega) (by omega)) <| sv (vstr Tryz.underlying23 Tryz.underlying5 Tryz.underlying9 rfl (rd_take (RdC.old hr) _) hlt.symm) <| sv (vaT rfl) <| WL.nil <| WX.thenN <| WC.seq <| WC.region <| sv (vmP rfl) <| sv (vmP rfl) <| sv (vnil rfl) <| sv (vfld fl125f0 rfl) <| sv (vldc pl23 rfl) <| sv (vmI rfl) <| sv (vslL Tryz.underlying23 sz5 rfl rfl (by omega) (by omega)) <| sv (vnil rfl) <| sv (vfld fl125f0 rfl) <| stc (v := .slice _ _ _) pl23 sz23 rfl rfl rfl <| WL.nil <| WX.thenN <| WC.seq <| WC.region <| sv (vmT rfl) <| sv (vaT rfl) <| WL.nil <| WX.thenN <| WC.ret <| WX.ret1 rfl (()) (trivial) rfl (fun w h => ?_)
    have hl : ds.length - (rnum st).toNat = (ds.drop (rnum st).toNat).length := by simp
    rw [hl] at h
    exact rread_mk (by simp; omega) (rd_drop hr _ c hc) (fun b h => by cases h; rfl) h
theorem pnum {w0 : World} {A : List HProp} {r : Nat} {st : Option (List UInt8)} (hb : ∀ b, st = some b → b.length ≤ 140737488355328) :
    Fun Tryz.prog w0 60 [.pointer (some ⟨r, 0, none⟩)] (rstate r st :: A) (Ret w0 (fun _ : Unit => True) (fun _ => .int .i64 (rnum st)) (fun _ => rstate r (rnumS st) :: A)) := by
  cases st with
  | none => exact pack_rnum (bs := []) (bad := true) (by simp)
  | some bs =>
    have := pack_rnum (w0 := w0) (A := A) (r := r) (bs := bs) (bad := false) (hb _ rfl)
    cases ht : take bs with
    | none => simpa [ht, rnum, rnumS, rstate] using this
    | some p => simpa [ht, rnum, rnumS, rstate] using this
theorem ptext {w0 : World} {A : List HProp} {r : Nat} {st : Option (List UInt8)} (hb : ∀ b, st = some b → b.length ≤ 140737488355328) :
    Fun Tryz.prog w0 61 [.pointer (some ⟨r, 0, none⟩)] (rstate r st :: A)
      (Ret w0 (fun _ : Unit => True) (fun _ => .string ⟨(((st.bind rtext).map (·.1)).getD []).toArray⟩) (fun _ => rstate r ((st.bind rtext).map (·.2)) :: A)) := by
  cases st with
  | none => exact pack_rtext_bad (bs := []) (by simp)
  | some bs => exact pack_rtext (hb _ rfl)
end Go.Proofs.YthljpljbpbkkcaaGreatDoor
end
section
set_option linter.unusedVariables false
set_option linter.unusedSimpArgs false
set_option maxRecDepth 4000
namespace Go.Proofs.YthljpljbpbkkcaaGreatDoor
open Go.Sl Go.RowKit Go.Pack Go.Vault Go.Journal

inductive VCall where
  | put (k : PK) (b : List UInt8)
  | drop (f : ByteArray) (n : Int)
abbrev txS (st : Option (List UInt8)) : List UInt8 := ((st.bind rtext).map (·.1)).getD []
abbrev txR (st : Option (List UInt8)) : Option (List UInt8) := (st.bind rtext).map (·.2)
/-- the call of a record -/
def readP (b : List UInt8) : Option VCall :=
  if rnum (some b) = 1 then
    if txR (rnumS (rnumS (rnumS (txR (rnumS (some b)))))) = some [] then some (.put ⟨⟨(txS (rnumS (some b))).toArray⟩, rnum (txR (rnumS (some b))), rnum (rnumS (txR (rnumS (some b)))), rnum (rnumS (rnumS (txR (rnumS (some b)))))⟩ (txS (rnumS (rnumS (rnumS (txR (rnumS (some b)))))))) else none
  else if rnum (some b) = 2 then
    if rnumS (txR (rnumS (some b))) = some [] then some (.drop ⟨(txS (rnumS (some b))).toArray⟩ (rnum (txR (rnumS (some b))))) else none
  else none
def putW (k : PK) (b : List UInt8) (d : VD) : VD := if (whyPut d k).2 = true then putD d k b else d
def dropW (f : ByteArray) (n : Int) (d : VD) : VD := if (whyDrop d f n).2 = true then dropD d f n else d
/-- a call done again; none: it may not be -/
def againP (c : VCall) (d : VD) : Option VD := match c with
  | .put k b => if (whyPut d k).1 = 0 then some (putW k b d) else none
  | .drop f n => if (whyDrop d f n).1 = 0 then some (dropW f n d) else none
def redoP (b : List UInt8) (d : VD) : Option VD := (readP b).bind fun c => againP c d
def redoA (recs : List (List UInt8)) (d : VD) : Option VD := recs.foldlM (fun d b => redoP b d) d
theorem rnumS_leV {st : Option (List UInt8)} {m : Nat} (h : ∀ b, st = some b → b.length ≤ m) : ∀ b, rnumS st = some b → b.length ≤ m := by
  intro b hb
  cases st with
  | none => simp [rnumS] at hb
  | some bs =>
    cases ht : take bs with
    | none => simp [rnumS, ht] at hb
    | some p => simp [rnumS, ht] at hb; have := h _ rfl; rw [← hb]; simp; omega
theorem rtext_leV {st : Option (List UInt8)} {m : Nat} (h : ∀ b, st = some b → b.length ≤ m) : ∀ b, txR st = some b → b.length ≤ m := by
  intro b hb
  unfold txR at hb
  cases hs : rnumS st with
  | none => rw [rt_none hs] at hb; cases hb
  | some ds =>
    rw [rt_some hs] at hb
    split at hb
    · cases hb
    · simp at hb; have := rnumS_leV h _ hs; rw [← hb]; simp; omega
theorem txS_le {st : Option (List UInt8)} {m : Nat} (h : ∀ b, st = some b → b.length ≤ m) : (txS st).length ≤ m := by
  unfold txS
  cases hs : rnumS st with
  | none => rw [rt_none hs]; exact Nat.zero_le _
  | some ds =>
    rw [rt_some hs]
    split
    · exact Nat.zero_le _
    · have := rnumS_leV h _ hs; simp; omega
theorem rnum_in {st : Option (List UInt8)} : -9223372036854775808 ≤ rnum st ∧ rnum st ≤ 9223372036854775807 := by
  cases st with
  | none => exact ⟨by decide, by decide⟩
  | some bs =>
    cases ht : take bs with
    | none => simp [rnum, ht]
    | some p =>
      have e : rnum (some bs) = p.1 := by simp [rnum, ht]
      rw [e]
      unfold take at ht
      cases hr : rdn 0 0 bs with
      | none => simp [hr] at ht
      | some q =>
        simp [hr] at ht
        have := (rdn_lt bs 0 0 (by decide) (by omega) q hr).1
        rw [← ht]
        unfold zag
        split <;> dsimp only <;> omega
theorem pdoneV {w0 : World} {A : List HProp} {r : Nat} {st : Option (List UInt8)} :
    Fun Tryz.prog w0 63 [.pointer (some ⟨r, 0, none⟩)] (rstate r st :: A) (Ret w0 (fun _ : Unit => True) (fun _ => .bool (decide (st = some []))) (fun _ => rstate r st :: A)) := by
  have := pack_done (w0 := w0) (A := A) (r := r) (bs := st.getD []) (bad := st.isNone)
  have e : decide (st.isNone = false ∧ st.getD [] = []) = decide (st = some []) := by cases st <;> simp
  rw [e] at this
  exact this
theorem pnumV {w0 : World} {A : List HProp} {r : Nat} {st : Option (List UInt8)} {x : Int} (hx : rnum st = x) (hb : ∀ b, st = some b → b.length ≤ 1048576) :
    Fun Tryz.prog w0 60 [.pointer (some ⟨r, 0, none⟩)] (rstate r st :: A) (Ret w0 (fun _ : Unit => True) (fun _ => .int .i64 x) (fun _ => rstate r (rnumS st) :: A)) := by
  subst hx; exact pnum fun b h => Nat.le_trans (hb b h) (by decide)
theorem ptextV {w0 : World} {A : List HProp} {r : Nat} {st : Option (List UInt8)} {x : ByteArray} (hx : ⟨(txS st).toArray⟩ = x) (hb : ∀ b, st = some b → b.length ≤ 1048576) :
    Fun Tryz.prog w0 61 [.pointer (some ⟨r, 0, none⟩)] (rstate r st :: A) (Ret w0 (fun _ : Unit => True) (fun _ => .string x) (fun _ => rstate r (txR st) :: A)) := by
  subst hx; exact ptext fun b h => Nat.le_trans (hb b h) (by decide)
theorem pnewV {w0 : World} {A : List HProp} {base : Option Addr} {c : Nat} {bs : List UInt8} [hR : Reads w0 A base (u8s bs)] (hb : bs.length ≤ 1048576) :
    Fun Tryz.prog w0 59 [.slice base bs.length c] A (Ret w0 (fun _ : Nat => True) (fun r => .pointer (some ⟨r, 0, none⟩)) (fun r => rstate r (some bs) :: A)) := pack_new (Nat.le_trans hb (by decide))
theorem v_puts_at {w0 : World} {A : List HProp} {v j : Nat} {down : Bool} {d : VD} {k : PK} (hk : PkOk k) : Fun Tryz.prog w0 62 [.pointer (some ⟨v, 0, none⟩), .agg (pkl k).toArray] (pv v j down d :: A) (Ret w0 (fun _ : Unit => True) (fun _ => .tuple #[.int .i64 (whyPut d k).1, .bool (whyPut d k).2]) (fun _ => pv v j down d :: A)) := v_puts hk
theorem whyPut_do2 {d : VD} {k : PK} (h : (whyPut d k).2 = true) : d.parts k = none := by
  unfold whyPut at h
  split at h
  · cases h
  · split at h
    · cases h
    · split at h
      · cases h
      · simpa using h
theorem redo_fin {p q : Prop} [Decidable p] [Decidable q] {c : VCall} {d d' : VD} (h : againP c d = if q then some d' else none) : (if p then some c else none : Option VCall).bind (fun c => againP c d) = if decide (p ∧ q) = true then some d' else none := by
  by_cases hp : p <;> by_cases hq : q <;> simp [hp, hq, h]
theorem v_redo {w0 : World} {A : List HProp} {v j c : Nat} {dn : Bool} {d : VD} {base : Option Addr} {bs : List UInt8} [hR : Reads w0 A base (u8s bs)] (hl : bs.length ≤ 1048576) :
    Fun Tryz.prog w0 37 [.pointer (some ⟨v, 0, none⟩), .slice base bs.length c] (pv v j dn d :: A) (Ret w0 (fun i : VD × Bool => redoP bs d = if i.2 = true then some i.1 else none) (fun i => .bool i.2) (fun i => pv v j dn i.1 :: A)) := by
  obtain ⟨s0, h0⟩ : ∃ s : Option (List UInt8), s = some bs := ⟨_, rfl⟩
  obtain ⟨s1, e1⟩ : ∃ s, s = rnumS s0 := ⟨_, rfl⟩
  obtain ⟨s2, e2⟩ : ∃ s, s = txR s1 := ⟨_, rfl⟩
  obtain ⟨s3, e3⟩ : ∃ s, s = rnumS s2 := ⟨_, rfl⟩
  obtain ⟨s4, e4⟩ : ∃ s, s = rnumS s3 := ⟨_, rfl⟩
  obtain ⟨s5, e5⟩ : ∃ s, s = rnumS s4 := ⟨_, rfl⟩
  obtain ⟨s6, e6⟩ : ∃ s, s = txR s5 := ⟨_, rfl⟩
  obtain ⟨kind, ek⟩ : ∃ x, rnum s0 = x := ⟨_, rfl⟩
  obtain ⟨f, ef⟩ : ∃ x : ByteArray, ⟨(txS s1).toArray⟩ = x := ⟨_, rfl⟩
  obtain ⟨n, en⟩ : ∃ x, rnum s2 = x := ⟨_, rfl⟩
  obtain ⟨pk, ep⟩ : ∃ x, rnum s3 = x := ⟨_, rfl⟩
  obtain ⟨pn, eq⟩ : ∃ x, rnum s4 = x := ⟨_, rfl⟩
  obtain ⟨tx, et⟩ : ∃ x : ByteArray, ⟨(txS s5).toArray⟩ = x := ⟨_, rfl⟩
  have hrd : readP bs = if kind = 1 then (if s6 = some [] then some (.put ⟨f, n, pk, pn⟩ tx.data.toList) else none) else if kind = 2 then (if s3 = some [] then some (.drop f n) else none) else none := by
    subst h0 e1 e2 e3 e4 e5 e6 ek ef en ep eq et; rfl
  have b0 : ∀ b, s0 = some b → b.length ≤ 1048576 := fun b h => by rw [h0] at h; cases h; exact hl
  have b1 : ∀ b, s1 = some b → b.length ≤ 1048576 := by rw [e1]; exact rnumS_leV b0
  have b2 : ∀ b, s2 = some b → b.length ≤ 1048576 := by rw [e2]; exact rtext_leV b1
  have b3 : ∀ b, s3 = some b → b.length ≤ 1048576 := by rw [e3]; exact rnumS_leV b2
  have b4 : ∀ b, s4 = some b → b.length ≤ 1048576 := by rw [e4]; exact rnumS_leV b3
  have b5 : ∀ b, s5 = some b → b.length ≤ 1048576 := by rw [e5]; exact rnumS_leV b4
  have hfl : f.size ≤ 1048576 := by rw [← ef]; exact txS_le b1
  have htl : tx.data.toList.length ≤ 1048576 := by rw [← et]; show (txS s5).toArray.toList.length ≤ _; rw [List.toList_toArray]; exact txS_le b5
  have hk : PkOk ⟨f, n, pk, pn⟩ := ⟨by show f.size ≤ _; omega, by rw [← en]; exact rnum_in, by rw [← ep]; exact rnum_in, by rw [← eq]; exact rnum_in⟩
  refine Fun.enter Tryz.func37 rfl Tryz.ntmps37 rfl ?_
  refine WC.seq <| WC.region <| sv (vaB rfl) <| WL.nil <| WX.thenN <| WC.seq <| WC.region <| sv (vmS rfl) <| clx (by repeat' (first | with_reducible exact Sb.all | exact Sb.nil | (apply Sb.cons; focus (first | ((repeat (first | with_reducible exact Tk.here | with_reducible apply Tk.there)); done) | ((repeat (first | exact Tk.here | apply Tk.there)); done))) | apply Sb.drop)) (pnewV hl) ct59 rfl fun r1 hr1 => ?_
  rw [← h0]
  refine sv (vaP rfl) <| WL.nil <| WX.thenN <| WC.seq <| WC.region <| sv (vmP rfl) <| clx (by repeat' (first | with_reducible exact Sb.all | exact Sb.nil | (apply Sb.cons; focus (first | ((repeat (first | with_reducible exact Tk.here | with_reducible apply Tk.there)); done) | ((repeat (first | exact Tk.here | apply Tk.there)); done))) | apply Sb.drop)) (pnumV ek b0) ct60 rfl fun r2 hr2 => ?_
  rw [← e1]
  refine sv (vaI rfl) <| WL.nil <| WX.thenN <| WC.seq <| WC.region <| sv (vmP rfl) <| clx (by repeat' (first | with_reducible exact Sb.all | exact Sb.nil | (apply Sb.cons; focus (first | ((repeat (first | with_reducible exact Tk.here | with_reducible apply Tk.there)); done) | ((repeat (first | exact Tk.here | apply Tk.there)); done))) | apply Sb.drop)) (ptextV ef b1) ct61 rfl fun r3 hr3 => ?_
  rw [← e2]
  refine sv (vaT rfl) <| WL.nil <| WX.thenN <| WC.seq <| WC.region <| sv (vmP rfl) <| clx (by repeat' (first | with_reducible exact Sb.all | exact Sb.nil | (apply Sb.cons; focus (first | ((repeat (first | with_reducible exact Tk.here | with_reducible apply Tk.there)); done) | ((repeat (first | exact Tk.here | apply Tk.there)); done))) | apply Sb.drop)) (pnumV en b2) ct60 rfl fun r4 hr4 => ?_
  rw [← e3]
  refine sv (vaI rfl) <| WL.nil <| WX.thenN <| WC.seq <| WC.seq <| WC.region <| sv (vmI rfl) <| WL.nil <| WX.thenN <| WC.block <| WC.seq <| WC.region <| sv (veq rfl rfl) <| sv (vaB rfl) <| WL.nil <| WX.thenN <| ?_
  refine WC.ite rfl (fun h1 => ?_) (fun h1 => ?_)
  · -- then
    refine WC.seq <| WC.region <| sv (vmT rfl) <| sv (vmI rfl) <| sv (vmP rfl) <| clx (by repeat' (first | with_reducible exact Sb.all | exact Sb.nil | (apply Sb.cons; focus (first | ((repeat (first | with_reducible exact Tk.here | with_reducible apply Tk.there)); done) | ((repeat (first | exact Tk.here | apply Tk.there)); done))) | apply Sb.drop)) (pnumV ep b3) ct60 rfl fun r5 hr5 => ?_
    rw [← e4]
    refine sv (vbd (ps := [(0, .int _ _)]) (cs := [_, _]) bt46 zt46 rfl (by rfl)) <| sv (vbd (ps := [(0, .string _), (1, .int _ _), (2, .agg _)]) (cs := [_, _, _, _]) bt117 zt117 rfl (by rfl)) <| alz (cs := [.string ByteArray.empty, .int .i64 0, .int .i64 0, .int .i64 0]) zt117 (by rfl) fun b8 => stAp sz117 rfl rfl rfl (by intro v hv; simp only [List.mem_cons, List.not_mem_nil, or_false] at hv; rcases hv with rfl | rfl | rfl | rfl <;> rfl) rfl <| WL.nil <| WX.thenN <| WC.seq <| WC.region <| sv (vmP rfl) <| clx (by repeat' (first | with_reducible exact Sb.all | exact Sb.nil | (apply Sb.cons; focus (first | ((repeat (first | with_reducible exact Tk.here | with_reducible apply Tk.there)); done) | ((repeat (first | exact Tk.here | apply Tk.there)); done))) | apply Sb.drop)) (pnumV eq b4) ct60 rfl fun r10 hr10 => ?_
    rw [← e5]
    refine sv (vfldp fl117f2 rfl) <| sv (vfldp fl46f1 rfl) <| stp (v := .int _ _) pl3 sz3 rfl rfl rfl <| WL.nil <| WX.thenN <| WC.seq <| WC.region <| sv (vmP rfl) <| clx (by repeat' (first | with_reducible exact Sb.all | exact Sb.nil | (apply Sb.cons; focus (first | ((repeat (first | with_reducible exact Tk.here | with_reducible apply Tk.there)); done) | ((repeat (first | exact Tk.here | apply Tk.there)); done))) | apply Sb.drop)) (ptextV et b5) ct61 rfl fun r12 hr12 => ?_
    rw [← e6]
    refine sv (vaT rfl) <| WL.nil <| WX.thenN <| WC.seq <| WC.region <| sv (vmP rfl) <| sv (vldac ag117 sz117 rfl rfl (by decide)) <| clx (by repeat' (first | with_reducible exact Sb.all | exact Sb.nil | (apply Sb.cons; focus (first | ((repeat (first | with_reducible exact Tk.here | with_reducible apply Tk.there)); done) | ((repeat (first | exact Tk.here | apply Tk.there)); done))) | apply Sb.drop)) (v_puts_at (k := ⟨f, n, pk, pn⟩) hk) ct62 rfl fun r14 hr14 => ?_
    refine sv vmv <| sv (vex rfl rfl) <| sv (vex rfl rfl) <| sv (vaI rfl) <| sv (vaB rfl) <| WL.nil <| WX.thenN <| ?_
    refine WC.cutv (ι := Unit) (fun i => []) [(5, .pointer _), (11, .int _ _)] (fun i => pv v j dn (putW ⟨f, n, pk, pn⟩ tx.data.toList d) :: rstate r1 s6 :: A) (fun i => True) ⟨rfl, rfl, trivial⟩ ?_ ?_
    · -- up to the join
      refine WC.seq <| WC.region <| sv (vmB rfl) <| WL.nil <| WX.thenN <| ?_
      refine WC.iteb rfl (fun h2 => ?_) (fun h2 => ?_)
      · -- then
        have hno := whyPut_do2 h2
        have hpv : putW ⟨f, n, pk, pn⟩ tx.data.toList d = putD d ⟨f, n, pk, pn⟩ tx.data.toList := by unfold putW; rw [if_pos h2]
        refine WC.ex (B := fun i => cel v (vcl i j dn) 86 :: mpk KP i.mp (pents i.l) :: mp .string i.mf (fents i.fl) :: rows 5 (i.l.map Prod.snd) :: cel b8 (pkl ⟨f, n, pk, pn⟩) 117 :: rstate r1 s6 :: A) (fun w h => pv_open (Sb.own (by repeat' (first | with_reducible exact Sb.all | exact Sb.nil | (apply Sb.cons; focus (first | ((repeat (first | with_reducible exact Tk.here | with_reducible apply Tk.there)); done) | ((repeat (first | exact Tk.here | apply Tk.there)); done))) | apply Sb.drop)) h)) ?_
        rintro ⟨mp, mf, l, fl⟩ hi
        dsimp only [vcl]
        refine WC.plan (.pre [5] (.one [0, 1, 2, 3, 4] 6 (.bar [] 7 (.done [])))) rfl (by kernel_rfl) <| WPl.preC <| dv (fun g => (vmT rfl)) <| WD.nil <| WPl.oneE (fun g => by infer_instance) <| dv (fun g => (vmP rfl)) <| dv (fun g => (vnil rfl)) <| dv (fun g => (vfldpz fl86f0 rfl)) <| dv (fun g => (vldc pl83 rfl)) <| dv (fun g => (vldac ag117 sz117 rfl rfl (by decide))) <| WD.eff rfl <| cvs Tryz.underlying9 Tryz.underlying23 Tryz.underlying5 rfl (by simp only [maxLen]; show tx.data.toList.length ≤ _; omega) fun b17 c17 hc17 =>WL.nil <| WX.br <| WPl.barC <| WD.eff rfl <| mpupK (k := pkv ⟨f, n, pk, pn⟩) (v := .slice _ _ _) Tryz.underlying83 place_law rfl rfl rfl (kp_ok hk) (hi.new_put hno) ?_
        exact WL.nil <| WX.brT <| WPl.finC <| WD.nil <| WX.mid (()) (trivial) trivial ⟨rfl, rfl, trivial⟩ (fun w h => by have h2 := rows_snoc (e := 5) (y := ⟨some ⟨b17, 0, none⟩, tx.data.toList, c17⟩) (l := l.map Prod.snd) (Own.sp2 (by repeat' (first | exact Spl.nil | (apply Spl.cons; focus (first | ((repeat (first | with_reducible exact Tk.here | with_reducible apply Tk.there)); done) | ((repeat (first | exact Tk.here | apply Tk.there)); done))))) h); have h3 := pv_mk (v := v) (j := j) (down := dn) (d := putD d ⟨f, n, pk, pn⟩ tx.data.toList) (i := ⟨mp, mf, l ++ [(⟨f, n, pk, pn⟩, ⟨some ⟨b17, 0, none⟩, tx.data.toList, c17⟩)], fl⟩) (hi.put (s := ⟨some ⟨b17, 0, none⟩, tx.data.toList, c17⟩) hk hno ⟨hc17, htl⟩) (show Own w0 _ w from by rw [pents_snoc, List.map_append]; exact Own.sp4 (by repeat' (first | exact Spl.nil | (apply Spl.cons; focus (first | ((repeat (first | with_reducible exact Tk.here | with_reducible apply Tk.there)); done) | ((repeat (first | exact Tk.here | apply Tk.there)); done))))) h2); rw [hpv]; exact Sb.own (by repeat' (first | with_reducible exact Sb.all | exact Sb.nil | (apply Sb.cons; focus (first | ((repeat (first | with_reducible exact Tk.here | with_reducible apply Tk.there)); done) | ((repeat (first | exact Tk.here | apply Tk.there)); done))) | apply Sb.drop)) h3)
      · -- else
        exact WC.skip <| WX.mid (()) (trivial) trivial ⟨rfl, rfl, trivial⟩ (fun w h => by rw [show putW ⟨f, n, pk, pn⟩ tx.data.toList d = d from if_neg (by simpa using h2)]; exact Sb.own (by repeat' (first | with_reducible exact Sb.all | exact Sb.nil | (apply Sb.cons; focus (first | ((repeat (first | with_reducible exact Tk.here | with_reducible apply Tk.there)); done) | ((repeat (first | exact Tk.here | apply Tk.there)); done))) | apply Sb.drop)) h)
    · -- behind the join
      intro _ _ ρh
      refine WC.cutS [(4, .bool (decide (s6 = some [] ∧ (whyPut d ⟨f, n, pk, pn⟩).1 = 0)))] [] trivial ?_ fun ρh => ?_
      · -- vault.go:88
        refine WC.region <| sv (vmP rfl) <| clx (by repeat' (first | with_reducible exact Sb.all | exact Sb.nil | (apply Sb.cons; focus (first | ((repeat (first | with_reducible exact Tk.here | with_reducible apply Tk.there)); done) | ((repeat (first | exact Tk.here | apply Tk.there)); done))) | apply Sb.drop)) (pdoneV) ct63 rfl fun r19 hr19 => ?_
        refine svb (vmB rfl) (fun q1 => ?_) (fun q1 => ?_)
        ·
          exact svg rfl (vmI rfl) <| svg rfl (veq rfl rfl) <| sv (vpkt rfl) <| sv (vaB rfl) <| WL.nil <| WX.mid () trivial ⟨bI (by first | omega | simp_all | grind), trivial⟩ trivial (fun _ h => Sb.own (by repeat' (first | with_reducible exact Sb.all | exact Sb.nil | (apply Sb.cons; focus (first | ((repeat (first | with_reducible exact Tk.here | with_reducible apply Tk.there)); done) | ((repeat (first | exact Tk.here | apply Tk.there)); done))) | apply Sb.drop)) h)
        ·
          exact sng rfl <| sng rfl <| sv (vpkf rfl) <| sv (vaB rfl) <| WL.nil <| WX.mid () trivial ⟨bF (by first | omega | simp_all | grind), trivial⟩ trivial (fun _ h => Sb.own (by repeat' (first | with_reducible exact Sb.all | exact Sb.nil | (apply Sb.cons; focus (first | ((repeat (first | with_reducible exact Tk.here | with_reducible apply Tk.there)); done) | ((repeat (first | exact Tk.here | apply Tk.there)); done))) | apply Sb.drop)) h)
      exact WC.ret <| WX.blockR <| WX.thenR <| WX.ret1 rfl ((putW ⟨f, n, pk, pn⟩ tx.data.toList d, decide (s6 = some [] ∧ (whyPut d ⟨f, n, pk, pn⟩).1 = 0))) (by unfold redoP; rw [hrd, if_pos h1]; exact redo_fin rfl) rfl (fun _ h => Sb.own (by repeat' (first | with_reducible exact Sb.all | exact Sb.nil | (apply Sb.cons; focus (first | ((repeat (first | with_reducible exact Tk.here | with_reducible apply Tk.there)); done) | ((repeat (first | exact Tk.here | apply Tk.there)); done))) | apply Sb.drop)) h)
  · -- else
    refine WC.seq <| WC.region <| sv (veq rfl rfl) <| sv (vaB rfl) <| WL.nil <| WX.thenN <| ?_
    refine WC.ite rfl (fun h3 => ?_) (fun h3 => ?_)
    · -- then
      refine WC.seq <| WC.region <| sv (vmP rfl) <| sv (vmT rfl) <| sv (vmI rfl) <| clx (by repeat' (first | with_reducible exact Sb.all | exact Sb.nil | (apply Sb.cons; focus (first | ((repeat (first | with_reducible exact Tk.here | with_reducible apply Tk.there)); done) | ((repeat (first | exact Tk.here | apply Tk.there)); done))) | apply Sb.drop)) (v_drops (f := f) (n := n) (by omega)) ct64 rfl fun r20 hr20 => ?_
      refine sv vmv <| sv (vex rfl rfl) <| sv (vex rfl rfl) <| sv (vaI rfl) <| sv (vaB rfl) <| WL.nil <| WX.thenN <| ?_
      refine WC.cutv (ι := Unit) (fun i => []) [(5, .pointer _), (13, .int _ _)] (fun i => pv v j dn (dropW f n d) :: rstate r1 s3 :: A) (fun i => True) ⟨rfl, rfl, trivial⟩ ?_ ?_
      · -- up to the join
        refine WC.seq <| WC.region <| sv (vmB rfl) <| WL.nil <| WX.thenN <| ?_
        refine WC.iteb rfl (fun h4 => ?_) (fun h4 => ?_)
        · -- then
          refine WC.region <| sv (vmP rfl) <| sv (vmT rfl) <| sv (vmI rfl) <| clx (by repeat' (first | with_reducible exact Sb.all | exact Sb.nil | (apply Sb.cons; focus (first | ((repeat (first | with_reducible exact Tk.here | with_reducible apply Tk.there)); done) | ((repeat (first | exact Tk.here | apply Tk.there)); done))) | apply Sb.drop)) (v_drop) ct65 rfl fun r21 hr21 => ?_
          exact WL.nil <| WX.mid (()) (trivial) trivial ⟨rfl, rfl, trivial⟩ (fun w h => by rw [show dropW f n d = dropD d f n from if_pos h4]; exact Sb.own (by repeat' (first | with_reducible exact Sb.all | exact Sb.nil | (apply Sb.cons; focus (first | ((repeat (first | with_reducible exact Tk.here | with_reducible apply Tk.there)); done) | ((repeat (first | exact Tk.here | apply Tk.there)); done))) | apply Sb.drop)) h)
        · -- else
          exact WC.skip <| WX.mid (()) (trivial) trivial ⟨rfl, rfl, trivial⟩ (fun w h => by rw [show dropW f n d = d from if_neg (by simpa using h4)]; exact Sb.own (by repeat' (first | with_reducible exact Sb.all | exact Sb.nil | (apply Sb.cons; focus (first | ((repeat (first | with_reducible exact Tk.here | with_reducible apply Tk.there)); done) | ((repeat (first | exact Tk.here | apply Tk.there)); done))) | apply Sb.drop)) h)
      · -- behind the join
        intro _ _ ρh
        refine WC.cutS [(4, .bool (decide (s3 = some [] ∧ (whyDrop d f n).1 = 0)))] [] trivial ?_ fun ρh => ?_
        · -- vault.go:94
          refine WC.region <| sv (vmP rfl) <| clx (by repeat' (first | with_reducible exact Sb.all | exact Sb.nil | (apply Sb.cons; focus (first | ((repeat (first | with_reducible exact Tk.here | with_reducible apply Tk.there)); done) | ((repeat (first | exact Tk.here | apply Tk.there)); done))) | apply Sb.drop)) (pdoneV) ct63 rfl fun r22 hr22 => ?_
          refine svb (vmB rfl) (fun q2 => ?_) (fun q2 => ?_)
          ·
            exact svg rfl (vmI rfl) <| svg rfl (veq rfl rfl) <| sv (vpkt rfl) <| sv (vaB rfl) <| WL.nil <| WX.mid () trivial ⟨bI (by first | omega | simp_all | grind), trivial⟩ trivial (fun _ h => Sb.own (by repeat' (first | with_reducible exact Sb.all | exact Sb.nil | (apply Sb.cons; focus (first | ((repeat (first | with_reducible exact Tk.here | with_reducible apply Tk.there)); done) | ((repeat (first | exact Tk.here | apply Tk.there)); done))) | apply Sb.drop)) h)
          ·
            exact sng rfl <| sng rfl <| sv (vpkf rfl) <| sv (vaB rfl) <| WL.nil <| WX.mid () trivial ⟨bF (by first | omega | simp_all | grind), trivial⟩ trivial (fun _ h => Sb.own (by repeat' (first | with_reducible exact Sb.all | exact Sb.nil | (apply Sb.cons; focus (first | ((repeat (first | with_reducible exact Tk.here | with_reducible apply Tk.there)); done) | ((repeat (first | exact Tk.here | apply Tk.there)); done))) | apply Sb.drop)) h)
        exact WC.ret <| WX.blockR <| WX.thenR <| WX.ret1 rfl ((dropW f n d, decide (s3 = some [] ∧ (whyDrop d f n).1 = 0))) (by unfold redoP; rw [hrd, if_neg h1, if_pos h3]; exact redo_fin rfl) rfl (fun _ h => Sb.own (by repeat' (first | with_reducible exact Sb.all | exact Sb.nil | (apply Sb.cons; focus (first | ((repeat (first | with_reducible exact Tk.here | with_reducible apply Tk.there)); done) | ((repeat (first | exact Tk.here | apply Tk.there)); done))) | apply Sb.drop)) h)
    · -- else
      exact WC.skip <| WX.blockN <| WX.thenN <| WC.seq <| WC.region <| sv (vaB rfl) <| WL.nil <| WX.thenN <| WC.ret <| WX.ret1 rfl ((d, false)) (by unfold redoP; rw [hrd, if_neg h1, if_neg h3]; rfl) rfl (fun _ h => Sb.own (by repeat' (first | with_reducible exact Sb.all | exact Sb.nil | (apply Sb.cons; focus (first | ((repeat (first | with_reducible exact Tk.here | with_reducible apply Tk.there)); done) | ((repeat (first | exact Tk.here | apply Tk.there)); done))) | apply Sb.drop)) h)
end Go.Proofs.YthljpljbpbkkcaaGreatDoor
end
section
set_option linter.unusedVariables false
set_option linter.unusedSimpArgs false
set_option maxRecDepth 4000
namespace Go.Proofs.YthljpljbpbkkcaaGreatDoor
open Go.Sl Go.RowKit Go.Pack Go.Journal

theorem bytes_eq {a b : List UInt8} : (⟨a.toArray⟩ : ByteArray) = ⟨b.toArray⟩ ↔ a = b := by
  constructor
  · intro h
    have := congrArg (fun x : ByteArray => x.data.toList) h
    simpa using this
  · rintro rfl; rfl
theorem take_succ_eq {a b : List (List UInt8)} {i : Nat} (ha : i < a.length) (hb : i < b.length) (h : a.take i = b.take i) (he : a[i] = b[i]) : a.take (i + 1) = b.take (i + 1) := by
  rw [List.take_succ_eq_append_getElem ha, List.take_succ_eq_append_getElem hb, h, he]
theorem bss_take (l : List (Sla UInt8)) (k : Nat) : bss (l.take k) = (bss l).take k := by simp [bss]
theorem bD {p : Prop} [Decidable p] (h : p) : Value.bool (decide p) = .bool true := by simp [h]
theorem journal_add_at {w0 : World} {A : List HProp} {j d k c : Nat} {nm : ByteArray} {n : Int} {base : Option Addr} {rec : List UInt8} {st st' : DSt} (hR : RdC w0 A base (u8s rec)) (hk : k = rec.length) (hl : rec.length ≤ 1048576) (hs : nm.size ≤ 140737488351232) (hd : 0 ≤ st.deeds ∧ st.deeds + 2 ≤ 9223372036854775807) (hn : 0 ≤ n ∧ n + 1 ≤ 9223372036854775807) (h : addP nm rec st = (st', 0)) :
    Fun Tryz.prog w0 94 [.pointer (some ⟨j, 0, none⟩), .slice base k c] (cel j (jcells d nm n false) 112 :: pdisk d st :: A)
      (Ret w0 (fun _ : Unit => True) (fun _ => .int .i64 0) (fun _ => cel j (jcells d nm (n + 1) false) 112 :: pdisk d st' :: A)) := by
  have := journal_add_ok (j := j) (d := d) (c := c) hR hk hl hs hd hn
  rw [h] at this
  exact this
theorem journal_open_at {w0 : World} {A : List HProp} {d : Nat} {nm : ByteArray} {st st' : DSt} {recs : List (List UInt8)} (hd : 0 ≤ st.deeds ∧ st.deeds + 1 ≤ 9223372036854775807) (ho : openS nm st = (st', 0)) (hr : (recsB (readS nm st).1).1 = recs) :
    Fun Tryz.prog w0 36 [.pointer (some ⟨d, 0, none⟩), .string nm] (pdisk d st :: A)
      (Ret w0 (fun i : Nat × Option Addr × Nat × List (Sla UInt8) => i.2.2.2.map (·.xs) = recs ∧ i.2.2.2.length ≤ i.2.2.1)
        (fun i => .tuple #[.pointer (some ⟨i.1, 0, none⟩), .slice i.2.1 i.2.2.2.length i.2.2.1, .int .i64 0])
        (fun i => cel i.1 (jcells d nm i.2.2.2.length false) 112 :: pdisk d st' :: row i.2.1 i.2.2.1 1 23 (bss i.2.2.2) :: rows 5 i.2.2.2 :: A)) := by
  have := journal_open_ok (w0 := w0) (A := A) (d := d) hd ho
  rw [hr] at this
  exact this
def nmJ : ByteArray := ⟨#[106]⟩
theorem nmJ_ok : okName nmJ := by decide +kernel
theorem nmJ_len : nmJ.size ≤ 140737488351232 := by decide +kernel
theorem ex_recs : recsB ([] ++ frameB [97, 98] ++ frameB [] ++ [5]) = ([[97, 98], []], [5]) := by
  have h5 : recsB [5] = ([], [5]) := recsB_none (by simp [nextB])
  have := recsB_flat [[97, 98], []] [5] (by simp)
  rw [h5] at this
  simpa [flat] using this
end Go.Proofs.YthljpljbpbkkcaaGreatDoor
end
section
set_option linter.unusedVariables false
set_option linter.unusedSimpArgs false
namespace Go.Journal
open Go.Sl Go.Pack

theorem num4_congr {a b : List UInt8} (h : ∀ k, k < 4 → a.getD k 0 = b.getD k 0) : num4 a = num4 b := by
  unfold num4
  rw [h 0 (by omega), h 1 (by omega), h 2 (by omega), h 3 (by omega)]
theorem getD_drop (l : List UInt8) (i k : Nat) : (l.drop i).getD k 0 = l.getD (i + k) 0 := by
  rw [List.getD_eq_getElem?_getD, List.getD_eq_getElem?_getD, List.getElem?_drop]
theorem first_iff {b : List UInt8} (h8 : 8 ≤ b.length) (hn : num4 b ≤ b.length - 8) :
    (∀ k, k < 8 → (frameB ((b.drop 8).take (num4 b))).getD k 0 = b.getD k 0) ↔ sum (b.take 4 ++ (b.drop 8).take (num4 b)) = num4 (b.drop 4) := by
  have hl : ((b.drop 8).take (num4 b)).length = num4 b := by rw [List.length_take, List.length_drop]; omega
  have e : frameB ((b.drop 8).take (num4 b)) = b.take 4 ++ (le4 (sum (b.take 4 ++ (b.drop 8).take (num4 b))) ++ (b.drop 8).take (num4 b)) := by
    unfold frameB; rw [hl, le4_num4 (by omega), List.append_assoc]
  rw [e]
  have ht : (b.take 4).length = 4 := by rw [List.length_take]; omega
  constructor
  · intro h
    have h2 : num4 (le4 (sum (b.take 4 ++ (b.drop 8).take (num4 b))) ++ (b.drop 8).take (num4 b)) = num4 (b.drop 4) := by
      apply num4_congr
      intro k hk
      have := h (4 + k) (by omega)
      rw [getD_drop, ← this]
      have e3 : ∀ X : List UInt8, (b.take 4 ++ X).getD (4 + k) 0 = X.getD k 0 := fun X => by rw [List.getD_eq_getElem?_getD, List.getD_eq_getElem?_getD, List.getElem?_append_right (by omega), ht, Nat.add_sub_cancel_left]
      rw [e3]
    rwa [num4_le4 (sum_lt' _)] at h2
  · intro h k hk
    rw [h, le4_num4 (by rw [List.length_drop]; omega), ← List.append_assoc, ← List.take_add]
    rw [List.getD_eq_getElem?_getD, List.getD_eq_getElem?_getD, List.getElem?_append_left (by rw [List.length_take]; omega), List.getElem?_take, if_pos hk]
end Go.Journal
end
section
set_option linter.unusedVariables false
set_option linter.unusedSimpArgs false
set_option maxRecDepth 4000
namespace Go.Proofs.YthljpljbpbkkcaaGreatDoor
open Go.Sl Go.RowKit Go.Pack Go.Journal

theorem ref_four {w0 : World} {A : List HProp} {n : Nat} :
    Fun Tryz.prog w0 28 [.int .u32 n] A (Ret w0 (fun _ : Nat => True) (fun g => .slice (some ⟨g, 0, none⟩) 4 4) (fun g => row (some ⟨g, 0, none⟩) 4 1 5 (u8s (le4 n)) :: A)) := by
  refine Fun.enter Tryz.func28 rfl Tryz.ntmps28 rfl ?_
  exact WC.seq <| WC.region <| sv (vaS rfl) <| WL.nil <| WX.thenN <| WC.seq <| WC.region <| sv (vmI rfl) <| sv (vcv is70 Tryz.underlying5 rfl) <| sv (vmI rfl) <| sv (vshr rfl rfl (by omega)) <| sv (vcv is70 Tryz.underlying5 rfl) <| sv (vmI rfl) <| sv (vshr rfl rfl (by omega)) <| sv (vcv is70 Tryz.underlying5 rfl) <| sv (vmI rfl) <| sv (vshr rfl rfl (by omega)) <| sv (vcv is70 Tryz.underlying5 rfl) <| bsln [.int _ _, .int _ _, .int _ _, .int _ _] Tryz.underlying23 zt5 rfl rfl (by intro v hv; simp only [List.mem_cons, List.not_mem_nil, or_false] at hv; rcases hv with rfl | rfl | rfl | rfl <;> rfl) (by simp) fun b8 => sv (vaS rfl) <| WL.nil <| WX.thenN <| WC.ret <| WX.ret1 rfl (b8) (trivial) rfl (fun w h => (cel_eq (low_vals n) h).cel_row rfl (by simp [maxLen]))
theorem ref_sum_k {w0 : World} {A : List HProp} {base : Option Addr} {c k : Nat} {bs : List UInt8} (hR : RdC w0 A base (u8s bs)) (hk : k = bs.length) (hb : bs.length ≤ 140737488355328) :
    Fun Tryz.prog w0 29 [.slice base k c] A (Ret w0 (fun _ : Unit => True) (fun _ => .int .u32 (sum bs)) (fun _ => A)) := hk ▸ ref_sum (hR := ⟨hR⟩) hb
theorem ref_frame {w0 : World} {A : List HProp} {base : Option Addr} {c k : Nat} {bs : List UInt8} (hR : RdC w0 A base (u8s bs)) (hk : k = bs.length) (hb : bs.length ≤ 1048576) :
    Fun Tryz.prog w0 7 [.slice base k c] A (Ret w0 (fun i : Option Addr × Nat => (frameB bs).length ≤ i.2) (fun i => .slice i.1 (frameB bs).length i.2) (fun i => row i.1 i.2 1 5 (u8s (frameB bs)) :: A)) := by
  refine Fun.enter Tryz.func7 rfl Tryz.ntmps7 rfl ?_
  refine WC.seq <| WC.region <| sv (vaS rfl) <| WL.nil <| WX.thenN <| WC.seq <| WC.region <| sv (vmS rfl) <| sv (vlen Tryz.underlying23 rfl) <| sv (vcw is3 Tryz.underlying70 rfl (w32 (by omega))) <| cl (ref_four) ct28 rfl fun g2 _ => sv (vaS rfl) <| WL.nil <| WX.thenN <| WC.seq <| WC.region <| bsl0 Tryz.underlying23 zt5 fun b3 => sv (vaS rfl) <| WL.nil <| WX.thenN <| WC.seq <| WC.region <| sv (vmS rfl) <| sv (vmS rfl) <| apb Tryz.underlying23 zt5 rfl rfl (by simp) (by rw [le4_length]) reads (by omega) fun base4 c4 hc4 =>sv (vaS rfl) <| WL.nil <| WX.thenN <| WC.seq <| WC.region <| sv (vmS rfl) <| sv (vmS rfl) <| apb Tryz.underlying23 zt5 rfl rfl (by simp [le4]) hk hR.cons.cons (by omega) fun base5 c5 hc5 =>sv (vaS rfl) <| WL.nil <| WX.thenN <| WC.seq <| WC.region <| bsl0 Tryz.underlying23 zt5 fun b6 => sv (vaS rfl) <| WL.nil <| WX.thenN <| WC.seq <| WC.region <| sv (vmS rfl) <| sv (vmS rfl) <| apb Tryz.underlying23 zt5 rfl rfl (by simp) (by rw [le4_length]) reads (by omega) fun base7 c7 hc7 =>sv (vaS rfl) <| WL.nil <| WX.thenN <| WC.seq <| WC.region <| sv (vmS rfl) <| sv (vmS rfl) <| cl (ref_sum_k (bs := [] ++ le4 k ++ bs) reads (by simp [le4, hk]; omega) (by simp [le4]; omega)) ct29 rfl fun _ _ => cl (ref_four) ct28 rfl fun g9 _ => pm (fun _ h => h.pk1) <| apb Tryz.underlying23 zt5 rfl rfl (by simp [le4]) (by rw [le4_length]) reads (by omega) fun base10 c10 hc10 =>sv (vaS rfl) <| WL.nil <| WX.thenN <| WC.seq <| WC.region <| sv (vmS rfl) <| sv (vmS rfl) <| apb Tryz.underlying23 zt5 rfl rfl (by simp [le4]) hk hR.cons.cons.cons.cons (by omega) fun base11 c11 hc11 =>sv (vaS rfl) <| WL.nil <| WX.thenN <| WC.seq <| WC.region <| sv (vmS rfl) <| sv (vaS rfl) <| WL.nil <| WX.thenN <| WC.ret <| WX.ret1 rfl ((base11, c11)) (by rw [frameB_len]; omega) ?_ (fun w h => ?_)
  · show Value.slice _ _ _ = Value.slice _ _ _
    rw [frameB_len]
    congr 1
    omega
  · have e : u8s (frameB bs) = u8s ([] ++ le4 k ++ le4 (sum ([] ++ le4 k ++ bs)) ++ bs) := by rw [hk]; rfl
    rw [e]
    exact h.pk1.tail.pk1.tail.pk1.tail
theorem first_val {b1 b1' : Option Addr} {a1 a1' a2 a2' : Nat} (e0 : b1 = b1') (e1 : a1 = a1') (e2 : a2 = a2') : Value.tuple #[.slice b1 a1 a2, .bool true] = .tuple #[.slice b1' a1' a2', .bool true] := by rw [e0, e1, e2]
theorem byte_ne {a b : UInt8} (h : ¬ ((a.toNat : Int) ≠ (b.toNat : Int))) : a = b := UInt8.toNat_inj.1 (by omega)
theorem ref_first_none {w0 : World} {A : List HProp} {base : Option Addr} {c k : Nat} {bs : List UInt8} (hR : RdC w0 A base (u8s bs)) (hk : k = bs.length) (hc : bs.length ≤ c) (hbl : bs.length ≤ 1099511627776) (hn : nextB bs = none) :
    Fun Tryz.prog w0 92 [.slice base k c] A (Ret w0 (fun _ : Unit => True) (fun _ => .tuple #[.slice none 0 0, .bool false]) (fun _ => A)) := by
  have hlt := num4_lt bs
  have hb : ∀ i : Nat, (bs.getD i 0).toNat < 256 := fun i => (bs.getD i 0).toNat_lt
  have hb0 := hb 0; have hb1 := hb 1; have hb2 := hb 2; have hb3 := hb 3
  have hnum : ((bs.getD 0 0).toNat : Int) + 256 * ((bs.getD 1 0).toNat : Int) + 65536 * ((bs.getD 2 0).toNat : Int) + 16777216 * ((bs.getD 3 0).toNat : Int) = (num4 bs : Nat) := by unfold num4; omega
  unfold nextB at hn
  refine Fun.enter Tryz.func92 rfl Tryz.ntmps92 rfl ?_
  refine WC.seq <| WC.region <| sv (vaS rfl) <| sv (vaB rfl) <| WL.nil <| WX.thenN <| WC.seq <| WC.seq <| WC.region <| sv (vmS rfl) <| sv (vlen Tryz.underlying23 rfl) <| sv (vlt rfl rfl) <| WL.nil <| WX.thenN <| ?_
  refine WC.ite rfl (fun h1 => ?_) (fun h1 => ?_)
  · -- then
    exact WC.seq <| WC.region <| sv (vaS rfl) <| sv (vaB rfl) <| WL.nil <| WX.thenN <| WC.ret <| WX.thenR <| WX.ret2 rfl (()) (trivial) rfl (fun _ h => h)
  · -- else
    rw [if_neg (by omega)] at hn
    refine WC.skip <| WX.thenN <| WC.seq <| WC.draws rfl (by kernel_rfl) <| qv (vmS rfl) <| qv (vix1 Tryz.underlying23 sz5 rfl rfl (by omega) (by omega) hR (by simp; omega)) <| qv (vldo pl5 rfl hR (u8s_at0 (i := 0) (by omega))) <| qv (vcw is5 Tryz.underlying3 rfl (w64 (by omega))) <| qv (vmS rfl) <| qv (vix1 Tryz.underlying23 sz5 rfl rfl (by omega) (by omega) hR (by simp; omega)) <| qv (vldo pl5 rfl hR (u8s_at0 (i := 1) (by omega))) <| qv (vcw is5 Tryz.underlying3 rfl (w64 (by omega))) <| qv (vmul rfl rfl (by omega)) <| qv (vadd rfl rfl (by omega)) <| qv (vmS rfl) <| qv (vix1 Tryz.underlying23 sz5 rfl rfl (by omega) (by omega) hR (by simp; omega)) <| qv (vldo pl5 rfl hR (u8s_at0 (i := 2) (by omega))) <| qv (vcw is5 Tryz.underlying3 rfl (w64 (by omega))) <| qv (vmul rfl rfl (by omega)) <| qv (vadd rfl rfl (by omega)) <| qv (vmS rfl) <| qv (vix1 Tryz.underlying23 sz5 rfl rfl (by omega) (by omega) hR (by simp; omega)) <| qv (vldo pl5 rfl hR (u8s_at0 (i := 3) (by omega))) <| qv (vcw is5 Tryz.underlying3 rfl (w64 (by omega))) <| qv (vmul rfl rfl (by omega)) <| qv (vw (vadd rfl rfl (by omega)) (iv hnum)) <| qv (vaI rfl) <| WQ.nil <| WX.thenN <| WC.seq <| ?_
    refine WC.cut0 [(40, .bool (decide ((1048576 : Int) < (num4 bs : Nat) ∨ (bs.length : Int) - 8 < (num4 bs : Nat))))] [(0, .slice _ _ _), (4, .int _ _)] (A) ⟨rfl, rfl, trivial⟩ ?_ fun ρh => ?_
    · -- ref.go:34
      refine WC.region <| sv (vmI rfl) <| svs (vgt rfl rfl) (fun q1 => ?_) (fun q1 => ?_)
      ·
        exact sv (vmB rfl) <| sng rfl <| sng rfl <| sng rfl <| sng rfl <| sng rfl <| sv (vpkt rfl) <| WL.nil <| WX.mid () trivial ⟨bT (by first | omega | simp_all | grind), trivial⟩ ⟨rfl, rfl, trivial⟩ (fun _ h => h)
      ·
        exact sv (vmB rfl) <| svg rfl (vmI rfl) <| svg rfl (vmS rfl) <| svg rfl (vlen Tryz.underlying23 rfl) <| svg rfl (vsub rfl rfl (by omega)) <| svg rfl (vgt rfl rfl) <| sv (vpkf rfl) <| WL.nil <| WX.mid () trivial ⟨bI (by first | omega | simp_all | grind), trivial⟩ ⟨rfl, rfl, trivial⟩ (fun _ h => h)
    refine WC.ite rfl (fun h2 => ?_) (fun h2 => ?_)
    · -- then
      exact WC.seq <| WC.region <| sv (vaS rfl) <| sv (vaB rfl) <| WL.nil <| WX.thenN <| WC.ret <| WX.thenR <| WX.ret2 rfl (()) (trivial) rfl (fun _ h => h)
    · -- else
      rw [if_neg (by omega)] at hn
      have hiff := first_iff (b := bs) (by omega) (by omega)
      refine WC.skip <| WX.thenN <| WC.seq <| WC.region <| sv (vmS rfl) <| sv (vmI rfl) <| sv (vadd rfl rfl (by omega)) <| sv (vslLH Tryz.underlying23 sz5 rfl rfl rfl (by omega) (by omega) (by omega)) <| cl (ref_frame (bs := (bs.drop 8).take (num4 bs)) (rdb hR 8 c (num4 bs) (by omega)) (by rw [List.length_take, List.length_drop]; omega) (by rw [List.length_take]; omega)) ct7 rfl fun r5 hr5 => sv (vaS rfl) <| WL.nil <| WX.thenN <| WC.seq <| WC.seq <| WC.region <| sv (vaI rfl) <| WL.nil <| WX.thenN <| WC.block <| ?_
      refine WC.loop (ι := Nat) (fun i => [(6, .int .i64 i)]) [(0, .slice _ _ _), (4, .int _ _), (5, .slice _ _ _)] (fun i => row r5.1 r5.2 1 5 (u8s (frameB ((bs.drop 8).take (num4 bs)))) :: A) (fun i => i ≤ 8 ∧ ∀ k, k < i → (frameB ((bs.drop 8).take (num4 bs))).getD k 0 = bs.getD k 0) (fun i => 8 - i) (0) (⟨by omega, fun k h => by omega⟩) ⟨rfl, trivial⟩ ⟨rfl, rfl, rfl, trivial⟩ (fun _ h => h) ?_
      intro i hi ρh
      refine WC.seq <| WC.seq <| WC.region <| sv (vmI rfl) <| sv (vlt rfl rfl) <| WL.nil <| WX.thenN <| ?_
      refine WC.ite rfl (fun h3 => ?_) (fun h3 => ?_)
      · -- then
        have hfl := frameB_len ((bs.drop 8).take (num4 bs))
        refine WC.skip <| WX.thenN <| WC.seq <| WC.block <| WC.seq <| WC.draws rfl (by kernel_rfl) <| qv (vmS rfl) <| qv (vmI rfl) <| qv (vix1 Tryz.underlying23 sz5 rfl rfl (by omega) (by omega) reads (by simp; omega)) <| qv (vldo pl5 rfl reads (u8s_at0 (by omega))) <| qv (vmS rfl) <| qv (vmI rfl) <| qv (vix1 Tryz.underlying23 sz5 rfl rfl (by omega) (by omega) hR.cons (by simp; omega)) <| qv (vldo pl5 rfl hR.cons (u8s_at0 (by omega))) <| qv (vne rfl rfl) <| WQ.nil <| WX.thenN <| ?_
        refine WC.ite rfl (fun h4 => ?_) (fun h4 => ?_)
        · -- then
          exact WC.seq <| WC.region <| sv (vaS rfl) <| sv (vaB rfl) <| WL.nil <| WX.thenN <| WC.ret <| WX.blockR <| WX.thenR <| WX.thenR <| WX.blockR <| WX.thenR <| WX.ret2 rfl (()) (trivial) rfl (fun w h => h.tail)
        · -- else
          exact WC.skip <| WX.blockN <| WX.thenN <| WC.region <| sv (vmI rfl) <| sv (vadd rfl rfl (by omega)) <| sv (vaI rfl) <| WL.nil <| WX.again (i + 1) (⟨by omega, fun k hk => by rcases Nat.lt_succ_iff_lt_or_eq.1 hk with h | rfl; exact hi.2 k h; exact byte_ne h4⟩) (by omega) ⟨rfl, trivial⟩ ⟨rfl, rfl, rfl, trivial⟩ (fun _ h => h)
      · -- else
        exact absurd hn (by rw [if_neg (fun h => h (hiff.1 fun k hk => hi.2 k (by omega)))]; simp)
theorem ref_first_some {w0 : World} {A : List HProp} {base : Option Addr} {c k m : Nat} {bs : List UInt8} (hR : RdC w0 A base (u8s bs)) (hk : k = bs.length) (hc : bs.length ≤ c) (hbl : bs.length ≤ 1099511627776) (hn : nextB bs = some m) :
    Fun Tryz.prog w0 92 [.slice base k c] A (Ret w0 (fun _ : Unit => True) (fun _ => .tuple #[.slice (slB base 8 c 1) m (c - 8), .bool true]) (fun _ => A)) := by
  have hlt := num4_lt bs
  have hb : ∀ i : Nat, (bs.getD i 0).toNat < 256 := fun i => (bs.getD i 0).toNat_lt
  have hb0 := hb 0; have hb1 := hb 1; have hb2 := hb 2; have hb3 := hb 3
  have hnum : ((bs.getD 0 0).toNat : Int) + 256 * ((bs.getD 1 0).toNat : Int) + 65536 * ((bs.getD 2 0).toNat : Int) + 16777216 * ((bs.getD 3 0).toNat : Int) = (num4 bs : Nat) := by unfold num4; omega
  have hle := nextB_le hn
  unfold nextB at hn
  refine Fun.enter Tryz.func92 rfl Tryz.ntmps92 rfl ?_
  refine WC.seq <| WC.region <| sv (vaS rfl) <| sv (vaB rfl) <| WL.nil <| WX.thenN <| WC.seq <| WC.seq <| WC.region <| sv (vmS rfl) <| sv (vlen Tryz.underlying23 rfl) <| sv (vlt rfl rfl) <| WL.nil <| WX.thenN <| ?_
  refine WC.ite rfl (fun h1 => ?_) (fun h1 => ?_)
  · -- then
    exact absurd hn (by rw [if_pos (by omega)]; simp)
  · -- else
    rw [if_neg (by omega)] at hn
    refine WC.skip <| WX.thenN <| WC.seq <| WC.draws rfl (by kernel_rfl) <| qv (vmS rfl) <| qv (vix1 Tryz.underlying23 sz5 rfl rfl (by omega) (by omega) hR (by simp; omega)) <| qv (vldo pl5 rfl hR (u8s_at0 (i := 0) (by omega))) <| qv (vcw is5 Tryz.underlying3 rfl (w64 (by omega))) <| qv (vmS rfl) <| qv (vix1 Tryz.underlying23 sz5 rfl rfl (by omega) (by omega) hR (by simp; omega)) <| qv (vldo pl5 rfl hR (u8s_at0 (i := 1) (by omega))) <| qv (vcw is5 Tryz.underlying3 rfl (w64 (by omega))) <| qv (vmul rfl rfl (by omega)) <| qv (vadd rfl rfl (by omega)) <| qv (vmS rfl) <| qv (vix1 Tryz.underlying23 sz5 rfl rfl (by omega) (by omega) hR (by simp; omega)) <| qv (vldo pl5 rfl hR (u8s_at0 (i := 2) (by omega))) <| qv (vcw is5 Tryz.underlying3 rfl (w64 (by omega))) <| qv (vmul rfl rfl (by omega)) <| qv (vadd rfl rfl (by omega)) <| qv (vmS rfl) <| qv (vix1 Tryz.underlying23 sz5 rfl rfl (by omega) (by omega) hR (by simp; omega)) <| qv (vldo pl5 rfl hR (u8s_at0 (i := 3) (by omega))) <| qv (vcw is5 Tryz.underlying3 rfl (w64 (by omega))) <| qv (vmul rfl rfl (by omega)) <| qv (vw (vadd rfl rfl (by omega)) (iv hnum)) <| qv (vaI rfl) <| WQ.nil <| WX.thenN <| WC.seq <| ?_
    refine WC.cut0 [(40, .bool (decide ((1048576 : Int) < (num4 bs : Nat) ∨ (bs.length : Int) - 8 < (num4 bs : Nat))))] [(0, .slice _ _ _), (4, .int _ _)] (A) ⟨rfl, rfl, trivial⟩ ?_ fun ρh => ?_
    · -- ref.go:34
      refine WC.region <| sv (vmI rfl) <| svs (vgt rfl rfl) (fun q1 => ?_) (fun q1 => ?_)
      ·
        exact sv (vmB rfl) <| sng rfl <| sng rfl <| sng rfl <| sng rfl <| sng rfl <| sv (vpkt rfl) <| WL.nil <| WX.mid () trivial ⟨bT (by first | omega | simp_all | grind), trivial⟩ ⟨rfl, rfl, trivial⟩ (fun _ h => h)
      ·
        exact sv (vmB rfl) <| svg rfl (vmI rfl) <| svg rfl (vmS rfl) <| svg rfl (vlen Tryz.underlying23 rfl) <| svg rfl (vsub rfl rfl (by omega)) <| svg rfl (vgt rfl rfl) <| sv (vpkf rfl) <| WL.nil <| WX.mid () trivial ⟨bI (by first | omega | simp_all | grind), trivial⟩ ⟨rfl, rfl, trivial⟩ (fun _ h => h)
    refine WC.ite rfl (fun h2 => ?_) (fun h2 => ?_)
    · -- then
      exact absurd hn (by rw [if_pos (by omega)]; simp)
    · -- else
      rw [if_neg (by omega)] at hn
      have hm : m = num4 bs := by split at hn <;> simp at hn; exact hn.symm
      have hsum : sum (bs.take 4 ++ (bs.drop 8).take (num4 bs)) = num4 (bs.drop 4) := by split at hn; cases hn; rename_i h; simpa using h
      have hiff := (first_iff (b := bs) (by omega) (by omega)).2 hsum
      refine WC.skip <| WX.thenN <| WC.seq <| WC.region <| sv (vmS rfl) <| sv (vmI rfl) <| sv (vadd rfl rfl (by omega)) <| sv (vslLH Tryz.underlying23 sz5 rfl rfl rfl (by omega) (by omega) (by omega)) <| cl (ref_frame (bs := (bs.drop 8).take (num4 bs)) (rdb hR 8 c (num4 bs) (by omega)) (by rw [List.length_take, List.length_drop]; omega) (by rw [List.length_take]; omega)) ct7 rfl fun r5 hr5 => sv (vaS rfl) <| WL.nil <| WX.thenN <| WC.seq <| WC.seq <| WC.region <| sv (vaI rfl) <| WL.nil <| WX.thenN <| WC.block <| ?_
      refine WC.loop (ι := Nat) (fun i => [(6, .int .i64 i)]) [(0, .slice _ _ _), (4, .int _ _), (5, .slice _ _ _)] (fun i => row r5.1 r5.2 1 5 (u8s (frameB ((bs.drop 8).take (num4 bs)))) :: A) (fun i => i ≤ 8 ∧ ∀ k, k < i → (frameB ((bs.drop 8).take (num4 bs))).getD k 0 = bs.getD k 0) (fun i => 8 - i) (0) (⟨by omega, fun k h => by omega⟩) ⟨rfl, trivial⟩ ⟨rfl, rfl, rfl, trivial⟩ (fun _ h => h) ?_
      intro i hi ρh
      refine WC.seq <| WC.seq <| WC.region <| sv (vmI rfl) <| sv (vlt rfl rfl) <| WL.nil <| WX.thenN <| ?_
      refine WC.ite rfl (fun h3 => ?_) (fun h3 => ?_)
      · -- then
        have hfl := frameB_len ((bs.drop 8).take (num4 bs))
        refine WC.skip <| WX.thenN <| WC.seq <| WC.block <| WC.seq <| WC.draws rfl (by kernel_rfl) <| qv (vmS rfl) <| qv (vmI rfl) <| qv (vix1 Tryz.underlying23 sz5 rfl rfl (by omega) (by omega) reads (by simp; omega)) <| qv (vldo pl5 rfl reads (u8s_at0 (by omega))) <| qv (vmS rfl) <| qv (vmI rfl) <| qv (vix1 Tryz.underlying23 sz5 rfl rfl (by omega) (by omega) hR.cons (by simp; omega)) <| qv (vldo pl5 rfl hR.cons (u8s_at0 (by omega))) <| qv (vne rfl rfl) <| WQ.nil <| WX.thenN <| ?_
        refine WC.ite rfl (fun h4 => ?_) (fun h4 => ?_)
        · -- then
          exact absurd (congrArg (fun x : UInt8 => (x.toNat : Int)) (hiff i (by omega))) h4
        · -- else
          exact WC.skip <| WX.blockN <| WX.thenN <| WC.region <| sv (vmI rfl) <| sv (vadd rfl rfl (by omega)) <| sv (vaI rfl) <| WL.nil <| WX.again (i + 1) (⟨by omega, fun k hk => by rcases Nat.lt_succ_iff_lt_or_eq.1 hk with h | rfl; exact hi.2 k h; exact byte_ne h4⟩) (by omega) ⟨rfl, trivial⟩ ⟨rfl, rfl, rfl, trivial⟩ (fun _ h => h)
      · -- else
        exact WC.exit <| WX.thenE <| WX.thenE <| WX.blockH <| WX.thenN <| WC.seq <| WC.region <| sv (vmS rfl) <| sv (vmI rfl) <| sv (vadd rfl rfl (by omega)) <| sv (vslLH Tryz.underlying23 sz5 rfl rfl rfl (by omega) (by omega) (by omega)) <| sv (vaS rfl) <| sv (vaB rfl) <| WL.nil <| WX.thenN <| WC.ret <| WX.ret2 rfl (()) (trivial) (first_val rfl (by rw [nat8, hm]; show 8 + num4 bs - 8 = _; omega) rfl) (fun w h => h.tail)
end Go.Proofs.YthljpljbpbkkcaaGreatDoor
end
section
set_option linter.unusedVariables false
set_option linter.unusedSimpArgs false
set_option maxRecDepth 4000
namespace Go.Proofs.YthljpljbpbkkcaaGreatDoor
open Go.Sl Go.RowKit Go.Pack Go.Journal

theorem all_val {b1 b1' : Value} {n n' : Int} (e0 : b1 = b1') (e1 : n = n') : Value.tuple #[b1, .int .i64 n] = .tuple #[b1', .int .i64 n'] := by rw [e0, e1]
structure AlI where
  done : List (Sla UInt8)
  at_ : Nat
  qb : Option Addr
  qc : Nat
structure AlR (bs : List UInt8) (i : AlI) : Prop where
  recs : i.done.map (·.xs) ++ (recsB (bs.drop i.at_)).1 = (recsB bs).1
  left : (recsB (bs.drop i.at_)).2 = (recsB bs).2
  le : i.at_ ≤ bs.length
  len : i.done.length ≤ i.at_
  qcap : i.done.length ≤ i.qc
theorem ref_all {w0 : World} {A : List HProp} {base : Option Addr} {c k : Nat} {bs : List UInt8} (hR : RdC w0 A base (u8s bs)) (hk : k = bs.length) (hc : bs.length ≤ c) (hbl : bs.length ≤ 1073741824) :
    Fun Tryz.prog w0 67 [.slice base k c] A
      (Ret w0 (fun i : Option Addr × Nat × List (Sla UInt8) => i.2.2.map (·.xs) = (recsB bs).1 ∧ i.2.2.length ≤ i.2.1) (fun i => .tuple #[.slice i.1 i.2.2.length i.2.1, .int .i64 (flat (recsB bs).1).length])
        (fun i => row i.1 i.2.1 1 23 (bss i.2.2) :: rows 5 i.2.2 :: A)) := by
  have hwh := congrArg List.length (recsB_whole bs)
  rw [List.length_append] at hwh
  refine Fun.enter Tryz.func67 rfl Tryz.ntmps67 rfl ?_
  refine WC.seq <| WC.region <| sv (vaS rfl) <| sv (vaI rfl) <| WL.nil <| WX.thenN <| WC.seq <| WC.region <| sv (vaS rfl) <| WL.nil <| WX.thenN <| WC.seq <| WC.region <| sv (vaI rfl) <| WL.nil <| WX.thenN <| WC.block <| ?_
  refine WC.loop (ι := AlI) (fun i => [(4, .slice i.qb i.done.length i.qc), (5, .int .i64 i.at_)]) [(0, .slice _ _ _)] (fun i => row i.qb i.qc 1 23 (bss i.done) :: rows 5 i.done :: A) (fun i => AlR bs i) (fun i => bs.length - i.at_) (⟨[], 0, none, 0⟩) (⟨by simp, by simp, by simp, by simp, by simp⟩) ⟨rfl, rfl, trivial⟩ ⟨rfl, trivial⟩ (fun w h => Own.intro_row_nil (Own.intro_emp h)) ?_
  rintro ⟨done, at_, qb, qc⟩ ⟨u1, u2, u3, u4, u5⟩ ρh
  dsimp only at u1 u2 u3 u4 u5 ⊢
  have hdl : (bs.drop at_).length = bs.length - at_ := List.length_drop
  have hrd : RdC w0 A (slB base at_ c 1) (u8s (bs.drop at_)) := rdbL hR at_ c hc
  rcases hn : nextB (bs.drop at_) with _ | m
  · -- none
    have hrs := recsB_none hn
    rw [hrs] at u1 u2
    dsimp only at u1 u2
    rw [List.append_nil] at u1
    rw [← u2, hdl] at hwh
    refine WC.block <| WC.seq <| WC.region <| sv (vmS rfl) <| sv (vmI rfl) <| sv (vslL Tryz.underlying23 sz5 rfl rfl (by omega) (by omega)) <| cl (ref_first_none hrd.cons.cons (by rw [hdl]; omega) (by rw [hdl]; omega) (by rw [hdl]; omega) hn) ct92 rfl fun _ _ => sv vmv <| sv (vex rfl rfl) <| sv (vex rfl rfl) <| sv (vaS rfl) <| sv (vaB rfl) <| WL.nil <| WX.thenN <| WC.seq <| WC.seq <| WC.region <| sv (vmB rfl) <| sv (vnot rfl) <| WL.nil <| WX.thenN <| ?_
    refine WC.tt rfl ?_
    exact WC.seq <| WC.region <| sv (vmS rfl) <| sv (vmI rfl) <| sv (vaS rfl) <| sv (vaI rfl) <| WL.nil <| WX.thenN <| WC.ret <| WX.thenR <| WX.blockR <| WX.thenR <| WX.blockR <| WX.ret2 rfl ((qb, qc, done)) (⟨u1, u5⟩) (all_val rfl (by omega)) (fun _ h => h)
  · -- some
    have hle := nextB_le hn
    have hrs := recsB_some hn
    rw [hdl] at hle
    have hml : (((bs.drop at_).drop 8).take m).length = m := by rw [List.length_take, List.length_drop, hdl]; omega
    refine WC.block <| WC.seq <| WC.region <| sv (vmS rfl) <| sv (vmI rfl) <| sv (vslL Tryz.underlying23 sz5 rfl rfl (by omega) (by omega)) <| cl (ref_first_some hrd.cons.cons (by rw [hdl]; omega) (by rw [hdl]; omega) (by rw [hdl]; omega) hn) ct92 rfl fun _ _ => sv vmv <| sv (vex rfl rfl) <| sv (vex rfl rfl) <| sv (vaS rfl) <| sv (vaB rfl) <| WL.nil <| WX.thenN <| WC.seq <| WC.seq <| WC.region <| sv (vmB rfl) <| sv (vnot rfl) <| WL.nil <| WX.thenN <| ?_
    refine WC.ff rfl ?_
    refine WC.skip <| WX.thenN <| WC.seq <| WC.region <| bsl0 Tryz.underlying23 zt5 fun b3 => sv (vaS rfl) <| WL.nil <| WX.thenN <| WC.seq <| WC.region <| sv (vmS rfl) <| sv (vmS rfl) <| apb Tryz.underlying23 zt5 rfl rfl (by simp) (by rw [hml]) (rdb hrd 8 (c - at_) m (by omega)).cons.cons.cons (by omega) fun base4 c4 hc4 =>sv (vaS rfl) <| WL.nil <| WX.thenN <| WC.seq <| WC.region <| sv (vmS rfl) <| sv (vmS rfl) <| pm (fun _ h => h.pk1) <| ap1 (v := .slice _ _ _) Tryz.underlying22 zt23 rfl (fun _ => rfl) (fun _ => rfl) rfl rfl rfl (by rw [bss_length]) (by simp only [maxLen]; omega) (by omega) fun _ base6 c6 hc6 =>sv (vaS rfl) <| WL.nil <| WX.thenN <| WC.region <| sv (vmI rfl) <| sv (vadd rfl rfl (by omega)) <| sv (vmS rfl) <| sv (vlen Tryz.underlying23 rfl) <| sv (vadd rfl rfl (by omega)) <| sv (vaI rfl) <| WL.nil <| WX.blockN <| WX.again (⟨done ++ [⟨base4, ((bs.drop at_).drop 8).take m, c4⟩], at_ + 8 + m, base6, c6⟩) (⟨by dsimp only; rw [List.map_append, ← u1, hrs, List.drop_drop]; simp [Nat.add_assoc], by dsimp only; rw [← u2, hrs, List.drop_drop]; simp [Nat.add_assoc], by dsimp only; omega, by simp only [List.length_append, List.length_cons, List.length_nil]; omega, by rw [List.length_append]; exact hc6⟩) (by dsimp only; omega) ⟨by show Value.slice _ _ _ = Value.slice _ _ _; rw [List.length_append]; rfl, by show Value.int _ _ = Value.int _ _; rw [show ((at_ + 8 + m : Nat) : Int) = (at_ : Int) + 8 + (m : Int) by omega], trivial⟩ ⟨rfl, trivial⟩ (fun w h => ?_)
    rw [bss_snoc]
    dsimp only
    rw [hml]
    simp only [List.length_nil, Nat.zero_add] at h
    exact (rows_snoc (y := ⟨base4, ((bs.drop at_).drop 8).take m, c4⟩) (h.ix [1, 2, 0])).ix [1, 0]
end Go.Proofs.YthljpljbpbkkcaaGreatDoor
end
section
set_option linter.unusedVariables false
set_option linter.unusedSimpArgs false
set_option maxRecDepth 4000
namespace Go.Proofs.YthljpljbpbkkcaaGreatDoor
open Go.Sl Go.RowKit

/-- a file of the reference's: name, bytes, how many are safe -/
structure RF where
  name : ByteArray
  b : Sla UInt8
  safe : Nat
def fcells (l : List RF) : List Value := l.flatMap fun x => [.string x.name, .slice x.b.base x.b.xs.length x.b.cap, .int .i64 x.safe]
def lookR : List RF → ByteArray → Option (List UInt8 × Nat)
  | [], _ => none
  | x :: l, k => if x.name = k then some (x.b.xs, x.safe) else lookR l k
def nless (a b : ByteArray) : Prop := Op.bytesLess a.toList b.toList = true
structure RRep (l : List RF) (st : DSt) : Prop where
  sorted : (l.map (·.name)).Pairwise nless
  look : ∀ k, lookR l k = st.files k
  ok : ∀ x ∈ l, x.safe ≤ x.b.xs.length ∧ x.b.xs.length ≤ 16777216 ∧ x.b.xs.length ≤ x.b.cap
  fuse : 0 ≤ st.fuse ∧ st.fuse ≤ 9223372036854775807
abbrev rcells (base : Option Addr) (n c : Nat) (st : DSt) : List Value := [.slice base n c, .bool st.off, .int .i64 st.fuse, .int .i64 st.keep, .int .i64 st.deeds]
def rdisk (r N : Nat) (st : DSt) : HProp := fun h => ∃ base c l, RRep l st ∧ (l.length ≤ c ∧ l.length ≤ N) ∧ star (cel r (rcells base l.length c st) 29) (star (row base c 3 79 (fcells l)) (rows 5 (l.map (·.b)))) h
theorem rdisk_open {w0 w : World} {r N : Nat} {st : DSt} {A : List HProp} (H : Own w0 (rdisk r N st :: A) w) :
    ∃ x : Option Addr × Nat × List RF, (RRep x.2.2 st ∧ (x.2.2.length ≤ x.2.1 ∧ x.2.2.length ≤ N)) ∧ Own w0 (cel r (rcells x.1 x.2.2.length x.2.1 st) 29 :: row x.1 x.2.1 3 79 (fcells x.2.2) :: rows 5 (x.2.2.map (·.b)) :: A) w := by
  obtain ⟨hb, h, ⟨h1, h2, ⟨base, c, l, hc, hl, a⟩, a2, dd, x⟩, hw⟩ := H
  have h3 : Own w0 (star (cel r (rcells base l.length c st) 29) (star (row base c 3 79 (fcells l)) (rows 5 (l.map (·.b)))) :: A) w := ⟨hb, h, ⟨h1, h2, a, a2, dd, x⟩, hw⟩
  exact ⟨(base, c, l), ⟨hc, hl⟩, h3.star.pk1.star.pk2⟩
theorem rdisk_mk {w0 w : World} {r c N : Nat} {base : Option Addr} {st : DSt} {l : List RF} {A : List HProp} (hl : RRep l st) (hc : l.length ≤ c ∧ l.length ≤ N) (H : Own w0 (cel r (rcells base l.length c st) 29 :: row base c 3 79 (fcells l) :: rows 5 (l.map (·.b)) :: A) w) :
    Own w0 (rdisk r N st :: A) w := H.pk2.pk2.intro_star.pk1.intro_star.head fun _ h => ⟨base, c, l, hl, hc, h⟩
theorem RRep.new : RRep [] newD := ⟨by simp, fun _ => rfl, by simp, by simp [newD]⟩
theorem RRep.same {l : List RF} {st st' : DSt} (h : RRep l st) (hf : st'.files = st.files) (hu : 0 ≤ st'.fuse ∧ st'.fuse ≤ 9223372036854775807) : RRep l st' := ⟨h.sorted, fun k => by rw [h.look, hf], h.ok, hu⟩
theorem nless_iff {a b : ByteArray} : nless a b ↔ a.toList < b.toList := by unfold nless; rw [bytesLess_eq]; simp
theorem nless_ne {a b : ByteArray} (h : nless a b) : a ≠ b := by
  rintro rfl
  rw [nless_iff] at h
  exact List.lt_irrefl _ h
theorem RRep.nodup {l : List RF} {st : DSt} (h : RRep l st) : (l.map (·.name)).Nodup := h.sorted.imp fun h => nless_ne h
theorem fcells_length (l : List RF) : (fcells l).length = l.length * 3 := by
  induction l with
  | nil => rfl
  | cons x l ih => have e : fcells (x :: l) = [.string x.name, .slice x.b.base x.b.xs.length x.b.cap, .int .i64 x.safe] ++ fcells l := rfl
                   rw [e, List.length_append, ih]; simp; omega
theorem fcells_at : ∀ {l : List RF} {i k : Nat} {x : RF}, l[i]? = some x → k < 3 → (fcells l)[i * 3 + k]? = [Value.string x.name, .slice x.b.base x.b.xs.length x.b.cap, .int .i64 x.safe][k]?
  | [], _, _, _, h, _ => by simp at h
  | y :: l, 0, k, x, h, hk => by
    simp at h; subst h
    have e : fcells (y :: l) = [.string y.name, .slice y.b.base y.b.xs.length y.b.cap, .int .i64 y.safe] ++ fcells l := rfl
    rw [e, Nat.zero_mul, Nat.zero_add, List.getElem?_append_left (by simpa using hk)]
  | y :: l, i + 1, k, x, h, hk => by
    have e : fcells (y :: l) = [.string y.name, .slice y.b.base y.b.xs.length y.b.cap, .int .i64 y.safe] ++ fcells l := rfl
    rw [e, List.getElem?_append_right (by simp; omega)]
    have e2 : (i + 1) * 3 + k - [Value.string y.name, .slice y.b.base y.b.xs.length y.b.cap, .int .i64 y.safe].length = i * 3 + k := by simp; omega
    rw [e2]
    exact fcells_at (by simpa using h) hk
theorem fc0 {l : List RF} {i : Nat} {x : RF} (h : l[i]? = some x) : (fcells l)[((i : Int)).toNat * 3 + 0]? = some (.string x.name) := by rw [Int.toNat_natCast, fcells_at h (by omega)]; rfl
theorem fc1 {l : List RF} {i : Nat} {x : RF} (h : l[i]? = some x) : (fcells l)[((i : Int)).toNat * 3 + 1]? = some (.slice x.b.base x.b.xs.length x.b.cap) := by rw [Int.toNat_natCast, fcells_at h (by omega)]; rfl
theorem fc2 {l : List RF} {i : Nat} {x : RF} (h : l[i]? = some x) : (fcells l)[((i : Int)).toNat * 3 + 2]? = some (.int .i64 x.safe) := by rw [Int.toNat_natCast, fcells_at h (by omega)]; rfl
theorem row_some {w0 w : World} {A : List HProp} {base : Option Addr} {c s : Nat} {e : TypeId} {vs : List Value} (hp : 0 < vs.length) (H : Own w0 (row base c s e vs :: A) w) : base.isSome = true := by
  rcases H.row with ⟨_, rfl, _⟩ | ⟨g, o, cur, rfl, _⟩
  · simp at hp
  · rfl
theorem ref_find {w0 : World} {R : List HProp} {r c : Nat} {base : Option Addr} {st : DSt} {l : List RF} {nm : ByteArray} {v : Int} (hl : l.length ≤ 1099511627776) (k1 : ∀ (i : Nat) (x : RF), l[i]? = some x → x.name = nm → (∀ (k : Nat) (y : RF), k < i → l[k]? = some y → y.name ≠ nm) → v = i) (k2 : (∀ x ∈ l, x.name ≠ nm) → v = -1) :
    Fun Tryz.prog w0 34 [.pointer (some ⟨r, 0, none⟩), .string nm] (cel r (rcells base l.length c st) 29 :: row base c 3 79 (fcells l) :: R)
      (Ret w0 (fun _ : Unit => True) (fun _ => .int .i64 v) (fun _ => cel r (rcells base l.length c st) 29 :: row base c 3 79 (fcells l) :: R)) := by
  refine Fun.enter Tryz.func34 rfl Tryz.ntmps34 rfl ?_
  refine WC.seq <| WC.region <| sv (vaI rfl) <| WL.nil <| WX.thenN <| WC.seq <| WC.seq <| WC.region <| sv (vaI rfl) <| WL.nil <| WX.thenN <| WC.block <| ?_
  refine WC.loop (ι := Nat) (fun i => [(5, .int .i64 i)]) [(0, .pointer _), (1, .string _)] (fun i => cel r (rcells base l.length c st) 29 :: row base c 3 79 (fcells l) :: R) (fun i => i ≤ l.length ∧ ∀ (k : Nat) (y : RF), k < i → l[k]? = some y → y.name ≠ nm) (fun i => l.length - i) (0) (⟨by omega, fun k y h => by omega⟩) ⟨rfl, trivial⟩ ⟨rfl, rfl, trivial⟩ (fun _ h => h) ?_
  intro i hi ρh
  refine WC.seq <| WC.seq <| WC.region <| sv (vmI rfl) <| sv (vmP rfl) <| sv (vnil rfl) <| sv (vfld fl29f0 rfl) <| sv (vldc pl27 rfl) <| sv (vlen Tryz.underlying27 rfl) <| sv (vlt rfl rfl) <| WL.nil <| WX.thenN <| ?_
  refine WC.ite rfl (fun h1 => ?_) (fun h1 => ?_)
  · -- then
    have hil : i < l.length := by omega
    obtain ⟨x, hx⟩ : ∃ x, l[i]? = some x := ⟨_, List.getElem?_eq_getElem hil⟩
    have hpos : 0 < (fcells l).length := by rw [fcells_length]; omega
    have hf0 := fc0 hx
    refine WC.known (fun w h => row_some hpos h.pk1) fun hb => ?_
    refine WC.skip <| WX.thenN <| WC.seq <| WC.block <| WC.seq <| WC.region <| sv (vmP rfl) <| sv (vnil rfl) <| sv (vfld fl29f0 rfl) <| sv (vldc pl27 rfl) <| sv (vmI rfl) <| sv (vix Tryz.underlying27 sz79 rfl rfl (by omega) (by omega) reads (hpos)) <| sv (vfldr (hb) fl79f0 rfl) <| sv (vldo pl9 rfl reads (hf0)) <| sv (vmT rfl) <| sv (veqs rfl rfl) <| WL.nil <| WX.thenN <| ?_
    refine WC.ite rfl (fun h2 => ?_) (fun h2 => ?_)
    · -- then
      exact WC.seq <| WC.region <| sv (vmI rfl) <| sv (vaI rfl) <| WL.nil <| WX.thenN <| WC.ret <| WX.blockR <| WX.thenR <| WX.thenR <| WX.blockR <| WX.thenR <| WX.ret1 rfl (()) (trivial) (iv (k1 i x hx h2 hi.2).symm) (fun _ h => h)
    · -- else
      exact WC.skip <| WX.blockN <| WX.thenN <| WC.region <| sv (vmI rfl) <| sv (vadd rfl rfl (by omega)) <| sv (vaI rfl) <| WL.nil <| WX.again (i + 1) (⟨by omega, fun k y hk hy => by rcases Nat.lt_succ_iff_lt_or_eq.1 hk with h | rfl; exact hi.2 k y h hy; rw [hx] at hy; cases hy; exact h2⟩) (by omega) ⟨rfl, trivial⟩ ⟨rfl, rfl, trivial⟩ (fun _ h => h)
  · -- else
    refine WC.exit <| WX.thenE <| WX.thenE <| WX.blockH <| WX.thenN <| WC.seq <| WC.region <| sv (vaI rfl) <| WL.nil <| WX.thenN <| WC.ret <| WX.ret1 rfl (()) (trivial) (iv (k2 (fun x hx => by obtain ⟨k, hk⟩ := List.mem_iff_getElem?.1 hx; exact hi.2 k x (by have := (List.getElem?_eq_some_iff.1 hk).1; omega) hk)).symm) (fun _ h => h)
end Go.Proofs.YthljpljbpbkkcaaGreatDoor
end
section
set_option linter.unusedVariables false
set_option linter.unusedSimpArgs false
set_option maxRecDepth 4000
namespace Go.Proofs.YthljpljbpbkkcaaGreatDoor
open Go.Sl Go.RowKit

theorem ref_deed {w0 : World} {R : List HProp} {r c n : Nat} {base : Option Addr} {st : DSt} (hu : 0 ≤ st.fuse ∧ st.fuse ≤ 9223372036854775807) (hd : 0 ≤ st.deeds ∧ st.deeds + 1 ≤ 9223372036854775807) :
    Fun Tryz.prog w0 35 [.pointer (some ⟨r, 0, none⟩)] (cel r (rcells base n c st) 29 :: R)
      (Ret w0 (fun _ : Unit => True) (fun _ => .bool (decide (st.fuse - 1 = 0))) (fun _ => cel r (rcells base n c { st with deeds := st.deeds + 1, fuse := max (st.fuse - 1) 0 }) 29 :: R)) := by
  refine Fun.enter Tryz.func35 rfl Tryz.ntmps35 rfl ?_
  refine WC.seq <| WC.region <| sv (vaB rfl) <| WL.nil <| WX.thenN <| WC.seq <| WC.region <| sv (vmP rfl) <| sv (vnil rfl) <| sv (vfld fl29f4 rfl) <| sv (vldc pl3 rfl) <| sv (vadd rfl rfl (by omega)) <| sv (vnil rfl) <| sv (vfld fl29f4 rfl) <| stc (v := .int _ _) pl3 sz3 rfl rfl rfl <| WL.nil <| WX.thenN <| WC.seq <| WC.seq <| WC.region <| sv (vmP rfl) <| sv (vnil rfl) <| sv (vfld fl29f2 rfl) <| sv (vldc pl3 rfl) <| sv (vgt rfl rfl) <| WL.nil <| WX.thenN <| ?_
  refine WC.ite rfl (fun h1 => ?_) (fun h1 => ?_)
  · -- then
    have e : max (st.fuse - 1) 0 = st.fuse - 1 := by omega
    rw [e]
    exact WC.seq <| WC.region <| sv (vmP rfl) <| sv (vnil rfl) <| sv (vfld fl29f2 rfl) <| sv (vldc pl3 rfl) <| sv (vsub rfl rfl (by omega)) <| sv (vnil rfl) <| sv (vfld fl29f2 rfl) <| stc (v := .int _ _) pl3 sz3 rfl rfl rfl <| WL.nil <| WX.thenN <| WC.seq <| WC.region <| sv (vmP rfl) <| sv (vnil rfl) <| sv (vfld fl29f2 rfl) <| sv (vldc pl3 rfl) <| sv (veq rfl rfl) <| sv (vaB rfl) <| WL.nil <| WX.thenN <| WC.ret <| WX.thenR <| WX.ret1 rfl (()) (trivial) rfl (fun _ h => h)
  · -- else
    have e : max (st.fuse - 1) 0 = st.fuse := by omega
    rw [e]
    exact WC.skip <| WX.thenN <| WC.seq <| WC.region <| sv (vaB rfl) <| WL.nil <| WX.thenN <| WC.ret <| WX.ret1 rfl (()) (trivial) (bF (by omega)) (fun _ h => h)
theorem ref_arm {w0 : World} {A : List HProp} {r N : Nat} {st : DSt} {x k : Int} (hx : x ≤ 9223372036854775807) :
    Fun Tryz.prog w0 23 [.pointer (some ⟨r, 0, none⟩), .int .i64 x, .int .i64 k] (rdisk r N st :: A) (Ret w0 (fun _ : Unit => True) (fun _ => .tuple #[]) (fun _ => rdisk r N { st with fuse := max x 0, keep := k } :: A)) := by
  refine Fun.ex (fun w h => rdisk_open h) ?_
  rintro ⟨base, c, l⟩ ⟨hl, hc⟩
  dsimp only at hl hc ⊢
  refine Fun.enter Tryz.func23 rfl Tryz.ntmps23 rfl ?_
  exact WC.seq <| WC.region <| sv (vmP rfl) <| sv (vmI rfl) <| sv (vmax rfl rfl) <| sv (vnil rfl) <| sv (vfld fl29f2 rfl) <| stc (v := .int _ _) pl3 sz3 rfl rfl rfl <| WL.nil <| WX.thenN <| WC.region <| sv (vmP rfl) <| sv (vmI rfl) <| sv (vnil rfl) <| sv (vfld fl29f3 rfl) <| stc (v := .int _ _) pl3 sz3 rfl rfl rfl <| WL.nil <| WX.end0 rfl (()) (trivial) rfl (fun w h => rdisk_mk (hl.same rfl (by dsimp only; omega)) hc h)
def cutR (keep : Int) (x : RF) : RF := ⟨x.name, ⟨x.b.base, x.b.xs.take (keptOf keep (x.b.xs, x.safe)), x.b.cap⟩, keptOf keep (x.b.xs, x.safe)⟩
def cutI (keep : Int) (i : Nat) (l : List RF) : List RF := (l.take i).map (cutR keep) ++ l.drop i
theorem cutI_zero {keep : Int} {l : List RF} : cutI keep 0 l = l := by simp [cutI]
theorem cutI_length {keep : Int} {i : Nat} {l : List RF} : (cutI keep i l).length = l.length := by simp [cutI]; omega
theorem cutI_all {keep : Int} {l : List RF} : cutI keep l.length l = l.map (cutR keep) := by simp [cutI]
theorem cutI_at {keep : Int} {i : Nat} {l : List RF} {x : RF} (h : l[i]? = some x) : (cutI keep i l)[i]? = some x := by
  have hi := (List.getElem?_eq_some_iff.1 h).1
  have hl : ((l.take i).map (cutR keep)).length = i := by simp; omega
  unfold cutI
  rw [List.getElem?_append_right (by omega), hl, Nat.sub_self, List.getElem?_drop]
  simpa using h
theorem cutI_set {keep : Int} {i : Nat} {l : List RF} {x : RF} (h : l[i]? = some x) : (cutI keep i l).set i (cutR keep x) = cutI keep (i + 1) l := by
  have hi := (List.getElem?_eq_some_iff.1 h).1
  have hx : l[i] = x := (List.getElem?_eq_some_iff.1 h).2
  have hl : ((l.take i).map (cutR keep)).length = i := by simp; omega
  unfold cutI
  rw [List.take_succ_eq_append_getElem hi, List.map_append, List.set_append_right _ _ (by omega), hl, Nat.sub_self, List.drop_eq_getElem_cons hi, List.set_cons_zero, hx]
  simp
theorem fcells_set : ∀ {l : List RF} {i : Nat} {x y : RF}, l[i]? = some x → y.name = x.name → fcells (l.set i y) = ((fcells l).set (i * 3 + 1) (.slice y.b.base y.b.xs.length y.b.cap)).set (i * 3 + 2) (.int .i64 y.safe)
  | [], _, _, _, h, _ => by simp at h
  | z :: l, 0, x, y, h, hn => by
    simp at h; subst h
    have e1 : fcells (y :: l) = [.string y.name, .slice y.b.base y.b.xs.length y.b.cap, .int .i64 y.safe] ++ fcells l := rfl
    have e2 : fcells (z :: l) = [.string z.name, .slice z.b.base z.b.xs.length z.b.cap, .int .i64 z.safe] ++ fcells l := rfl
    rw [List.set_cons_zero, e1, e2, hn]
    rfl
  | z :: l, i + 1, x, y, h, hn => by
    have ih := fcells_set (l := l) (i := i) (x := x) (y := y) (by simpa using h) hn
    have e1 : ∀ m : List RF, fcells (z :: m) = [.string z.name, .slice z.b.base z.b.xs.length z.b.cap, .int .i64 z.safe] ++ fcells m := fun _ => rfl
    rw [List.set_cons_succ, e1, e1, ih]
    rw [List.set_append_right _ _ (by simp; omega), List.set_append_right _ _ (by simp; omega)]
    congr 2
    · congr 1
      simp; omega
    · simp; omega
theorem row_take {w0 w : World} {A : List HProp} {base : Option Addr} {c s : Nat} {e : TypeId} {vs : List Value} (k : Nat) (H : Own w0 (row base c s e vs :: A) w) : Own w0 (row base c s e (vs.take k) :: A) w := H.row_prefix (List.take_prefix _ _)
theorem row_len {w0 w : World} {A : List HProp} {base : Option Addr} {c s n : Nat} {e : TypeId} {vs : List Value} (H : Own w0 (row base c s e vs :: A) w) (hn : n ≤ c) : n ≤ maxLen := Nat.le_trans hn (row_le H).2
theorem rows_take {w0 w : World} {e : TypeId} (k : Nat) : ∀ {l : List (Sla UInt8)} {i : Nat} {x : Sla UInt8} {A : List HProp}, l[i]? = some x → Own w0 (rows e l :: A) w → Own w0 (rows e (l.set i ⟨x.base, x.xs.take k, x.cap⟩) :: A) w
  | [], _, _, _, h, _ => by simp at h
  | y :: l, 0, x, A, h, H => by
    simp at h; subst h
    have h1 := row_take k H.star
    rw [u8s_take] at h1
    exact h1.intro_star
  | y :: l, i + 1, x, A, h, H => by
    have h1 := H.star.pk1
    exact (rows_take k (l := l) (by simpa using h) h1).pk1.intro_star
theorem lookR_cut {keep : Int} {k : ByteArray} {l : List RF} : lookR (l.map (cutR keep)) k = (lookR l k).map (offV keep) := by
  induction l with
  | nil => rfl
  | cons z l ih =>
    simp only [List.map_cons, lookR]
    rw [ih]
    show (if z.name = k then _ else _) = _
    split <;> rfl
theorem RRep.offm {keep : Int} {l : List RF} {st : DSt} (h : RRep l st) (ho : st.off = false) : RRep (l.map (cutR keep)) (offS keep st) := by
  have ho' : ¬ st.off = true := by rw [ho]; decide
  unfold offS
  rw [if_neg ho']
  refine ⟨?_, fun k => ?_, fun z hz => ?_, h.fuse⟩
  · rw [List.map_map]; exact h.sorted
  · rw [lookR_cut, h.look]
  · obtain ⟨x, hx, rfl⟩ := List.mem_map.1 hz
    have := h.ok x hx
    simp only [cutR, keptOf, List.length_take]
    omega
theorem ref_off_off {w0 : World} {A : List HProp} {r N : Nat} {st : DSt} {keep : Int} (ho : st.off = true) :
    Fun Tryz.prog w0 25 [.pointer (some ⟨r, 0, none⟩), .int .i64 keep] (rdisk r N st :: A) (Ret w0 (fun _ : Unit => True) (fun _ => .tuple #[]) (fun _ => rdisk r N st :: A)) := by
  refine Fun.ex (fun w h => rdisk_open h) ?_
  rintro ⟨base, c, l⟩ ⟨hl, hc⟩
  dsimp only at hl hc ⊢
  obtain ⟨files, off, fuse, keep0, deeds⟩ := st
  obtain rfl : off = true := ho
  refine Fun.enter Tryz.func25 rfl Tryz.ntmps25 rfl ?_
  refine WC.seq <| WC.seq <| WC.region <| sv (vaI rfl) <| WL.nil <| WX.thenN <| WC.block <| ?_
  refine WC.loop (ι := Nat) (fun i => [(4, .int .i64 i)]) [(0, .pointer _), (1, .int _ _)] (fun i => cel r (rcells base l.length c ⟨files, true, fuse, keep0, deeds⟩) 29 :: row base c 3 79 (fcells l) :: rows 5 (l.map (·.b)) :: A) (fun i => i = 0) (fun i => 0) (0) (rfl) ⟨rfl, trivial⟩ ⟨rfl, rfl, trivial⟩ (fun _ h => h) ?_
  intro i hi ρh
  refine WC.seq <| ?_
  refine WC.cut0 [(19, .bool false)] [(0, .pointer _), (1, .int _ _), (4, .int _ _)] (cel r (rcells base l.length c ⟨files, true, fuse, keep0, deeds⟩) 29 :: row base c 3 79 (fcells l) :: rows 5 (l.map (·.b)) :: A) ⟨rfl, rfl, rfl, trivial⟩ ?_ fun ρh => ?_
  · -- ref.go:154
    refine WC.region <| sv (vmI rfl) <| sv (vmP rfl) <| sv (vnil rfl) <| sv (vfld fl29f0 rfl) <| sv (vldc pl27 rfl) <| sv (vlen Tryz.underlying27 rfl) <| svs (vlt rfl rfl) (fun q1 => ?_) (fun q1 => ?_)
    ·
      exact sv (vmB rfl) <| svg rfl (vmP rfl) <| svg rfl (vnil rfl) <| svg rfl (vfld fl29f1 rfl) <| svg rfl (vldc pl4 rfl) <| svg rfl (vnot rfl) <| sv (vpkt rfl) <| WL.nil <| WX.mid () trivial ⟨rfl, trivial⟩ ⟨rfl, rfl, rfl, trivial⟩ (fun _ h => h)
    ·
      exact sv (vmB rfl) <| sng rfl <| sng rfl <| sng rfl <| sng rfl <| sng rfl <| sv (vpkf rfl) <| WL.nil <| WX.mid () trivial ⟨rfl, trivial⟩ ⟨rfl, rfl, rfl, trivial⟩ (fun _ h => h)
  refine WC.ff rfl ?_
  exact WC.exit <| WX.thenE <| WX.thenE <| WX.blockH <| WX.thenN <| WC.region <| sv (vmP rfl) <| sv (vnil rfl) <| sv (vfld fl29f1 rfl) <| stc (v := .bool _) pl4 sz4 rfl rfl rfl <| WL.nil <| WX.end0 rfl (()) (trivial) rfl (fun w h => rdisk_mk hl hc h)
theorem ref_off_on {w0 : World} {A : List HProp} {r N : Nat} {st : DSt} {keep : Int} (ho : st.off = false) :
    Fun Tryz.prog w0 25 [.pointer (some ⟨r, 0, none⟩), .int .i64 keep] (rdisk r N st :: A) (Ret w0 (fun _ : Unit => True) (fun _ => .tuple #[]) (fun _ => rdisk r N (offS keep st) :: A)) := by
  refine Fun.ex (fun w h => rdisk_open h) ?_
  rintro ⟨base, c, l⟩ ⟨hl, hc⟩
  dsimp only at hl hc ⊢
  obtain ⟨files, off, fuse, keep0, deeds⟩ := st
  obtain rfl : off = false := ho
  refine Fun.known (p := l.length ≤ maxLen) (fun w h => row_len h.pk1 hc.1) fun hlen => ?_
  simp only [maxLen] at hlen
  refine Fun.enter Tryz.func25 rfl Tryz.ntmps25 rfl ?_
  refine WC.seq <| WC.seq <| WC.region <| sv (vaI rfl) <| WL.nil <| WX.thenN <| WC.block <| ?_
  refine WC.loop (ι := Nat) (fun i => [(4, .int .i64 i)]) [(0, .pointer _), (1, .int _ _)] (fun i => cel r (rcells base l.length c ⟨files, false, fuse, keep0, deeds⟩) 29 :: row base c 3 79 (fcells (cutI keep i l)) :: rows 5 ((cutI keep i l).map (·.b)) :: A) (fun i => i ≤ l.length) (fun i => l.length - i) (0) (by omega) ⟨rfl, trivial⟩ ⟨rfl, rfl, trivial⟩ (fun w h => by rw [cutI_zero]; exact h) ?_
  intro i hi ρh
  refine WC.seq <| ?_
  refine WC.cut0 [(19, .bool (decide ((i : Int) < l.length)))] [(0, .pointer _), (1, .int _ _), (4, .int _ _)] (cel r (rcells base l.length c ⟨files, false, fuse, keep0, deeds⟩) 29 :: row base c 3 79 (fcells (cutI keep i l)) :: rows 5 ((cutI keep i l).map (·.b)) :: A) ⟨rfl, rfl, rfl, trivial⟩ ?_ fun ρh => ?_
  · -- ref.go:154
    refine WC.region <| sv (vmI rfl) <| sv (vmP rfl) <| sv (vnil rfl) <| sv (vfld fl29f0 rfl) <| sv (vldc pl27 rfl) <| sv (vlen Tryz.underlying27 rfl) <| svs (vlt rfl rfl) (fun q1 => ?_) (fun q1 => ?_)
    ·
      exact sv (vmB rfl) <| svg rfl (vmP rfl) <| svg rfl (vnil rfl) <| svg rfl (vfld fl29f1 rfl) <| svg rfl (vldc pl4 rfl) <| svg rfl (vnot rfl) <| sv (vpkt rfl) <| WL.nil <| WX.mid () trivial ⟨bT (by omega), trivial⟩ ⟨rfl, rfl, rfl, trivial⟩ (fun _ h => h)
    ·
      exact sv (vmB rfl) <| sng rfl <| sng rfl <| sng rfl <| sng rfl <| sng rfl <| sv (vpkf rfl) <| WL.nil <| WX.mid () trivial ⟨bF (by first | omega | simp_all | grind), trivial⟩ ⟨rfl, rfl, rfl, trivial⟩ (fun _ h => h)
  refine WC.ite rfl (fun h1 => ?_) (fun h1 => ?_)
  · -- then
    obtain ⟨x, hx⟩ : ∃ x, l[i]? = some x := ⟨_, List.getElem?_eq_getElem (by omega)⟩
    have hcx := cutI_at (keep := keep) hx
    have hml := cutI_length (keep := keep) (i := i) (l := l)
    have hfl := fcells_length (cutI keep i l)
    have hpos : 0 < (fcells (cutI keep i l)).length := by omega
    have hf1 := fc1 hcx
    have hf2 := fc2 hcx
    have hok := hl.ok x (List.mem_of_getElem? hx)
    obtain ⟨K, hKd⟩ : ∃ K, K = keptOf keep (x.b.xs, x.safe) := ⟨_, rfl⟩
    have hK : (x.safe : Int) + min (max keep 0) ((x.b.xs.length : Int) - (x.safe : Int)) = (K : Int) := by rw [hKd]; unfold keptOf; dsimp only; omega
    have hKl : K ≤ x.b.xs.length := by rw [hKd]; unfold keptOf; dsimp only; omega
    have hst : ((i : Int)).toNat * 3 + 1 < (fcells (cutI keep i l)).length := by omega
    have hstb : ((i : Int)).toNat * 3 + 2 < ((fcells (cutI keep i l)).set (((i : Int)).toNat * 3 + 1) (.slice x.b.base ((K : Int)).toNat x.b.cap)).length := by rw [List.length_set]; omega
    have hf1b : ((fcells (cutI keep i l)).set (((i : Int)).toNat * 3 + 1) (.slice x.b.base ((K : Int)).toNat x.b.cap))[((i : Int)).toNat * 3 + 1]? = some (.slice x.b.base ((K : Int)).toNat x.b.cap) := by rw [List.getElem?_set_self hst]
    refine WC.known (fun w h => row_some hpos h.pk1) fun hb => ?_
    have hbb := hb
    refine WC.skip <| WX.thenN <| WC.seq <| WC.block <| WC.seq <| WC.region <| sv (vmP rfl) <| sv (vnil rfl) <| sv (vfld fl29f0 rfl) <| sv (vldc pl27 rfl) <| sv (vmI rfl) <| sv (vix Tryz.underlying27 sz79 rfl rfl (by omega) (by omega) reads (hpos)) <| sv (vaP rfl) <| WL.nil <| WX.thenN <| WC.seq <| WC.plan (.bar [0, 1, 2, 3, 4, 5, 6, 7, 8, 9, 10, 11, 12, 13, 14, 15, 16, 17, 18, 19, 20, 21, 22, 23, 24, 25] 26 (.done [])) rfl (by kernel_rfl) <| WPl.bar (trivial) <| dv (fun g => (vmP rfl)) <| dv (fun g => (vmP rfl)) <| dv (fun g => (vnilr (hb) rfl)) <| dv (fun g => (vfldr (hb) fl79f1 rfl)) <| dv (fun g => (vldo pl23 rfl reads (hf1))) <| dv (fun g => (vmP rfl)) <| dv (fun g => (vnilr (hb) rfl)) <| dv (fun g => (vfldr (hb) fl79f2 rfl)) <| dv (fun g => (vldo pl3 rfl reads (hf2))) <| dv (fun g => (vmI rfl)) <| dv (fun g => (vmax rfl rfl)) <| dv (fun g => (vmP rfl)) <| dv (fun g => (vnilr (hb) rfl)) <| dv (fun g => (vfldr (hb) fl79f1 rfl)) <| dv (fun g => (vldo pl23 rfl reads (hf1))) <| dv (fun g => (vlen Tryz.underlying23 rfl)) <| dv (fun g => (vmP rfl)) <| dv (fun g => (vnilr (hb) rfl)) <| dv (fun g => (vfldr (hb) fl79f2 rfl)) <| dv (fun g => (vldo pl3 rfl reads (hf2))) <| dv (fun g => (vsub rfl rfl (by omega))) <| dv (fun g => (vmin rfl rfl)) <| dv (fun g => (vw (vadd rfl rfl (by omega)) (iv hK))) <| dv (fun g => (vslH Tryz.underlying23 sz5 rfl rfl (by omega) (by omega))) <| dv (fun g => (vnilr (hb) rfl)) <| dv (fun g => (vfldr (hb) fl79f1 rfl)) <| WD.eff rfl <| pm (fun _ h => h.pk1) <| str (v := .slice _ _ _) pl23 sz23 rfl rfl rfl (hst) <| WL.nil <| WX.brT <| WPl.fin (trivial) <| WD.nil <| WX.thenN <| WC.region <| sv (vmP rfl) <| sv (vmP rfl) <| sv (vnilr (hbb) rfl) <| sv (vfldr (hbb) fl79f1 rfl) <| sv (vldo pl23 rfl reads (hf1b)) <| sv (vlen Tryz.underlying23 rfl) <| sv (vnilr (hbb) rfl) <| sv (vfldr (hbb) fl79f2 rfl) <| str (v := .int _ _) pl3 sz3 rfl rfl rfl (hstb) <| WL.nil <| WX.blockN <| WX.thenN <| WC.region <| sv (vmI rfl) <| sv (vadd rfl rfl (by omega)) <| sv (vaI rfl) <| WL.nil <| WX.again (i + 1) (by omega) (by omega) ⟨rfl, trivial⟩ ⟨rfl, rfl, trivial⟩ (fun w h => ?_)
    have hc2 : cutR keep x = ⟨x.name, ⟨x.b.base, x.b.xs.take K, x.b.cap⟩, K⟩ := by rw [hKd]; rfl
    rw [← cutI_set hx, hc2, fcells_set (y := ⟨x.name, ⟨x.b.base, x.b.xs.take K, x.b.cap⟩, K⟩) hcx rfl, List.map_set]
    have ht : (x.b.xs.take K).length = K := by rw [List.length_take]; omega
    dsimp only
    rw [ht]
    rw [Int.toNat_natCast, Int.toNat_natCast] at h
    exact (rows_take K (x := x.b) (by rw [List.getElem?_map, hcx]; rfl) h.pk2).pk2.pk2.pk1
  · -- else
    have hil : i = l.length := by omega
    subst hil
    refine WC.exit <| WX.thenE <| WX.thenE <| WX.blockH <| WX.thenN <| WC.region <| sv (vmP rfl) <| sv (vnil rfl) <| sv (vfld fl29f1 rfl) <| stc (v := .bool _) pl4 sz4 rfl rfl rfl <| WL.nil <| WX.end0 rfl (()) (trivial) rfl (fun w h => ?_)
    rw [cutI_all] at h
    exact rdisk_mk (hl.offm rfl) (by rw [List.length_map]; exact hc) (by rw [List.length_map]; exact h)
end Go.Proofs.YthljpljbpbkkcaaGreatDoor
end
section
set_option linter.unusedVariables false
set_option linter.unusedSimpArgs false
set_option maxRecDepth 4000
namespace Go.Proofs.YthljpljbpbkkcaaGreatDoor
open Go.Sl Go.RowKit

theorem strB_at {s : ByteArray} {i : Nat} (h : i < s.size) : s[((i : Int)).toNat]? = some (s.data.toList.getD i 0) := by
  have e : ((i : Int)).toNat = i := by omega
  have h2 : i < s.data.toList.length := by simpa using h
  rw [e, List.getD_eq_getElem?_getD, List.getElem?_eq_getElem h2, getElem?_pos s i h]
  rfl
theorem okNameB_at {s : ByteArray} (h : okName s) {i : Nat} (hi : i < s.size) : okByte (s.data.toList.getD i 0) := by
  have h2 : i < s.data.toList.length := by simpa using hi
  rw [List.getD_eq_getElem?_getD, List.getElem?_eq_getElem h2]
  exact h.1 _ (List.getElem_mem h2)
theorem okNameB_of {s : ByteArray} (h0 : s.size ≠ 0) (h16 : s.size ≤ 16) (h : ∀ j, j < s.size → okByte (s.data.toList.getD j 0)) : okName s := by
  refine ⟨fun c hc => ?_, h0, h16⟩
  obtain ⟨j, hj⟩ := List.mem_iff_getElem?.1 hc
  obtain ⟨hl, rfl⟩ := List.getElem?_eq_some_iff.1 hj
  have := h j (by simpa using hl)
  rwa [List.getD_eq_getElem?_getD, List.getElem?_eq_getElem hl] at this
theorem ref_name {w0 : World} {A : List HProp} {s : ByteArray} : Fun Tryz.prog w0 33 [.string s] A (Ret w0 (fun _ : Unit => True) (fun _ => .bool (decide (okName s))) (fun _ => A)) := by
  refine Fun.enter Tryz.func33 rfl Tryz.ntmps33 rfl ?_
  refine WC.seq <| WC.region <| sv (vaB rfl) <| WL.nil <| WX.thenN <| WC.seq <| ?_
  refine WC.cut0 [(12, .bool (decide (¬ (s.size ≠ 0 ∧ s.size ≤ 16))))] [(0, .string _)] (A) ⟨rfl, trivial⟩ ?_ fun ρh => ?_
  · -- ref.go:11
    refine WC.region <| sv (vmT rfl) <| sv (vlens Tryz.underlying9 rfl) <| svs (vlt rfl rfl) (fun q1 => ?_) (fun q1 => ?_)
    ·
      exact sv (vmB rfl) <| sng rfl <| sng rfl <| sng rfl <| sv (vpkt rfl) <| WL.nil <| WX.mid () trivial ⟨bT (by omega), trivial⟩ ⟨rfl, trivial⟩ (fun _ h => h)
    ·
      exact sv (vmB rfl) <| svg rfl (vmT rfl) <| svg rfl (vlens Tryz.underlying9 rfl) <| svg rfl (vgt rfl rfl) <| sv (vpkf rfl) <| WL.nil <| WX.mid () trivial ⟨bI (by omega), trivial⟩ ⟨rfl, trivial⟩ (fun _ h => h)
  refine WC.ite rfl (fun h1 => ?_) (fun h1 => ?_)
  · -- then
    exact WC.seq <| WC.region <| sv (vaB rfl) <| WL.nil <| WX.thenN <| WC.ret <| WX.thenR <| WX.ret1 rfl (()) (trivial) (bF (fun h => h1 h.2)) (fun _ h => h)
  · -- else
    refine WC.skip <| WX.thenN <| WC.seq <| WC.seq <| WC.region <| sv (vaI rfl) <| WL.nil <| WX.thenN <| WC.block <| ?_
    refine WC.loop (ι := Nat) (fun i => [(3, .int .i64 i)]) [(0, .string _)] (fun i => A) (fun i => i ≤ s.size ∧ ∀ j, j < i → okByte (s.data.toList.getD j 0)) (fun i => s.size - i) (0) (⟨Nat.zero_le _, fun j h => by omega⟩) ⟨rfl, trivial⟩ ⟨rfl, trivial⟩ (fun _ h => h) ?_
    intro i hi ρh
    refine WC.seq <| WC.seq <| WC.region <| sv (vmI rfl) <| sv (vmT rfl) <| sv (vlens Tryz.underlying9 rfl) <| sv (vlt rfl rfl) <| WL.nil <| WX.thenN <| ?_
    refine WC.ite rfl (fun h2 => ?_) (fun h2 => ?_)
    · -- then
      obtain ⟨c, hc⟩ : ∃ c, c = s.data.toList.getD i 0 := ⟨_, rfl⟩
      have hat := strB_at (s := s) (i := i) (by omega)
      rw [← hc] at hat
      refine WC.skip <| WX.thenN <| WC.seq <| WC.block <| WC.seq <| WC.region <| sv (vmT rfl) <| sv (vmI rfl) <| sv (vixs Tryz.underlying9 rfl rfl (by omega) hat) <| sv (vaI rfl) <| WL.nil <| WX.thenN <| ?_
      refine WC.cut0 [(43, .bool (decide (¬ okByte c)))] [(0, .string _), (3, .int _ _)] (A) ⟨rfl, rfl, trivial⟩ ?_ fun ρh => ?_
      · -- ref.go:16
        refine WC.region <| sv (vmI rfl) <| svs (vlt rfl rfl) (fun q2 => ?_) (fun q2 => ?_)
        ·
          refine sv (vmB rfl) <| sng rfl <| sng rfl <| sv (vpkt rfl) <| sv (vmB rfl) <| svg rfl (vmI rfl) <| svsg rfl (vlt rfl rfl) (fun q3 => ?_) (fun q3 => ?_)
          ·
            refine svg rfl (vmB rfl) <| sng rfl <| sng rfl <| svg rfl (vpkt rfl) <| sv (vpkt rfl) <| sv (vmB rfl) <| svg rfl (vmI rfl) <| svsg rfl (vne rfl rfl) (fun q4 => ?_) (fun q4 => ?_)
            ·
              exact sv (vpkt rfl) <| sv (vmB rfl) <| svg rfl (vmI rfl) <| svg rfl (vne rfl rfl) <| sv (vpkt rfl) <| WL.nil <| WX.mid () trivial ⟨bI (by unfold okByte; omega), trivial⟩ ⟨rfl, rfl, trivial⟩ (fun _ h => h)
            ·
              exact sv (vpkt rfl) <| sv (vmB rfl) <| sng rfl <| sng rfl <| sv (vpkf rfl) <| WL.nil <| WX.mid () trivial ⟨bF (by unfold okByte; omega), trivial⟩ ⟨rfl, rfl, trivial⟩ (fun _ h => h)
          ·
            refine svg rfl (vmB rfl) <| svg rfl (vmI rfl) <| svsg rfl (vgt rfl rfl) (fun q5 => ?_) (fun q5 => ?_)
            ·
              refine svg rfl (vpkf rfl) <| sv (vpkt rfl) <| sv (vmB rfl) <| svg rfl (vmI rfl) <| svsg rfl (vne rfl rfl) (fun q6 => ?_) (fun q6 => ?_)
              ·
                exact sv (vpkt rfl) <| sv (vmB rfl) <| svg rfl (vmI rfl) <| svg rfl (vne rfl rfl) <| sv (vpkt rfl) <| WL.nil <| WX.mid () trivial ⟨bI (by unfold okByte; omega), trivial⟩ ⟨rfl, rfl, trivial⟩ (fun _ h => h)
              ·
                exact sv (vpkt rfl) <| sv (vmB rfl) <| sng rfl <| sng rfl <| sv (vpkf rfl) <| WL.nil <| WX.mid () trivial ⟨bF (by unfold okByte; omega), trivial⟩ ⟨rfl, rfl, trivial⟩ (fun _ h => h)
            ·
              exact svg rfl (vpkf rfl) <| sv (vpkt rfl) <| sv (vmB rfl) <| sng rfl <| sng rfl <| sv (vpkf rfl) <| sv (vmB rfl) <| sng rfl <| sng rfl <| sv (vpkf rfl) <| WL.nil <| WX.mid () trivial ⟨bF (by unfold okByte; omega), trivial⟩ ⟨rfl, rfl, trivial⟩ (fun _ h => h)
        ·
          refine sv (vmB rfl) <| svg rfl (vmI rfl) <| svsg rfl (vgt rfl rfl) (fun q7 => ?_) (fun q7 => ?_)
          ·
            refine sv (vpkf rfl) <| sv (vmB rfl) <| svg rfl (vmI rfl) <| svsg rfl (vlt rfl rfl) (fun q8 => ?_) (fun q8 => ?_)
            ·
              refine svg rfl (vmB rfl) <| sng rfl <| sng rfl <| svg rfl (vpkt rfl) <| sv (vpkt rfl) <| sv (vmB rfl) <| svg rfl (vmI rfl) <| svsg rfl (vne rfl rfl) (fun q9 => ?_) (fun q9 => ?_)
              ·
                exact sv (vpkt rfl) <| sv (vmB rfl) <| svg rfl (vmI rfl) <| svg rfl (vne rfl rfl) <| sv (vpkt rfl) <| WL.nil <| WX.mid () trivial ⟨bI (by unfold okByte; omega), trivial⟩ ⟨rfl, rfl, trivial⟩ (fun _ h => h)
              ·
                exact sv (vpkt rfl) <| sv (vmB rfl) <| sng rfl <| sng rfl <| sv (vpkf rfl) <| WL.nil <| WX.mid () trivial ⟨bF (by unfold okByte; omega), trivial⟩ ⟨rfl, rfl, trivial⟩ (fun _ h => h)
            ·
              refine svg rfl (vmB rfl) <| svg rfl (vmI rfl) <| svsg rfl (vgt rfl rfl) (fun q10 => ?_) (fun q10 => ?_)
              ·
                refine svg rfl (vpkf rfl) <| sv (vpkt rfl) <| sv (vmB rfl) <| svg rfl (vmI rfl) <| svsg rfl (vne rfl rfl) (fun q11 => ?_) (fun q11 => ?_)
                ·
                  exact sv (vpkt rfl) <| sv (vmB rfl) <| svg rfl (vmI rfl) <| svg rfl (vne rfl rfl) <| sv (vpkt rfl) <| WL.nil <| WX.mid () trivial ⟨bI (by unfold okByte; omega), trivial⟩ ⟨rfl, rfl, trivial⟩ (fun _ h => h)
                ·
                  exact sv (vpkt rfl) <| sv (vmB rfl) <| sng rfl <| sng rfl <| sv (vpkf rfl) <| WL.nil <| WX.mid () trivial ⟨bF (by unfold okByte; omega), trivial⟩ ⟨rfl, rfl, trivial⟩ (fun _ h => h)
              ·
                exact svg rfl (vpkf rfl) <| sv (vpkt rfl) <| sv (vmB rfl) <| sng rfl <| sng rfl <| sv (vpkf rfl) <| sv (vmB rfl) <| sng rfl <| sng rfl <| sv (vpkf rfl) <| WL.nil <| WX.mid () trivial ⟨bF (by unfold okByte; omega), trivial⟩ ⟨rfl, rfl, trivial⟩ (fun _ h => h)
          ·
            exact sv (vpkf rfl) <| sv (vmB rfl) <| sng rfl <| sng rfl <| sng rfl <| sng rfl <| sng rfl <| sng rfl <| sv (vpkf rfl) <| sv (vmB rfl) <| sng rfl <| sng rfl <| sv (vpkf rfl) <| sv (vmB rfl) <| sng rfl <| sng rfl <| sv (vpkf rfl) <| WL.nil <| WX.mid () trivial ⟨bF (by unfold okByte; omega), trivial⟩ ⟨rfl, rfl, trivial⟩ (fun _ h => h)
      refine WC.ite rfl (fun h3 => ?_) (fun h3 => ?_)
      · -- then
        exact WC.seq <| WC.region <| sv (vaB rfl) <| WL.nil <| WX.thenN <| WC.ret <| WX.blockR <| WX.thenR <| WX.thenR <| WX.blockR <| WX.thenR <| WX.ret1 rfl (()) (trivial) (bF (fun h => h3 (by rw [hc]; exact okNameB_at h (by omega)))) (fun _ h => h)
      · -- else
        exact WC.skip <| WX.blockN <| WX.thenN <| WC.region <| sv (vmI rfl) <| sv (vadd rfl rfl (by omega)) <| sv (vaI rfl) <| WL.nil <| WX.again (i + 1) (⟨by omega, fun j hj => by rcases Nat.lt_succ_iff_lt_or_eq.1 hj with h | rfl; exact hi.2 j h; rw [← hc]; exact Decidable.not_not.1 h3⟩) (by omega) ⟨rfl, trivial⟩ ⟨rfl, trivial⟩ (fun _ h => h)
    · -- else
      exact WC.exit <| WX.thenE <| WX.thenE <| WX.blockH <| WX.thenN <| WC.seq <| WC.region <| sv (vaB rfl) <| WL.nil <| WX.thenN <| WC.ret <| WX.ret1 rfl (()) (trivial) (bT (okNameB_of (by omega) (by omega) (fun j hj => hi.2 j (by omega)))) (fun _ h => h)
theorem ref_off {w0 : World} {A : List HProp} {r N : Nat} {st : DSt} {keep : Int} :
    Fun Tryz.prog w0 25 [.pointer (some ⟨r, 0, none⟩), .int .i64 keep] (rdisk r N st :: A) (Ret w0 (fun _ : Unit => True) (fun _ => .tuple #[]) (fun _ => rdisk r N (offS keep st) :: A)) := by
  cases ho : st.off with
  | true =>
    have he : offS keep st = st := by unfold offS; rw [if_pos ho]
    rw [he]; exact ref_off_off ho
  | false => exact ref_off_on ho
theorem same_name {l : List RF} {i j : Nat} {x y : RF} (hn : (l.map (·.name)).Nodup) (hi : l[i]? = some x) (hj : l[j]? = some y) (h : x.name = y.name) : i = j := by
  have g1 : (l.map (·.name))[i]? = some x.name := by simp [hi]
  have g2 : (l.map (·.name))[j]? = some x.name := by simp [hj, h]
  exact (List.getElem?_inj (by simpa using (List.getElem?_eq_some_iff.1 hi).1) hn).1 (g1.trans g2.symm)
section
variable {w0 : World} {R A : List HProp} {r c j : Nat} {base : Option Addr} {st : DSt} {l : List RF} {nm : ByteArray} {x : RF}
theorem ref_find_j (hl : l.length ≤ 1099511627776) (hn : (l.map (·.name)).Nodup) (hj : l[j]? = some x) :
    Fun Tryz.prog w0 34 [.pointer (some ⟨r, 0, none⟩), .string x.name] (cel r (rcells base l.length c st) 29 :: row base c 3 79 (fcells l) :: R)
      (Ret w0 (fun _ : Unit => True) (fun _ => .int .i64 j) (fun _ => cel r (rcells base l.length c st) 29 :: row base c 3 79 (fcells l) :: R)) :=
  ref_find hl (fun i y hi hy _ => by rw [same_name hn hi hj hy]) (fun h => absurd rfl (h x (List.mem_of_getElem? hj)))
theorem ref_find_no (hl : l.length ≤ 1099511627776) (hno : ∀ x ∈ l, x.name ≠ nm) :
    Fun Tryz.prog w0 34 [.pointer (some ⟨r, 0, none⟩), .string nm] (cel r (rcells base l.length c st) 29 :: row base c 3 79 (fcells l) :: R)
      (Ret w0 (fun _ : Unit => True) (fun _ => .int .i64 (-1)) (fun _ => cel r (rcells base l.length c st) 29 :: row base c 3 79 (fcells l) :: R)) :=
  ref_find hl (fun i y hi hy _ => absurd hy (hno y (List.mem_of_getElem? hi))) (fun _ => rfl)
end
theorem lookR_at {l : List RF} {k : ByteArray} {v : List UInt8 × Nat} (h : lookR l k = some v) : ∃ (j : Nat) (x : RF), l[j]? = some x ∧ x.name = k ∧ (x.b.xs, x.safe) = v := by
  induction l with
  | nil => cases h
  | cons y l ih =>
    unfold lookR at h
    split at h
    · exact ⟨0, y, rfl, by assumption, Option.some.inj h⟩
    · obtain ⟨j, x, h1, h2⟩ := ih h
      exact ⟨j + 1, x, by simpa using h1, h2⟩
theorem lookR_no {l : List RF} {k : ByteArray} (h : lookR l k = none) : ∀ x ∈ l, x.name ≠ k := by
  induction l with
  | nil => intro x hx; cases hx
  | cons y l ih =>
    unfold lookR at h
    split at h
    · cases h
    · intro x hx
      rcases List.mem_cons.1 hx with rfl | hx
      · assumption
      · exact ih h x hx
theorem RRep.at {l : List RF} {st : DSt} {k : ByteArray} {v : List UInt8 × Nat} (h : RRep l st) (hk : st.files k = some v) : ∃ (j : Nat) (x : RF), l[j]? = some x ∧ x.name = k ∧ (x.b.xs, x.safe) = v := lookR_at ((h.look k).trans hk)
theorem RRep.no {l : List RF} {st : DSt} {k : ByteArray} (h : RRep l st) (hk : st.files k = none) : ∀ x ∈ l, x.name ≠ k := lookR_no ((h.look k).trans hk)
theorem lookR_set {y x : RF} (hy : y.name = x.name) {k : ByteArray} : ∀ {l : List RF} {j : Nat}, (l.map (·.name)).Nodup → l[j]? = some x → lookR (l.set j y) k = if k = x.name then some (y.b.xs, y.safe) else lookR l k
  | [], _, _, h => by simp at h
  | z :: l, 0, hn, h => by
    simp at h; subst h
    simp only [List.set_cons_zero, lookR, hy]
    by_cases hk : z.name = k
    · simp [hk]
    · rw [if_neg hk, if_neg (Ne.symm hk), if_neg hk]
  | z :: l, j + 1, hn, h => by
    simp only [List.map_cons, List.nodup_cons] at hn
    have h' : l[j]? = some x := by simpa using h
    have hx : x ∈ l := List.mem_of_getElem? h'
    simp only [List.set_cons_succ, lookR]
    rw [lookR_set hy hn.2 h']
    by_cases hk : z.name = k
    · have : k ≠ x.name := fun he => hn.1 (List.mem_map.2 ⟨x, hx, by rw [← he, hk]⟩)
      rw [if_pos hk, if_neg this, if_pos hk]
    · rw [if_neg hk, if_neg hk]
theorem map_set_name {l : List RF} {j : Nat} {x y : RF} (h : l[j]? = some x) (hy : y.name = x.name) : (l.set j y).map (·.name) = l.map (·.name) := by
  rw [List.map_set]
  apply List.ext_getElem?
  intro i
  rw [List.getElem?_set]
  by_cases hi : j = i
  · subst hi
    have h1 := (List.getElem?_eq_some_iff.1 h).1
    have hx : l[j] = x := (List.getElem?_eq_some_iff.1 h).2
    simp [h1, hy, hx]
  · simp [hi]
theorem RRep.put {l : List RF} {st st' : DSt} {j : Nat} {x y : RF} (h : RRep l st) (hj : l[j]? = some x) (hy : y.name = x.name) (hok : y.safe ≤ y.b.xs.length ∧ y.b.xs.length ≤ 16777216 ∧ y.b.xs.length ≤ y.b.cap) (hf : st'.files = putV x.name (y.b.xs, y.safe) st.files) (hu : 0 ≤ st'.fuse ∧ st'.fuse ≤ 9223372036854775807) :
    RRep (l.set j y) st' := by
  refine ⟨by rw [map_set_name hj hy]; exact h.sorted, fun k => ?_, fun z hz => ?_, hu⟩
  · rw [lookR_set hy h.nodup hj, hf, h.look]; rfl
  · rcases List.mem_or_eq_of_mem_set hz with hz | rfl
    · exact h.ok z hz
    · exact hok
theorem map_set_b {l : List RF} {j : Nat} {x : RF} {s : Nat} (h : l[j]? = some x) : (l.set j ⟨x.name, x.b, s⟩).map (·.b) = l.map (·.b) := by
  rw [List.map_set]
  exact set_same (by rw [List.getElem?_map, h]; rfl)
theorem setv_same {α : Type} {l : List α} {j : Nat} {v : α} (h : l[j]? = some v) : l.set j v = l := set_same h
theorem fcells_safe {l : List RF} {i : Nat} {x : RF} (s : Nat) (h : l[i]? = some x) : fcells (l.set i ⟨x.name, x.b, s⟩) = (fcells l).set (i * 3 + 2) (.int .i64 s) := by
  rw [fcells_set (y := ⟨x.name, x.b, s⟩) h rfl]
  dsimp only
  rw [set_same (fcells_at h (k := 1) (by omega))]
theorem ref_sync_off {w0 : World} {A : List HProp} {r n c : Nat} {base : Option Addr} {st : DSt} {nm : ByteArray} (ho : st.off = true) :
    Fun Tryz.prog w0 77 [.pointer (some ⟨r, 0, none⟩), .string nm] (cel r (rcells base n c st) 29 :: A) (Ret w0 (fun _ : Unit => True) (fun _ => .int .i64 20) (fun _ => cel r (rcells base n c st) 29 :: A)) := by
  obtain ⟨files, off, fuse, keep0, deeds⟩ := st
  obtain rfl : off = true := ho
  refine Fun.enter Tryz.func77 rfl Tryz.ntmps77 rfl ?_
  refine WC.seq <| WC.region <| sv (vaI rfl) <| WL.nil <| WX.thenN <| WC.seq <| WC.seq <| WC.region <| sv (vmP rfl) <| sv (vnil rfl) <| sv (vfld fl29f1 rfl) <| sv (vldc pl4 rfl) <| WL.nil <| WX.thenN <| ?_
  refine WC.tt rfl ?_
  exact WC.seq <| WC.region <| sv (vaI rfl) <| WL.nil <| WX.thenN <| WC.ret <| WX.thenR <| WX.ret1 rfl (()) (trivial) rfl (fun _ h => h)
theorem ref_sync_no {w0 : World} {R : List HProp} {r c : Nat} {base : Option Addr} {st : DSt} {nm : ByteArray} {l : List RF} (hl : l.length ≤ 1099511627776) (ho : st.off = false) (hno : ∀ x ∈ l, x.name ≠ nm) :
    Fun Tryz.prog w0 77 [.pointer (some ⟨r, 0, none⟩), .string nm] (cel r (rcells base l.length c st) 29 :: row base c 3 79 (fcells l) :: R) (Ret w0 (fun _ : Unit => True) (fun _ => .int .i64 21) (fun _ => cel r (rcells base l.length c st) 29 :: row base c 3 79 (fcells l) :: R)) := by
  obtain ⟨files, off, fuse, keep0, deeds⟩ := st
  obtain rfl : off = false := ho
  refine Fun.enter Tryz.func77 rfl Tryz.ntmps77 rfl ?_
  refine WC.seq <| WC.region <| sv (vaI rfl) <| WL.nil <| WX.thenN <| WC.seq <| WC.seq <| WC.region <| sv (vmP rfl) <| sv (vnil rfl) <| sv (vfld fl29f1 rfl) <| sv (vldc pl4 rfl) <| WL.nil <| WX.thenN <| ?_
  refine WC.ff rfl ?_
  refine WC.skip <| WX.thenN <| WC.seq <| WC.region <| sv (vmP rfl) <| sv (vmT rfl) <| cl (ref_find_no hl hno) ct34 rfl fun _ _ => sv (vaI rfl) <| WL.nil <| WX.thenN <| WC.seq <| WC.seq <| WC.region <| sv (vmI rfl) <| sv (vlt rfl rfl) <| WL.nil <| WX.thenN <| ?_
  refine WC.ite rfl (fun h2 => ?_) (fun h2 => ?_)
  · -- then
    exact WC.seq <| WC.region <| sv (vaI rfl) <| WL.nil <| WX.thenN <| WC.ret <| WX.thenR <| WX.ret1 rfl (()) (trivial) rfl (fun _ h => h)
  · -- else
    exact absurd (by decide) h2
theorem ref_sync_ok {w0 : World} {A : List HProp} {r c j N : Nat} {base : Option Addr} {st : DSt} {l : List RF} {x : RF} (hN : N ≤ 1099511627776) (hr : RRep l st) (hc : l.length ≤ c ∧ l.length ≤ N) (ho : st.off = false) (hj : l[j]? = some x) (hd : 0 ≤ st.deeds ∧ st.deeds + 1 ≤ 9223372036854775807) :
    Fun Tryz.prog w0 77 [.pointer (some ⟨r, 0, none⟩), .string x.name] (cel r (rcells base l.length c st) 29 :: row base c 3 79 (fcells l) :: rows 5 (l.map (·.b)) :: A)
      (Ret w0 (fun _ : Unit => True) (fun _ => .int .i64 (if st.fuse - 1 = 0 then 20 else 0)) (fun _ => if st.fuse - 1 = 0 then rdisk r N (offS st.keep { st with deeds := st.deeds + 1, fuse := 0 }) :: A
        else rdisk r N { st with deeds := st.deeds + 1, fuse := max (st.fuse - 1) 0, files := putV x.name (x.b.xs, x.b.xs.length) st.files } :: A)) := by
  obtain ⟨files, off, fuse, keep0, deeds⟩ := st
  obtain rfl : off = false := ho
  have hu := hr.fuse
  dsimp only at hu hd
  have hjl := (List.getElem?_eq_some_iff.1 hj).1
  have hfl := fcells_length l
  have hpos : 0 < (fcells l).length := by omega
  have hf1 := fc1 hj
  have hst : ((j : Int)).toNat * 3 + 2 < (fcells l).length := by omega
  have hok := hr.ok x (List.mem_of_getElem? hj)
  refine Fun.known (fun w h => row_some hpos h.pk1) fun hb => ?_
  refine Fun.enter Tryz.func77 rfl Tryz.ntmps77 rfl ?_
  refine WC.seq <| WC.region <| sv (vaI rfl) <| WL.nil <| WX.thenN <| WC.seq <| WC.seq <| WC.region <| sv (vmP rfl) <| sv (vnil rfl) <| sv (vfld fl29f1 rfl) <| sv (vldc pl4 rfl) <| WL.nil <| WX.thenN <| ?_
  refine WC.ff rfl ?_
  refine WC.skip <| WX.thenN <| WC.seq <| WC.region <| sv (vmP rfl) <| sv (vmT rfl) <| cl (ref_find_j (by omega) hr.nodup hj) ct34 rfl fun _ _ => sv (vaI rfl) <| WL.nil <| WX.thenN <| WC.seq <| WC.seq <| WC.region <| sv (vmI rfl) <| sv (vlt rfl rfl) <| WL.nil <| WX.thenN <| ?_
  refine WC.ite rfl (fun h2 => ?_) (fun h2 => ?_)
  · -- then
    omega
  · -- else
    refine WC.skip <| WX.thenN <| WC.seq <| WC.seq <| WC.region <| sv (vmP rfl) <| cl (ref_deed hu hd) ct35 rfl fun _ _ => WL.nil <| WX.thenN <| ?_
    refine WC.ite rfl (fun h3 => ?_) (fun h3 => ?_)
    · -- then
      simp only [if_pos h3]
      dsimp only at h3
      refine WC.seq <| WC.region <| sv (vmP rfl) <| sv (vmP rfl) <| sv (vnil rfl) <| sv (vfld fl29f3 rfl) <| sv (vldc pl3 rfl) <| pm (fun _ h => rdisk_mk (st := ⟨files, false, max (fuse - 1) 0, keep0, deeds + 1⟩) (hr.same rfl (by dsimp only; omega)) hc h) <| cl (ref_off) ct25 rfl fun _ _ => WL.nil <| WX.thenN <| WC.seq <| WC.region <| sv (vaI rfl) <| WL.nil <| WX.thenN <| WC.ret <| WX.thenR <| WX.ret1 rfl (()) (trivial) rfl (fun w h => ?_)
      have e : max (fuse - 1) 0 = 0 := by omega
      rw [e] at h; exact h
    · -- else
      simp only [if_neg h3]
      refine WC.skip <| WX.thenN <| WC.seq <| WC.plan (.bar [0, 1, 2, 3, 4, 5, 6, 7, 8, 9, 10, 11, 12, 13, 14, 15] 16 (.done [])) rfl (by kernel_rfl) <| WPl.bar (trivial) <| dv (fun g => (vmP rfl)) <| dv (fun g => (vnil rfl)) <| dv (fun g => (vfld fl29f0 rfl)) <| dv (fun g => (vldc pl27 rfl)) <| dv (fun g => (vmI rfl)) <| dv (fun g => (vmP rfl)) <| dv (fun g => (vnil rfl)) <| dv (fun g => (vfld fl29f0 rfl)) <| dv (fun g => (vldc pl27 rfl)) <| dv (fun g => (vmI rfl)) <| dv (fun g => (vix Tryz.underlying27 sz79 rfl rfl (by omega) (by omega) reads (hpos))) <| dv (fun g => (vfldr (hb) fl79f1 rfl)) <| dv (fun g => (vldo pl23 rfl reads (hf1))) <| dv (fun g => (vlen Tryz.underlying23 rfl)) <| dv (fun g => (vix Tryz.underlying27 sz79 rfl rfl (by omega) (by omega) reads (hpos))) <| dv (fun g => (vfldr (hb) fl79f2 rfl)) <| WD.eff rfl <| pm (fun _ h => h.pk1) <| str (v := .int _ _) pl3 sz3 rfl rfl rfl (hst) <| WL.nil <| WX.brT <| WPl.fin (trivial) <| WD.nil <| WX.thenN <| WC.seq <| WC.region <| sv (vaI rfl) <| WL.nil <| WX.thenN <| WC.ret <| WX.ret1 rfl (()) (trivial) rfl (fun w h => ?_)
      have e := fcells_safe x.b.xs.length hj
      rw [Int.toNat_natCast, ← e] at h
      have h1 := h.pk1
      refine rdisk_mk (l := l.set j ⟨x.name, x.b, x.b.xs.length⟩) (base := base) (c := c) (hr.put hj rfl ⟨Nat.le_refl _, hok.2.1, hok.2.2⟩ rfl (by dsimp only; omega)) (by rw [List.length_set]; exact hc) ?_
      rw [List.length_set, map_set_b hj]
      exact h1
theorem ref_sync {w0 : World} {A : List HProp} {r N : Nat} {st : DSt} {nm : ByteArray} (hd : 0 ≤ st.deeds ∧ st.deeds + 1 ≤ 9223372036854775807) (hN : N ≤ 1099511627776) :
    Fun Tryz.prog w0 77 [.pointer (some ⟨r, 0, none⟩), .string nm] (rdisk r N st :: A) (Ret w0 (fun _ : Unit => True) (fun _ => .int .i64 (syncS nm st).2) (fun _ => rdisk r N (syncS nm st).1 :: A)) := by
  refine Fun.ex (fun w h => rdisk_open h) ?_
  rintro ⟨base, c, l⟩ ⟨hr, hc⟩
  dsimp only at hr hc ⊢
  by_cases hne : findE nm st = 0
  · obtain ⟨ho, v, hf⟩ := findE_ok hne
    obtain ⟨j, x, hj, rfl, rfl⟩ := hr.at hf
    have hk : syncS x.name st = deedS (putV x.name (x.b.xs, x.b.xs.length)) id st := by unfold syncS; rw [if_neg (by rw [ho]; decide), hf]
    refine (ref_sync_ok hN hr hc ho hj hd).mono fun e w ⟨i, hi, he, hO⟩ => ⟨i, hi, ?_, ?_⟩
    · rw [he, hk]; unfold deedS; split <;> rfl
    · rw [hk]; unfold deedS
      dsimp only at hO
      split at hO
      · rename_i h; rw [if_pos h]; exact hO
      · rename_i h; rw [if_neg h]; exact hO
  · rw [(readS_bad hne).2.1]
    unfold findE at hne ⊢
    cases ho : st.off with
    | true =>
      simp only [if_true]
      exact (ref_sync_off ho).mono fun e w ⟨i, hi, he, hO⟩ => ⟨i, hi, he, rdisk_mk hr hc hO⟩
    | false =>
      cases hf : st.files nm with
      | some v => simp [ho, hf] at hne
      | none =>
        simp only [Bool.false_eq_true, if_false, Option.isSome_none]
        exact (ref_sync_no (by omega) ho (hr.no hf)).mono fun e w ⟨i, hi, he, hO⟩ => ⟨i, hi, he, rdisk_mk hr hc hO⟩
theorem ref_read_off {w0 : World} {A : List HProp} {r n c : Nat} {base : Option Addr} {st : DSt} {nm : ByteArray} (ho : st.off = true) :
    Fun Tryz.prog w0 66 [.pointer (some ⟨r, 0, none⟩), .string nm] (cel r (rcells base n c st) 29 :: A) (Ret w0 (fun _ : Unit => True) (fun _ => .tuple #[.slice none 0 0, .int .i64 20]) (fun _ => cel r (rcells base n c st) 29 :: A)) := by
  obtain ⟨files, off, fuse, keep0, deeds⟩ := st
  obtain rfl : off = true := ho
  refine Fun.enter Tryz.func66 rfl Tryz.ntmps66 rfl ?_
  refine WC.seq <| WC.region <| sv (vaS rfl) <| sv (vaI rfl) <| WL.nil <| WX.thenN <| WC.seq <| WC.seq <| WC.region <| sv (vmP rfl) <| sv (vnil rfl) <| sv (vfld fl29f1 rfl) <| sv (vldc pl4 rfl) <| WL.nil <| WX.thenN <| ?_
  refine WC.tt rfl ?_
  exact WC.seq <| WC.region <| sv (vaS rfl) <| sv (vaI rfl) <| WL.nil <| WX.thenN <| WC.ret <| WX.thenR <| WX.ret2 rfl (()) (trivial) rfl (fun _ h => h)
theorem ref_read_no {w0 : World} {R : List HProp} {r c : Nat} {base : Option Addr} {st : DSt} {nm : ByteArray} {l : List RF} (hl : l.length ≤ 1099511627776) (ho : st.off = false) (hno : ∀ x ∈ l, x.name ≠ nm) :
    Fun Tryz.prog w0 66 [.pointer (some ⟨r, 0, none⟩), .string nm] (cel r (rcells base l.length c st) 29 :: row base c 3 79 (fcells l) :: R) (Ret w0 (fun _ : Unit => True) (fun _ => .tuple #[.slice none 0 0, .int .i64 21]) (fun _ => cel r (rcells base l.length c st) 29 :: row base c 3 79 (fcells l) :: R)) := by
  obtain ⟨files, off, fuse, keep0, deeds⟩ := st
  obtain rfl : off = false := ho
  refine Fun.enter Tryz.func66 rfl Tryz.ntmps66 rfl ?_
  refine WC.seq <| WC.region <| sv (vaS rfl) <| sv (vaI rfl) <| WL.nil <| WX.thenN <| WC.seq <| WC.seq <| WC.region <| sv (vmP rfl) <| sv (vnil rfl) <| sv (vfld fl29f1 rfl) <| sv (vldc pl4 rfl) <| WL.nil <| WX.thenN <| ?_
  refine WC.ff rfl ?_
  refine WC.skip <| WX.thenN <| WC.seq <| WC.region <| sv (vmP rfl) <| sv (vmT rfl) <| cl (ref_find_no hl hno) ct34 rfl fun _ _ => sv (vaI rfl) <| WL.nil <| WX.thenN <| WC.seq <| WC.seq <| WC.region <| sv (vmI rfl) <| sv (vlt rfl rfl) <| WL.nil <| WX.thenN <| ?_
  refine WC.ite rfl (fun h2 => ?_) (fun h2 => ?_)
  · -- then
    exact WC.seq <| WC.region <| sv (vaS rfl) <| sv (vaI rfl) <| WL.nil <| WX.thenN <| WC.ret <| WX.thenR <| WX.ret2 rfl (()) (trivial) rfl (fun _ h => h)
  · -- else
    exact absurd (by decide) h2
theorem ref_read_ok {w0 : World} {R : List HProp} {r c j : Nat} {base : Option Addr} {st : DSt} {l : List RF} {x : RF} (hl : l.length ≤ 1099511627776) (hr : RRep l st) (ho : st.off = false) (hj : l[j]? = some x) :
    Fun Tryz.prog w0 66 [.pointer (some ⟨r, 0, none⟩), .string x.name] (cel r (rcells base l.length c st) 29 :: row base c 3 79 (fcells l) :: R)
      (Ret w0 (fun _ : Unit => True) (fun _ => .tuple #[.slice x.b.base x.b.xs.length x.b.cap, .int .i64 0]) (fun _ => cel r (rcells base l.length c st) 29 :: row base c 3 79 (fcells l) :: R)) := by
  obtain ⟨files, off, fuse, keep0, deeds⟩ := st
  obtain rfl : off = false := ho
  have hjl := (List.getElem?_eq_some_iff.1 hj).1
  have hfl := fcells_length l
  have hpos : 0 < (fcells l).length := by omega
  have hf1 := fc1 hj
  refine Fun.known (fun w h => row_some hpos h.pk1) fun hb => ?_
  refine Fun.enter Tryz.func66 rfl Tryz.ntmps66 rfl ?_
  refine WC.seq <| WC.region <| sv (vaS rfl) <| sv (vaI rfl) <| WL.nil <| WX.thenN <| WC.seq <| WC.seq <| WC.region <| sv (vmP rfl) <| sv (vnil rfl) <| sv (vfld fl29f1 rfl) <| sv (vldc pl4 rfl) <| WL.nil <| WX.thenN <| ?_
  refine WC.ff rfl ?_
  refine WC.skip <| WX.thenN <| WC.seq <| WC.region <| sv (vmP rfl) <| sv (vmT rfl) <| cl (ref_find_j (by omega) hr.nodup hj) ct34 rfl fun _ _ => sv (vaI rfl) <| WL.nil <| WX.thenN <| WC.seq <| WC.seq <| WC.region <| sv (vmI rfl) <| sv (vlt rfl rfl) <| WL.nil <| WX.thenN <| ?_
  refine WC.ite rfl (fun h2 => ?_) (fun h2 => ?_)
  · -- then
    omega
  · -- else
    exact WC.skip <| WX.thenN <| WC.seq <| WC.region <| sv (vmP rfl) <| sv (vnil rfl) <| sv (vfld fl29f0 rfl) <| sv (vldc pl27 rfl) <| sv (vmI rfl) <| sv (vix Tryz.underlying27 sz79 rfl rfl (by omega) (by omega) reads (hpos)) <| sv (vfldr (hb) fl79f1 rfl) <| sv (vldo pl23 rfl reads (hf1)) <| sv (vaS rfl) <| sv (vaI rfl) <| WL.nil <| WX.thenN <| WC.ret <| WX.ret2 rfl (()) (trivial) rfl (fun _ h => h)
end Go.Proofs.YthljpljbpbkkcaaGreatDoor
end
section
set_option linter.unusedVariables false
set_option linter.unusedSimpArgs false
set_option maxRecDepth 4000
namespace Go.Proofs.YthljpljbpbkkcaaGreatDoor
open Go.Sl Go.RowKit

theorem ref_cut_off {w0 : World} {A : List HProp} {r n c : Nat} {base : Option Addr} {st : DSt} {nm : ByteArray} {m : Int} (ho : st.off = true) :
    Fun Tryz.prog w0 68 [.pointer (some ⟨r, 0, none⟩), .string nm, .int .i64 m] (cel r (rcells base n c st) 29 :: A) (Ret w0 (fun _ : Unit => True) (fun _ => .int .i64 20) (fun _ => cel r (rcells base n c st) 29 :: A)) := by
  obtain ⟨files, off, fuse, keep0, deeds⟩ := st
  obtain rfl : off = true := ho
  refine Fun.enter Tryz.func68 rfl Tryz.ntmps68 rfl ?_
  refine WC.seq <| WC.region <| sv (vaI rfl) <| WL.nil <| WX.thenN <| WC.seq <| WC.seq <| WC.region <| sv (vmP rfl) <| sv (vnil rfl) <| sv (vfld fl29f1 rfl) <| sv (vldc pl4 rfl) <| WL.nil <| WX.thenN <| ?_
  refine WC.tt rfl ?_
  exact WC.seq <| WC.region <| sv (vaI rfl) <| WL.nil <| WX.thenN <| WC.ret <| WX.thenR <| WX.ret1 rfl (()) (trivial) rfl (fun _ h => h)
theorem ref_cut_no {w0 : World} {R : List HProp} {r c : Nat} {base : Option Addr} {st : DSt} {nm : ByteArray} {m : Int} {l : List RF} (hl : l.length ≤ 1099511627776) (ho : st.off = false) (hno : ∀ x ∈ l, x.name ≠ nm) :
    Fun Tryz.prog w0 68 [.pointer (some ⟨r, 0, none⟩), .string nm, .int .i64 m] (cel r (rcells base l.length c st) 29 :: row base c 3 79 (fcells l) :: R) (Ret w0 (fun _ : Unit => True) (fun _ => .int .i64 21) (fun _ => cel r (rcells base l.length c st) 29 :: row base c 3 79 (fcells l) :: R)) := by
  obtain ⟨files, off, fuse, keep0, deeds⟩ := st
  obtain rfl : off = false := ho
  refine Fun.enter Tryz.func68 rfl Tryz.ntmps68 rfl ?_
  refine WC.seq <| WC.region <| sv (vaI rfl) <| WL.nil <| WX.thenN <| WC.seq <| WC.seq <| WC.region <| sv (vmP rfl) <| sv (vnil rfl) <| sv (vfld fl29f1 rfl) <| sv (vldc pl4 rfl) <| WL.nil <| WX.thenN <| ?_
  refine WC.ff rfl ?_
  refine WC.skip <| WX.thenN <| WC.seq <| WC.region <| sv (vmP rfl) <| sv (vmT rfl) <| cl (ref_find_no hl hno) ct34 rfl fun _ _ => sv (vaI rfl) <| WL.nil <| WX.thenN <| WC.seq <| WC.seq <| WC.region <| sv (vmI rfl) <| sv (vlt rfl rfl) <| WL.nil <| WX.thenN <| ?_
  refine WC.ite rfl (fun h2 => ?_) (fun h2 => ?_)
  · -- then
    exact WC.seq <| WC.region <| sv (vaI rfl) <| WL.nil <| WX.thenN <| WC.ret <| WX.thenR <| WX.ret1 rfl (()) (trivial) rfl (fun _ h => h)
  · -- else
    exact absurd (by decide) h2
theorem ref_cut_arg {w0 : World} {R : List HProp} {r c j : Nat} {base : Option Addr} {st : DSt} {m : Int} {l : List RF} {x : RF} (hl : l.length ≤ 1099511627776) (hr : RRep l st) (ho : st.off = false) (hj : l[j]? = some x) (hm : m < 0 ∨ (x.b.xs.length : Int) < m) :
    Fun Tryz.prog w0 68 [.pointer (some ⟨r, 0, none⟩), .string x.name, .int .i64 m] (cel r (rcells base l.length c st) 29 :: row base c 3 79 (fcells l) :: R) (Ret w0 (fun _ : Unit => True) (fun _ => .int .i64 1) (fun _ => cel r (rcells base l.length c st) 29 :: row base c 3 79 (fcells l) :: R)) := by
  obtain ⟨files, off, fuse, keep0, deeds⟩ := st
  obtain rfl : off = false := ho
  have hjl := (List.getElem?_eq_some_iff.1 hj).1
  have hfl := fcells_length l
  have hpos : 0 < (fcells l).length := by omega
  have hf1 := fc1 hj
  refine Fun.known (fun w h => row_some hpos h.pk1) fun hb => ?_
  refine Fun.enter Tryz.func68 rfl Tryz.ntmps68 rfl ?_
  refine WC.seq <| WC.region <| sv (vaI rfl) <| WL.nil <| WX.thenN <| WC.seq <| WC.seq <| WC.region <| sv (vmP rfl) <| sv (vnil rfl) <| sv (vfld fl29f1 rfl) <| sv (vldc pl4 rfl) <| WL.nil <| WX.thenN <| ?_
  refine WC.ff rfl ?_
  refine WC.skip <| WX.thenN <| WC.seq <| WC.region <| sv (vmP rfl) <| sv (vmT rfl) <| cl (ref_find_j hl hr.nodup hj) ct34 rfl fun _ _ => sv (vaI rfl) <| WL.nil <| WX.thenN <| WC.seq <| WC.seq <| WC.region <| sv (vmI rfl) <| sv (vlt rfl rfl) <| WL.nil <| WX.thenN <| ?_
  refine WC.ite rfl (fun h2 => ?_) (fun h2 => ?_)
  · -- then
    omega
  · -- else
    refine WC.skip <| WX.thenN <| WC.seq <| ?_
    refine WC.cut0 [(31, .bool (decide (m < 0 ∨ (x.b.xs.length : Int) < m)))] [(0, .pointer _), (2, .int _ _), (7, .int _ _)] (cel r (rcells base l.length c ⟨files, false, fuse, keep0, deeds⟩) 29 :: row base c 3 79 (fcells l) :: R) ⟨rfl, rfl, rfl, trivial⟩ ?_ fun ρh => ?_
    · -- ref.go:119
      refine WC.region <| sv (vmI rfl) <| svs (vlt rfl rfl) (fun q1 => ?_) (fun q1 => ?_)
      ·
        exact sv (vmB rfl) <| sng rfl <| sng rfl <| sng rfl <| sng rfl <| sng rfl <| sng rfl <| sng rfl <| sng rfl <| sng rfl <| sng rfl <| sng rfl <| sv (vpkt rfl) <| WL.nil <| WX.mid () trivial ⟨bT (by first | omega | simp_all | grind), trivial⟩ ⟨rfl, rfl, rfl, trivial⟩ (fun _ h => h)
      ·
        exact sv (vmB rfl) <| svg rfl (vmI rfl) <| svg rfl (vmP rfl) <| svg rfl (vnil rfl) <| svg rfl (vfld fl29f0 rfl) <| svg rfl (vldc pl27 rfl) <| svg rfl (vmI rfl) <| svg rfl (vix Tryz.underlying27 sz79 rfl rfl (by omega) (by omega) reads (hpos)) <| svg rfl (vfldr (hb) fl79f1 rfl) <| svg rfl (vldo pl23 rfl reads (hf1)) <| svg rfl (vlen Tryz.underlying23 rfl) <| svg rfl (vgt rfl rfl) <| sv (vpkf rfl) <| WL.nil <| WX.mid () trivial ⟨bI (by first | omega | simp_all | grind), trivial⟩ ⟨rfl, rfl, rfl, trivial⟩ (fun _ h => h)
    refine WC.ite rfl (fun h3 => ?_) (fun h3 => ?_)
    · -- then
      exact WC.seq <| WC.region <| sv (vaI rfl) <| WL.nil <| WX.thenN <| WC.ret <| WX.thenR <| WX.ret1 rfl (()) (trivial) rfl (fun _ h => h)
    · -- else
      omega
theorem ref_cut_ok {w0 : World} {A : List HProp} {r c j N n : Nat} {base : Option Addr} {st : DSt} {l : List RF} {x : RF} (hN : N ≤ 1099511627776) (hr : RRep l st) (hc : l.length ≤ c ∧ l.length ≤ N) (ho : st.off = false) (hj : l[j]? = some x) (hn : n ≤ x.b.xs.length) (hd : 0 ≤ st.deeds ∧ st.deeds + 1 ≤ 9223372036854775807) :
    Fun Tryz.prog w0 68 [.pointer (some ⟨r, 0, none⟩), .string x.name, .int .i64 n] (cel r (rcells base l.length c st) 29 :: row base c 3 79 (fcells l) :: rows 5 (l.map (·.b)) :: A)
      (Ret w0 (fun _ : Unit => True) (fun _ => .int .i64 (if st.fuse - 1 = 0 then 20 else 0)) (fun _ => if st.fuse - 1 = 0 then rdisk r N (offS st.keep { st with deeds := st.deeds + 1, fuse := 0 }) :: A
        else rdisk r N { st with deeds := st.deeds + 1, fuse := max (st.fuse - 1) 0, files := putV x.name (x.b.xs.take n, min x.safe n) st.files } :: A)) := by
  obtain ⟨files, off, fuse, keep0, deeds⟩ := st
  obtain rfl : off = false := ho
  have hu := hr.fuse
  dsimp only at hu hd
  have hjl := (List.getElem?_eq_some_iff.1 hj).1
  have hfl := fcells_length l
  have hpos : 0 < (fcells l).length := by omega
  have hf1 := fc1 hj
  have hf2 := fc2 hj
  have hst : ((j : Int)).toNat * 3 + 1 < (fcells l).length := by omega
  have hstb : ((j : Int)).toNat * 3 + 2 < ((fcells l).set (((j : Int)).toNat * 3 + 1) (.slice x.b.base ((n : Int)).toNat x.b.cap)).length := by rw [List.length_set]; omega
  have hf2b : ((fcells l).set (((j : Int)).toNat * 3 + 1) (.slice x.b.base ((n : Int)).toNat x.b.cap))[((j : Int)).toNat * 3 + 2]? = some (.int .i64 x.safe) := by rw [List.getElem?_set_ne (by omega)]; exact hf2
  have hposb : 0 < ((fcells l).set (((j : Int)).toNat * 3 + 1) (.slice x.b.base ((n : Int)).toNat x.b.cap)).length := by rw [List.length_set]; omega
  have hok := hr.ok x (List.mem_of_getElem? hj)
  refine Fun.known (fun w h => row_some hpos h.pk1) fun hb => ?_
  have hbb := hb
  refine Fun.enter Tryz.func68 rfl Tryz.ntmps68 rfl ?_
  refine WC.seq <| WC.region <| sv (vaI rfl) <| WL.nil <| WX.thenN <| WC.seq <| WC.seq <| WC.region <| sv (vmP rfl) <| sv (vnil rfl) <| sv (vfld fl29f1 rfl) <| sv (vldc pl4 rfl) <| WL.nil <| WX.thenN <| ?_
  refine WC.ff rfl ?_
  refine WC.skip <| WX.thenN <| WC.seq <| WC.region <| sv (vmP rfl) <| sv (vmT rfl) <| cl (ref_find_j (by omega) hr.nodup hj) ct34 rfl fun _ _ => sv (vaI rfl) <| WL.nil <| WX.thenN <| WC.seq <| WC.seq <| WC.region <| sv (vmI rfl) <| sv (vlt rfl rfl) <| WL.nil <| WX.thenN <| ?_
  refine WC.ite rfl (fun h2 => ?_) (fun h2 => ?_)
  · -- then
    omega
  · -- else
    refine WC.skip <| WX.thenN <| WC.seq <| ?_
    refine WC.cut0 [(31, .bool (decide ((n : Int) < 0 ∨ (x.b.xs.length : Int) < n)))] [(0, .pointer _), (2, .int _ _), (7, .int _ _)] (cel r (rcells base l.length c ⟨files, false, fuse, keep0, deeds⟩) 29 :: row base c 3 79 (fcells l) :: rows 5 (l.map (·.b)) :: A) ⟨rfl, rfl, rfl, trivial⟩ ?_ fun ρh => ?_
    · -- ref.go:119
      refine WC.region <| sv (vmI rfl) <| svs (vlt rfl rfl) (fun q1 => ?_) (fun q1 => ?_)
      ·
        exact sv (vmB rfl) <| sng rfl <| sng rfl <| sng rfl <| sng rfl <| sng rfl <| sng rfl <| sng rfl <| sng rfl <| sng rfl <| sng rfl <| sng rfl <| sv (vpkt rfl) <| WL.nil <| WX.mid () trivial ⟨bT (by first | omega | simp_all | grind), trivial⟩ ⟨rfl, rfl, rfl, trivial⟩ (fun _ h => h)
      ·
        exact sv (vmB rfl) <| svg rfl (vmI rfl) <| svg rfl (vmP rfl) <| svg rfl (vnil rfl) <| svg rfl (vfld fl29f0 rfl) <| svg rfl (vldc pl27 rfl) <| svg rfl (vmI rfl) <| svg rfl (vix Tryz.underlying27 sz79 rfl rfl (by omega) (by omega) reads (hpos)) <| svg rfl (vfldr (hb) fl79f1 rfl) <| svg rfl (vldo pl23 rfl reads (hf1)) <| svg rfl (vlen Tryz.underlying23 rfl) <| svg rfl (vgt rfl rfl) <| sv (vpkf rfl) <| WL.nil <| WX.mid () trivial ⟨bI (by first | omega | simp_all | grind), trivial⟩ ⟨rfl, rfl, rfl, trivial⟩ (fun _ h => h)
    refine WC.ite rfl (fun h3 => ?_) (fun h3 => ?_)
    · -- then
      omega
    · -- else
      refine WC.skip <| WX.thenN <| WC.seq <| WC.seq <| WC.region <| sv (vmP rfl) <| cl (ref_deed hu hd) ct35 rfl fun _ _ => WL.nil <| WX.thenN <| ?_
      refine WC.ite rfl (fun h4 => ?_) (fun h4 => ?_)
      · -- then
        simp only [if_pos h4]
        dsimp only at h4
        refine WC.seq <| WC.region <| sv (vmP rfl) <| sv (vmP rfl) <| sv (vnil rfl) <| sv (vfld fl29f3 rfl) <| sv (vldc pl3 rfl) <| pm (fun _ h => rdisk_mk (st := ⟨files, false, max (fuse - 1) 0, keep0, deeds + 1⟩) (hr.same rfl (by dsimp only; omega)) hc h) <| cl (ref_off) ct25 rfl fun _ _ => WL.nil <| WX.thenN <| WC.seq <| WC.region <| sv (vaI rfl) <| WL.nil <| WX.thenN <| WC.ret <| WX.thenR <| WX.ret1 rfl (()) (trivial) rfl (fun w h => ?_)
        have e : max (fuse - 1) 0 = 0 := by omega
        rw [e] at h; exact h
      · -- else
        simp only [if_neg h4]
        refine WC.skip <| WX.thenN <| WC.seq <| WC.plan (.bar [0, 1, 2, 3, 4, 5, 6, 7, 8, 9, 10, 11, 12, 13, 14, 15, 16] 17 (.done [])) rfl (by kernel_rfl) <| WPl.bar (trivial) <| dv (fun g => (vmP rfl)) <| dv (fun g => (vnil rfl)) <| dv (fun g => (vfld fl29f0 rfl)) <| dv (fun g => (vldc pl27 rfl)) <| dv (fun g => (vmI rfl)) <| dv (fun g => (vmP rfl)) <| dv (fun g => (vnil rfl)) <| dv (fun g => (vfld fl29f0 rfl)) <| dv (fun g => (vldc pl27 rfl)) <| dv (fun g => (vmI rfl)) <| dv (fun g => (vix Tryz.underlying27 sz79 rfl rfl (by omega) (by omega) reads (hpos))) <| dv (fun g => (vfldr (hb) fl79f1 rfl)) <| dv (fun g => (vldo pl23 rfl reads (hf1))) <| dv (fun g => (vmI rfl)) <| dv (fun g => (vslH Tryz.underlying23 sz5 rfl rfl (by omega) (by omega))) <| dv (fun g => (vix Tryz.underlying27 sz79 rfl rfl (by omega) (by omega) reads (hpos))) <| dv (fun g => (vfldr (hb) fl79f1 rfl)) <| WD.eff rfl <| pm (fun _ h => h.pk1) <| str (v := .slice _ _ _) pl23 sz23 rfl rfl rfl (hst) <| WL.nil <| WX.brT <| WPl.fin (trivial) <| WD.nil <| WX.thenN <| WC.seq <| WC.plan (.bar [0, 1, 2, 3, 4, 5, 6, 7, 8, 9, 10, 11, 12, 13, 14, 15, 16] 17 (.done [])) rfl (by kernel_rfl) <| WPl.bar (trivial) <| dv (fun g => (vmP rfl)) <| dv (fun g => (vnil rfl)) <| dv (fun g => (vfld fl29f0 rfl)) <| dv (fun g => (vldc pl27 rfl)) <| dv (fun g => (vmI rfl)) <| dv (fun g => (vmP rfl)) <| dv (fun g => (vnil rfl)) <| dv (fun g => (vfld fl29f0 rfl)) <| dv (fun g => (vldc pl27 rfl)) <| dv (fun g => (vmI rfl)) <| dv (fun g => (vix Tryz.underlying27 sz79 rfl rfl (by omega) (by omega) reads (hposb))) <| dv (fun g => (vfldr (hbb) fl79f2 rfl)) <| dv (fun g => (vldo pl3 rfl reads (hf2b))) <| dv (fun g => (vmI rfl)) <| dv (fun g => (vmin rfl rfl)) <| dv (fun g => (vix Tryz.underlying27 sz79 rfl rfl (by omega) (by omega) reads (hposb))) <| dv (fun g => (vfldr (hbb) fl79f2 rfl)) <| WD.eff rfl <| str (v := .int _ _) pl3 sz3 rfl rfl rfl (hstb) <| WL.nil <| WX.brT <| WPl.fin (trivial) <| WD.nil <| WX.thenN <| WC.seq <| WC.region <| sv (vaI rfl) <| WL.nil <| WX.thenN <| WC.ret <| WX.ret1 rfl (()) (trivial) rfl (fun w h => ?_)
        have hxl : (x.b.xs.take n).length = n := by rw [List.length_take]; omega
        have e := fcells_set (y := ⟨x.name, ⟨x.b.base, x.b.xs.take n, x.b.cap⟩, min x.safe n⟩) hj rfl
        dsimp only at e
        have em : min (x.safe : Int) (n : Int) = ((min x.safe n : Nat) : Int) := by omega
        rw [hxl] at e
        rw [Int.toNat_natCast, Int.toNat_natCast, em, ← e] at h
        have h1 := (rows_take n (x := x.b) (by rw [List.getElem?_map, hj]; rfl) h.pk2).pk2.pk2.pk1
        refine rdisk_mk (l := l.set j ⟨x.name, ⟨x.b.base, x.b.xs.take n, x.b.cap⟩, min x.safe n⟩) (base := base) (c := c) (hr.put hj rfl ⟨by dsimp only; omega, by dsimp only; omega, by dsimp only; omega⟩ rfl (by dsimp only; omega)) (by rw [List.length_set]; exact hc) ?_
        rw [List.length_set, List.map_set]
        exact h1
theorem ref_cut {w0 : World} {A : List HProp} {r N : Nat} {st : DSt} {nm : ByteArray} {n : Int} (hd : 0 ≤ st.deeds ∧ st.deeds + 1 ≤ 9223372036854775807) (hN : N ≤ 1099511627776) :
    Fun Tryz.prog w0 68 [.pointer (some ⟨r, 0, none⟩), .string nm, .int .i64 n] (rdisk r N st :: A) (Ret w0 (fun _ : Unit => True) (fun _ => .int .i64 (cutS nm n st).2) (fun _ => rdisk r N (cutS nm n st).1 :: A)) := by
  refine Fun.ex (fun w h => rdisk_open h) ?_
  rintro ⟨base, c, l⟩ ⟨hr, hc⟩
  dsimp only at hr hc ⊢
  by_cases hne : findE nm st = 0
  · obtain ⟨ho, v, hf⟩ := findE_ok hne
    obtain ⟨j, x, hj, rfl, rfl⟩ := hr.at hf
    by_cases hn : n < 0 ∨ (x.b.xs.length : Int) < n
    · have hk : cutS x.name n st = (st, 1) := by unfold cutS; rw [if_neg (by rw [ho]; decide), hf]; dsimp only; rw [if_pos hn]
      rw [hk]
      exact (ref_cut_arg (by omega) hr ho hj hn).mono fun e w ⟨i, hi, he, hO⟩ => ⟨i, hi, he, rdisk_mk hr hc hO⟩
    · obtain ⟨n, rfl⟩ : ∃ k : Nat, n = k := ⟨n.toNat, by omega⟩
      have hk : cutS x.name n st = deedS (putV x.name (x.b.xs.take n, min x.safe n)) id st := by unfold cutS; rw [if_neg (by rw [ho]; decide), hf]; dsimp only; rw [if_neg hn]; rfl
      refine (ref_cut_ok hN hr hc ho hj (by omega) hd).mono fun e w ⟨i, hi, he, hO⟩ => ⟨i, hi, ?_, ?_⟩
      · rw [he, hk]; unfold deedS; split <;> rfl
      · rw [hk]; unfold deedS
        dsimp only at hO
        split at hO
        · rename_i h; rw [if_pos h]; exact hO
        · rename_i h; rw [if_neg h]; exact hO
  · rw [(readS_bad hne).2.2 n]
    unfold findE at hne ⊢
    cases ho : st.off with
    | true =>
      simp only [if_true]
      exact (ref_cut_off ho).mono fun e w ⟨i, hi, he, hO⟩ => ⟨i, hi, he, rdisk_mk hr hc hO⟩
    | false =>
      cases hf : st.files nm with
      | some v => simp [ho, hf] at hne
      | none =>
        simp only [Bool.false_eq_true, if_false, Option.isSome_none]
        exact (ref_cut_no (by omega) ho (hr.no hf)).mono fun e w ⟨i, hi, he, hO⟩ => ⟨i, hi, he, rdisk_mk hr hc hO⟩
end Go.Proofs.YthljpljbpbkkcaaGreatDoor
end
section
set_option linter.unusedVariables false
set_option linter.unusedSimpArgs false
set_option maxRecDepth 4000
namespace Go.Proofs.YthljpljbpbkkcaaGreatDoor
open Go.Sl Go.RowKit

instance nlessDec (a b : ByteArray) : Decidable (nless a b) := inferInstanceAs (Decidable (_ = true))
theorem nless_trans {a b c : ByteArray} (h1 : nless a b) (h2 : nless b c) : nless a c := by
  rw [nless_iff] at *
  exact List.lt_trans h1 h2
theorem nless_of {a b : ByteArray} (h : ¬ nless a b) (hn : a ≠ b) : nless b a := by
  rw [nless_iff] at *
  rcases List.le_iff_lt_or_eq.1 (List.not_lt.1 h) with h2 | h2
  · exact h2
  · exact absurd (toList_inj.1 h2).symm hn
def insR (p : Nat) (y : RF) (l : List RF) : List RF := l.take p ++ y :: l.drop p
theorem insR_length {p : Nat} {y : RF} {l : List RF} : (insR p y l).length = l.length + 1 := by simp [insR]; omega
theorem insR_at {p : Nat} {y : RF} {l : List RF} (hp : p ≤ l.length) : (insR p y l)[p]? = some y := by
  unfold insR
  have : (l.take p).length = p := by rw [List.length_take]; omega
  rw [List.getElem?_append_right (by omega), this, Nat.sub_self]; rfl
theorem insR_sorted {p : Nat} {y : RF} {l : List RF} (hp : p ≤ l.length) (hs : (l.map (·.name)).Pairwise nless) (h1 : ∀ (k : Nat) (x : RF), k < p → l[k]? = some x → nless x.name y.name) (h2 : ∀ x, l[p]? = some x → ¬ nless x.name y.name) (hno : ∀ x ∈ l, x.name ≠ y.name) :
    ((insR p y l).map (·.name)).Pairwise nless := by
  have hs' := hs
  rw [← List.take_append_drop p l, List.map_append, List.pairwise_append] at hs'
  unfold insR
  rw [List.map_append, List.map_cons, List.pairwise_append]
  have hd : ∀ b ∈ (l.drop p).map (·.name), nless y.name b := by
    intro b hb
    obtain ⟨x, hx, rfl⟩ := List.mem_map.1 hb
    cases hdp : l.drop p with
    | nil => rw [hdp] at hx; cases hx
    | cons z t =>
      have hz : l[p]? = some z := by
        have := congrArg (fun m => m[0]?) hdp
        simpa [List.getElem?_drop] using this
      have h3 : nless y.name z.name := nless_of (h2 z hz) (hno z (List.mem_of_getElem? hz))
      rw [hdp] at hx
      rcases List.mem_cons.1 hx with rfl | hx
      · exact h3
      · have h4 := hs'.2.1
        rw [hdp, List.map_cons, List.pairwise_cons] at h4
        exact nless_trans h3 (h4.1 _ (List.mem_map.2 ⟨x, hx, rfl⟩))
  refine ⟨hs'.1, List.pairwise_cons.2 ⟨hd, hs'.2.1⟩, fun a ha b hb => ?_⟩
  have h5 : nless a y.name := by
    obtain ⟨x, hx, rfl⟩ := List.mem_map.1 ha
    obtain ⟨k, hk⟩ := List.mem_iff_getElem?.1 hx
    rw [List.getElem?_take] at hk
    split at hk
    · exact h1 k x (by assumption) hk
    · cases hk
  rcases List.mem_cons.1 hb with rfl | hb
  · exact h5
  · exact nless_trans h5 (hd b hb)
theorem lookR_ins {y : RF} {k : ByteArray} : ∀ {l : List RF} {p : Nat}, (∀ x ∈ l, x.name ≠ y.name) → lookR (insR p y l) k = if k = y.name then some (y.b.xs, y.safe) else lookR l k
  | [], p, h => by
    have e : insR p y [] = [y] := by simp [insR]
    rw [e]
    simp only [lookR]
    by_cases hk : y.name = k
    · simp [hk]
    · rw [if_neg hk, if_neg (Ne.symm hk)]
  | z :: l, 0, h => by
    have e : insR 0 y (z :: l) = y :: z :: l := rfl
    rw [e]
    show (if y.name = k then _ else lookR (z :: l) k) = _
    by_cases hk : y.name = k
    · simp [hk]
    · rw [if_neg hk, if_neg (Ne.symm hk)]
  | z :: l, p + 1, h => by
    have e : insR (p + 1) y (z :: l) = z :: insR p y l := rfl
    rw [e]
    simp only [lookR]
    rw [lookR_ins fun x hx => h x (List.mem_cons_of_mem _ hx)]
    by_cases hk : z.name = k
    · have : k ≠ y.name := fun he => h z (List.mem_cons_self ..) (by rw [hk, he])
      rw [if_pos hk, if_neg this, if_pos hk]
    · rw [if_neg hk, if_neg hk]
theorem putV_same {nm : ByteArray} {v : List UInt8 × Nat} {f : ByteArray → Option (List UInt8 × Nat)} (h : f nm = some v) : putV nm v f = f := by
  funext k
  unfold putV
  split
  · rename_i hk; rw [hk, h]
  · rfl
theorem putV_put {nm : ByteArray} {v u : List UInt8 × Nat} {f : ByteArray → Option (List UInt8 × Nat)} : putV nm u (putV nm v f) = putV nm u f := by
  funext k
  unfold putV
  split <;> simp_all
theorem rows_ins {w0 w : World} {e : TypeId} {y : Sla UInt8} : ∀ {p : Nat} {l : List (Sla UInt8)} {A : List HProp}, Own w0 (row y.base y.cap 1 e (u8s y.xs) :: rows e l :: A) w → Own w0 (rows e (l.take p ++ y :: l.drop p) :: A) w
  | 0, l, A, H => H.intro_star
  | p + 1, [], A, H => H.intro_star
  | p + 1, z :: l, A, H => by
    have h1 := H.pk1.star.pk1.pk2
    exact (rows_ins (p := p) (l := l) (h1.ix [0, 1, 2])).pk1.intro_star
theorem rows_put {w0 w : World} {e : TypeId} {y : Sla UInt8} : ∀ {l : List (Sla UInt8)} {i : Nat} {A : List HProp}, i < l.length → Own w0 (row y.base y.cap 1 e (u8s y.xs) :: rows e l :: A) w → Own w0 (rows e (l.set i y) :: A) w
  | [], _, _, h, _ => by simp at h
  | z :: l, 0, A, h, H => by
    have h1 := H.pk1.star.tail
    exact h1.pk1.intro_star
  | z :: l, i + 1, A, h, H => by
    have h1 := H.pk1.star.pk1.pk2
    exact (rows_put (l := l) (by simpa using h) (h1.ix [0, 1, 2])).pk1.intro_star
theorem fcells_b {l : List RF} {i : Nat} {x : RF} (b : Sla UInt8) (h : l[i]? = some x) : fcells (l.set i ⟨x.name, b, x.safe⟩) = (fcells l).set (i * 3 + 1) (.slice b.base b.xs.length b.cap) := by
  rw [fcells_set (y := ⟨x.name, b, x.safe⟩) h rfl]
  dsimp only
  have hlt : i * 3 + 2 < ((fcells l).set (i * 3 + 1) (Value.slice b.base b.xs.length b.cap)).length := by
    rw [List.length_set, fcells_length]; have := (List.getElem?_eq_some_iff.1 h).1; omega
  exact set_same (by rw [List.getElem?_set_ne (by omega), fcells_at h (k := 2) (by omega)]; rfl)
theorem fcells_append (a b : List RF) : fcells (a ++ b) = fcells a ++ fcells b := by simp [fcells]
theorem fcells_take {l : List RF} {p : Nat} (hp : p ≤ l.length) : (fcells l).take (p * 3) = fcells (l.take p) := by
  conv => lhs; rw [← List.take_append_drop p l, fcells_append]
  exact List.take_left' (by rw [fcells_length, List.length_take]; congr 1; omega)
theorem fcells_drop {l : List RF} {p : Nat} (hp : p ≤ l.length) : (fcells l).drop (p * 3) = fcells (l.drop p) := by
  conv => lhs; rw [← List.take_append_drop p l, fcells_append]
  exact List.drop_left' (by rw [fcells_length, List.length_take]; congr 1; omega)
theorem fcells_one (l : List RF) : ∀ v ∈ fcells l, v.oneCell' = true := by
  intro v hv
  simp only [fcells, List.mem_flatMap] at hv
  obtain ⟨x, _, hx⟩ := hv
  simp only [List.mem_cons, List.not_mem_nil, or_false] at hx
  rcases hx with rfl | rfl | rfl <;> rfl
theorem ref_append_off {w0 : World} {A : List HProp} {r n c k bc : Nat} {base bb : Option Addr} {st : DSt} {nm : ByteArray} (ho : st.off = true) :
    Fun Tryz.prog w0 9 [.pointer (some ⟨r, 0, none⟩), .string nm, .slice bb k bc] (cel r (rcells base n c st) 29 :: A) (Ret w0 (fun _ : Unit => True) (fun _ => .int .i64 20) (fun _ => cel r (rcells base n c st) 29 :: A)) := by
  obtain ⟨files, off, fuse, keep0, deeds⟩ := st
  obtain rfl : off = true := ho
  refine Fun.enter Tryz.func9 rfl Tryz.ntmps9 rfl ?_
  refine WC.seq <| WC.region <| sv (vaI rfl) <| WL.nil <| WX.thenN <| WC.seq <| WC.seq <| WC.region <| sv (vmP rfl) <| sv (vnil rfl) <| sv (vfld fl29f1 rfl) <| sv (vldc pl4 rfl) <| WL.nil <| WX.thenN <| ?_
  refine WC.tt rfl ?_
  exact WC.seq <| WC.region <| sv (vaI rfl) <| WL.nil <| WX.thenN <| WC.ret <| WX.thenR <| WX.ret1 rfl (()) (trivial) rfl (fun _ h => h)
theorem ref_append_name {w0 : World} {A : List HProp} {r n c k bc : Nat} {base bb : Option Addr} {st : DSt} {nm : ByteArray} (ho : st.off = false) (hn : ¬ okName nm) :
    Fun Tryz.prog w0 9 [.pointer (some ⟨r, 0, none⟩), .string nm, .slice bb k bc] (cel r (rcells base n c st) 29 :: A) (Ret w0 (fun _ : Unit => True) (fun _ => .int .i64 51) (fun _ => cel r (rcells base n c st) 29 :: A)) := by
  obtain ⟨files, off, fuse, keep0, deeds⟩ := st
  obtain rfl : off = false := ho
  have hd : decide (okName nm) = false := by simpa using hn
  refine Fun.enter Tryz.func9 rfl Tryz.ntmps9 rfl ?_
  refine WC.seq <| WC.region <| sv (vaI rfl) <| WL.nil <| WX.thenN <| WC.seq <| WC.seq <| WC.region <| sv (vmP rfl) <| sv (vnil rfl) <| sv (vfld fl29f1 rfl) <| sv (vldc pl4 rfl) <| WL.nil <| WX.thenN <| ?_
  refine WC.ff rfl ?_
  refine WC.skip <| WX.thenN <| WC.seq <| WC.seq <| WC.region <| sv (vmT rfl) <| cl (hd ▸ ref_name) ct33 rfl fun _ _ => sv (vnot rfl) <| WL.nil <| WX.thenN <| ?_
  refine WC.tt rfl ?_
  exact WC.seq <| WC.region <| sv (vaI rfl) <| WL.nil <| WX.thenN <| WC.ret <| WX.thenR <| WX.ret1 rfl (()) (trivial) rfl (fun _ h => h)
end Go.Proofs.YthljpljbpbkkcaaGreatDoor
end
section
set_option linter.unusedVariables false
set_option linter.unusedSimpArgs false
set_option maxRecDepth 4000
namespace Go.Proofs.YthljpljbpbkkcaaGreatDoor
open Go.Sl Go.RowKit

/-- where a name stands, or -1 -/
structure At (l : List RF) (nm : ByteArray) (v : Int) (x : RF) : Prop where
  ge : -1 ≤ v ∧ v < l.length
  at_ : 0 ≤ v → l[v.toNat]? = some x ∧ x.name = nm
  no : v < 0 → (∀ y ∈ l, y.name ≠ nm) ∧ x = ⟨nm, ⟨none, [], 0⟩, 0⟩
theorem RRep.where_ {l : List RF} {st : DSt} (h : RRep l st) (nm : ByteArray) : ∃ v x, At l nm v x ∧ (st.files nm).getD ([], 0) = (x.b.xs, x.safe) := by
  cases hf : st.files nm with
  | none => exact ⟨-1, ⟨nm, ⟨none, [], 0⟩, 0⟩, ⟨by omega, fun h => by omega, fun _ => ⟨h.no hf, rfl⟩⟩, rfl⟩
  | some v =>
    obtain ⟨j, x, hj, rfl, rfl⟩ := h.at hf
    have := (List.getElem?_eq_some_iff.1 hj).1
    exact ⟨j, x, ⟨by omega, fun _ => ⟨by simpa using hj, rfl⟩, fun h => by omega⟩, rfl⟩
theorem ref_find_at {w0 : World} {R : List HProp} {r c : Nat} {base : Option Addr} {st : DSt} {l : List RF} {nm : ByteArray} {x : RF} {v : Int} (hl : l.length ≤ 1099511627776) (hn : (l.map (·.name)).Nodup) (hv : At l nm v x) :
    Fun Tryz.prog w0 34 [.pointer (some ⟨r, 0, none⟩), .string nm] (cel r (rcells base l.length c st) 29 :: row base c 3 79 (fcells l) :: R)
      (Ret w0 (fun _ : Unit => True) (fun _ => .int .i64 v) (fun _ => cel r (rcells base l.length c st) 29 :: row base c 3 79 (fcells l) :: R)) :=
  ref_find hl (fun i y hi hy _ => by
    by_cases h0 : 0 ≤ v
    · have := same_name hn hi (hv.at_ h0).1 (hy.trans (hv.at_ h0).2.symm); omega
    · exact absurd hy ((hv.no (by omega)).1 y (List.mem_of_getElem? hi))) (fun h => by
    by_cases h0 : 0 ≤ v
    · exact absurd (hv.at_ h0).2 (h x (List.mem_of_getElem? (hv.at_ h0).1))
    · have := hv.ge; omega)
structure ApI where
  l : List RF
  base : Option Addr
  c : Nat
  j : Nat
  x : RF
structure ApR (nm : ByteArray) (st : DSt) (V : List UInt8 × Nat) (n : Nat) (i : ApI) : Prop where
  rep : RRep i.l { st with files := putV nm V st.files }
  cap : i.l.length ≤ i.c ∧ i.l.length ≤ n
  at_ : i.l[i.j]? = some i.x
  name : i.x.name = nm
  cur : (i.x.b.xs, i.x.safe) = V
theorem fv1 {l : List RF} {v : Int} {x : RF} (h0 : 0 ≤ v) (h : l[v.toNat]? = some x) : (fcells l)[v.toNat * 3 + 1]? = some (.slice x.b.base x.b.xs.length x.b.cap) := by rw [fcells_at h (by omega)]; rfl
theorem ref_append_long {w0 : World} {R : List HProp} {r c k bc : Nat} {base bb : Option Addr} {st : DSt} {nm : ByteArray} {l : List RF} {x : RF} {v : Int} (hl : l.length ≤ 1099511627776) (hr : RRep l st) (ho : st.off = false) (hn : okName nm) (hv : At l nm v x) (hk : 16777216 < x.b.xs.length + k) :
    Fun Tryz.prog w0 9 [.pointer (some ⟨r, 0, none⟩), .string nm, .slice bb k bc] (cel r (rcells base l.length c st) 29 :: row base c 3 79 (fcells l) :: R) (Ret w0 (fun _ : Unit => True) (fun _ => .int .i64 2) (fun _ => cel r (rcells base l.length c st) 29 :: row base c 3 79 (fcells l) :: R)) := by
  obtain ⟨files, off, fuse, keep0, deeds⟩ := st
  obtain rfl : off = false := ho
  have hd : decide (okName nm) = true := by simpa using hn
  have hge := hv.ge
  have hxl : 0 ≤ v → x.b.xs.length ≤ 16777216 := fun h => (hr.ok x (List.mem_of_getElem? (hv.at_ h).1)).2.1
  have hx0 : v < 0 → x.b.xs.length = 0 := fun h => by rw [(hv.no h).2]; rfl
  have hfl := fcells_length l
  have hpos : 0 ≤ v → 0 < (fcells l).length := fun h => by omega
  have hf1 : 0 ≤ v → (fcells l)[v.toNat * 3 + 1]? = some (.slice x.b.base x.b.xs.length x.b.cap) := fun h => fv1 h (hv.at_ h).1
  refine Fun.known (p := 0 ≤ v → base.isSome = true) (fun w h hv0 => row_some (hpos hv0) h.pk1) fun hb => ?_
  refine Fun.enter Tryz.func9 rfl Tryz.ntmps9 rfl ?_
  refine WC.seq <| WC.region <| sv (vaI rfl) <| WL.nil <| WX.thenN <| WC.seq <| WC.seq <| WC.region <| sv (vmP rfl) <| sv (vnil rfl) <| sv (vfld fl29f1 rfl) <| sv (vldc pl4 rfl) <| WL.nil <| WX.thenN <| ?_
  refine WC.ff rfl ?_
  refine WC.skip <| WX.thenN <| WC.seq <| WC.seq <| WC.region <| sv (vmT rfl) <| cl (hd ▸ ref_name) ct33 rfl fun _ _ => sv (vnot rfl) <| WL.nil <| WX.thenN <| ?_
  refine WC.ff rfl ?_
  refine WC.skip <| WX.thenN <| WC.seq <| WC.region <| sv (vmP rfl) <| sv (vmT rfl) <| cl (ref_find_at hl hr.nodup hv) ct34 rfl fun _ _ => sv (vaI rfl) <| WL.nil <| WX.thenN <| WC.seq <| ?_
  refine WC.cut0 [(42, .bool (decide ((0 ≤ v ∧ (16777216 : Int) - x.b.xs.length < k) ∨ (16777216 : Int) < k)))] [(0, .pointer _), (1, .string _), (2, .slice _ _ _), (7, .int _ _)] (cel r (rcells base l.length c ⟨files, false, fuse, keep0, deeds⟩) 29 :: row base c 3 79 (fcells l) :: R) ⟨rfl, rfl, rfl, rfl, trivial⟩ ?_ fun ρh => ?_
  · -- ref.go:67
    refine WC.region <| sv (vmI rfl) <| svs (vge rfl rfl) (fun q1 => ?_) (fun q1 => ?_)
    ·
      refine sv (vmB rfl) <| svg rfl (vmS rfl) <| svg rfl (vlen Tryz.underlying23 rfl) <| svg rfl (vmP rfl) <| svg rfl (vnil rfl) <| svg rfl (vfld fl29f0 rfl) <| svg rfl (vldc pl27 rfl) <| svg rfl (vmI rfl) <| svg rfl (vix Tryz.underlying27 sz79 rfl rfl (by omega) (by omega) reads (hpos q1)) <| svg rfl (vfldr (hb q1) fl79f1 rfl) <| svg rfl (vldo pl23 rfl reads (hf1 q1)) <| svg rfl (vlen Tryz.underlying23 rfl) <| svg rfl (vsub rfl rfl (by have := hxl q1; omega)) <| svsg rfl (vgt rfl rfl) (fun q2 => ?_) (fun q2 => ?_)
      ·
        exact sv (vpkt rfl) <| sv (vmB rfl) <| sng rfl <| sng rfl <| sng rfl <| sv (vpkt rfl) <| WL.nil <| WX.mid () trivial ⟨bT (by first | omega | simp_all | grind), trivial⟩ ⟨rfl, rfl, rfl, rfl, trivial⟩ (fun _ h => h)
      ·
        exact sv (vpkt rfl) <| sv (vmB rfl) <| svg rfl (vmS rfl) <| svg rfl (vlen Tryz.underlying23 rfl) <| svg rfl (vgt rfl rfl) <| sv (vpkf rfl) <| WL.nil <| WX.mid () trivial ⟨bI (by first | omega | simp_all | grind), trivial⟩ ⟨rfl, rfl, rfl, rfl, trivial⟩ (fun _ h => h)
    ·
      exact sv (vmB rfl) <| sng rfl <| sng rfl <| sng rfl <| sng rfl <| sng rfl <| sng rfl <| sng rfl <| sng rfl <| sng rfl <| sng rfl <| sng rfl <| sng rfl <| sng rfl <| sv (vpkf rfl) <| sv (vmB rfl) <| svg rfl (vmS rfl) <| svg rfl (vlen Tryz.underlying23 rfl) <| svg rfl (vgt rfl rfl) <| sv (vpkf rfl) <| WL.nil <| WX.mid () trivial ⟨bI (by first | omega | simp_all | grind), trivial⟩ ⟨rfl, rfl, rfl, rfl, trivial⟩ (fun _ h => h)
  refine WC.ite rfl (fun h3 => ?_) (fun h3 => ?_)
  · -- then
    exact WC.seq <| WC.region <| sv (vaI rfl) <| WL.nil <| WX.thenN <| WC.ret <| WX.thenR <| WX.ret1 rfl (()) (trivial) rfl (fun _ h => h)
  · -- else
    exact absurd (by by_cases h0 : 0 ≤ v; exact .inl ⟨h0, by omega⟩; exact .inr (by have := hx0 (by omega); omega)) h3
theorem one3 {a b c : Value} (h1 : a.oneCell' = true) (h2 : b.oneCell' = true) (h3 : c.oneCell' = true) : ∀ v ∈ [a, b, c], v.oneCell' = true := by
  intro v hv
  simp only [List.mem_cons, List.not_mem_nil, or_false] at hv
  rcases hv with h | h | h <;> rw [h] <;> assumption
theorem rd_fdrop {w0 : World} {A : List HProp} {base : Option Addr} {l : List RF} {p c : Nat} (h : RdC w0 A base (fcells l)) (hp : p ≤ l.length) (hc : l.length ≤ c) : RdC w0 A (slB base p c 3) (fcells (l.drop p)) := by
  have := h.slice p c 3 ((l.length - p) * 3) (fun h => by have : l.length - p = 0 := by omega
                                                          rw [this, Nat.zero_mul])
  rwa [fcells_drop hp, List.take_of_length_le (by rw [fcells_length, List.length_drop]; exact Nat.le_refl _)] at this
theorem ap_len {w0 w : World} {A : List HProp} {r n n' c : Nat} {base : Option Addr} {st : DSt} (h : n = n') (H : Own w0 (cel r (rcells base n c st) 29 :: A) w) : Own w0 (cel r (rcells base n' c st) 29 :: A) w := h ▸ H
theorem RRep.file {l : List RF} {st : DSt} {j : Nat} {x : RF} {nm : ByteArray} (h : RRep l st) (hj : l[j]? = some x) (hn : x.name = nm) : st.files nm = some (x.b.xs, x.safe) := by
  cases hf : st.files nm with
  | none => exact absurd hn (h.no hf x (List.mem_of_getElem? hj))
  | some v =>
    obtain ⟨i, y, hi, hy, rfl⟩ := h.at hf
    have := same_name h.nodup hi hj (hy.trans hn.symm)
    subst this
    rw [hi] at hj; cases hj; rfl
theorem ap_close {w0 w : World} {A : List HProp} {r N c1 j c2 n2 : Nat} {base1 base2 : Option Addr} {st1 st' : DSt} {l1 : List RF} {x1 : RF} {all : List UInt8} (g1 : RRep l1 st1) (g2 : l1.length ≤ c1 ∧ l1.length ≤ N) (g3 : l1[j]? = some x1) (hn : n2 = all.length) (hc2 : n2 ≤ c2) (hl : x1.b.xs.length ≤ all.length ∧ all.length ≤ 16777216) (hf : st'.files = putV x1.name (all, x1.safe) st1.files) (hu : 0 ≤ st'.fuse ∧ st'.fuse ≤ 9223372036854775807)
    (h : Own w0 (row base1 c1 3 79 ((fcells l1).set (((j : Int)).toNat * 3 + 1) (.slice base2 n2 c2)) :: row base2 c2 1 5 (u8s all) :: cel r (rcells base1 l1.length c1 st') 29 :: rows 5 (l1.map (·.b)) :: A) w) : Own w0 (rdisk r N st' :: A) w := by
  have hok := g1.ok x1 (List.mem_of_getElem? g3)
  have hjl := (List.getElem?_eq_some_iff.1 g3).1
  subst hn
  have e := fcells_b ⟨base2, all, c2⟩ g3
  dsimp only at e
  rw [Int.toNat_natCast, ← e] at h
  have h1 := rows_put (i := j) (y := ⟨base2, all, c2⟩) (by simpa using hjl) (h.ix [1, 3, 0, 2])
  refine rdisk_mk (l := l1.set j ⟨x1.name, ⟨base2, all, c2⟩, x1.safe⟩) (base := base1) (c := c1) (g1.put g3 rfl ⟨by dsimp only; omega, hl.2, hc2⟩ hf hu) (by rw [List.length_set]; exact g2) ?_
  rw [List.length_set, List.map_set]
  exact h1.ix [2, 1, 0]
theorem ref_append_ok {w0 : World} {A : List HProp} {r c k bc N : Nat} {base bb : Option Addr} {st : DSt} {nm : ByteArray} {l : List RF} {x : RF} {v : Int} {b : List UInt8} (hN : N + 1 ≤ 1099511627776) (hr : RRep l st) (hc : l.length ≤ c ∧ l.length ≤ N) (ho : st.off = false) (hn : okName nm) (hv : At l nm v x) (hR : RdC w0 A bb (u8s b)) (hkb : k = b.length) (hk : x.b.xs.length + k ≤ 16777216) (hd : 0 ≤ st.deeds ∧ st.deeds + 1 ≤ 9223372036854775807) :
    Fun Tryz.prog w0 9 [.pointer (some ⟨r, 0, none⟩), .string nm, .slice bb k bc] (cel r (rcells base l.length c st) 29 :: row base c 3 79 (fcells l) :: rows 5 (l.map (·.b)) :: A)
      (Ret w0 (fun _ : Unit => True) (fun _ => .int .i64 (if st.fuse - 1 = 0 then 20 else 0)) (fun _ => if st.fuse - 1 = 0 then rdisk r (N + 1) (offS st.keep { st with deeds := st.deeds + 1, fuse := 0, files := putV nm (x.b.xs ++ b, x.safe) st.files }) :: A
        else rdisk r (N + 1) { st with deeds := st.deeds + 1, fuse := max (st.fuse - 1) 0, files := putV nm (x.b.xs ++ b, x.safe) st.files } :: A)) := by
  obtain ⟨files, off, fuse, keep0, deeds⟩ := st
  obtain rfl : off = false := ho
  have hdn : decide (okName nm) = true := by simpa using hn
  have hu := hr.fuse
  dsimp only at hu hd
  have hge := hv.ge
  have hxl : 0 ≤ v → x.b.xs.length ≤ 16777216 := fun h => (hr.ok x (List.mem_of_getElem? (hv.at_ h).1)).2.1
  have hfl := fcells_length l
  have hpos : 0 ≤ v → 0 < (fcells l).length := fun h => by omega
  have hf1 : 0 ≤ v → (fcells l)[v.toNat * 3 + 1]? = some (.slice x.b.base x.b.xs.length x.b.cap) := fun h => fv1 h (hv.at_ h).1
  refine Fun.known (p := 0 ≤ v → base.isSome = true) (fun w h hv0 => row_some (hpos hv0) h.pk1) fun hb => ?_
  refine Fun.enter Tryz.func9 rfl Tryz.ntmps9 rfl ?_
  refine WC.seq <| WC.region <| sv (vaI rfl) <| WL.nil <| WX.thenN <| WC.seq <| WC.seq <| WC.region <| sv (vmP rfl) <| sv (vnil rfl) <| sv (vfld fl29f1 rfl) <| sv (vldc pl4 rfl) <| WL.nil <| WX.thenN <| ?_
  refine WC.ff rfl ?_
  refine WC.skip <| WX.thenN <| WC.seq <| WC.seq <| WC.region <| sv (vmT rfl) <| cl (hdn ▸ ref_name) ct33 rfl fun _ _ => sv (vnot rfl) <| WL.nil <| WX.thenN <| ?_
  refine WC.ff rfl ?_
  refine WC.skip <| WX.thenN <| WC.seq <| WC.region <| sv (vmP rfl) <| sv (vmT rfl) <| cl (ref_find_at (by omega) hr.nodup hv) ct34 rfl fun _ _ => sv (vaI rfl) <| WL.nil <| WX.thenN <| WC.seq <| ?_
  refine WC.cut0 [(42, .bool (decide ((0 ≤ v ∧ (16777216 : Int) - x.b.xs.length < k) ∨ (16777216 : Int) < k)))] [(0, .pointer _), (1, .string _), (2, .slice _ _ _), (7, .int _ _)] (cel r (rcells base l.length c ⟨files, false, fuse, keep0, deeds⟩) 29 :: row base c 3 79 (fcells l) :: rows 5 (l.map (·.b)) :: A) ⟨rfl, rfl, rfl, rfl, trivial⟩ ?_ fun ρh => ?_
  · -- ref.go:67
    refine WC.region <| sv (vmI rfl) <| svs (vge rfl rfl) (fun q1 => ?_) (fun q1 => ?_)
    ·
      refine sv (vmB rfl) <| svg rfl (vmS rfl) <| svg rfl (vlen Tryz.underlying23 rfl) <| svg rfl (vmP rfl) <| svg rfl (vnil rfl) <| svg rfl (vfld fl29f0 rfl) <| svg rfl (vldc pl27 rfl) <| svg rfl (vmI rfl) <| svg rfl (vix Tryz.underlying27 sz79 rfl rfl (by omega) (by omega) reads (hpos q1)) <| svg rfl (vfldr (hb q1) fl79f1 rfl) <| svg rfl (vldo pl23 rfl reads (hf1 q1)) <| svg rfl (vlen Tryz.underlying23 rfl) <| svg rfl (vsub rfl rfl (by have := hxl q1; omega)) <| svsg rfl (vgt rfl rfl) (fun q2 => ?_) (fun q2 => ?_)
      ·
        exact sv (vpkt rfl) <| sv (vmB rfl) <| sng rfl <| sng rfl <| sng rfl <| sv (vpkt rfl) <| WL.nil <| WX.mid () trivial ⟨bT (by first | omega | simp_all | grind), trivial⟩ ⟨rfl, rfl, rfl, rfl, trivial⟩ (fun _ h => h)
      ·
        exact sv (vpkt rfl) <| sv (vmB rfl) <| svg rfl (vmS rfl) <| svg rfl (vlen Tryz.underlying23 rfl) <| svg rfl (vgt rfl rfl) <| sv (vpkf rfl) <| WL.nil <| WX.mid () trivial ⟨bI (by first | omega | simp_all | grind), trivial⟩ ⟨rfl, rfl, rfl, rfl, trivial⟩ (fun _ h => h)
    ·
      exact sv (vmB rfl) <| sng rfl <| sng rfl <| sng rfl <| sng rfl <| sng rfl <| sng rfl <| sng rfl <| sng rfl <| sng rfl <| sng rfl <| sng rfl <| sng rfl <| sng rfl <| sv (vpkf rfl) <| sv (vmB rfl) <| svg rfl (vmS rfl) <| svg rfl (vlen Tryz.underlying23 rfl) <| svg rfl (vgt rfl rfl) <| sv (vpkf rfl) <| WL.nil <| WX.mid () trivial ⟨bI (by first | omega | simp_all | grind), trivial⟩ ⟨rfl, rfl, rfl, rfl, trivial⟩ (fun _ h => h)
  refine WC.ite rfl (fun h3 => ?_) (fun h3 => ?_)
  · -- then
    exact absurd h3 (by omega)
  · -- else
    refine WC.skip <| WX.thenN <| ?_
    refine WC.cutv (ι := ApI) (fun i => [(7, .int .i64 i.j)]) [(0, .pointer _), (2, .slice _ _ _)] (fun i => cel r (rcells i.base i.l.length i.c ⟨files, false, fuse, keep0, deeds⟩) 29 :: row i.base i.c 3 79 (fcells i.l) :: rows 5 (i.l.map (·.b)) :: A) (fun i => ApR nm ⟨files, false, fuse, keep0, deeds⟩ (x.b.xs, x.safe) (N + 1) i) ⟨rfl, rfl, trivial⟩ ?_ ?_
    · -- up to the join
      refine WC.seq <| WC.region <| sv (vmI rfl) <| sv (vlt rfl rfl) <| WL.nil <| WX.thenN <| ?_
      refine WC.ite rfl (fun h4 => ?_) (fun h4 => ?_)
      · -- then
        obtain ⟨hno, hxe⟩ := hv.no h4
        subst hxe
        refine WC.seq <| WC.region <| sv (vaI rfl) <| WL.nil <| WX.thenN <| WC.seq <| WC.block <| ?_
        refine WC.loop (ι := Nat) (fun i => [(7, .int .i64 i)]) [(0, .pointer _), (1, .string _), (2, .slice _ _ _)] (fun i => cel r (rcells base l.length c ⟨files, false, fuse, keep0, deeds⟩) 29 :: row base c 3 79 (fcells l) :: rows 5 (l.map (·.b)) :: A) (fun i => i ≤ l.length ∧ ∀ (k : Nat) (y : RF), k < i → l[k]? = some y → nless y.name nm) (fun i => l.length - i) (0) (⟨by omega, fun k y h => by omega⟩) ⟨rfl, trivial⟩ ⟨rfl, rfl, rfl, trivial⟩ (fun _ h => h) ?_
        intro p ⟨hp, hlt⟩ ρh
        have hpos2 : (p : Int) < l.length → 0 < (fcells l).length := fun h => by omega
        have hf02 : (p : Int) < l.length → (fcells l)[((p : Int)).toNat * 3 + 0]? = some (.string ((l.map (·.name)).getD p ByteArray.empty)) := fun h => by
          have hx : l[p]? = some l[p] := List.getElem?_eq_getElem (by omega)
          rw [fc0 hx, List.getD_eq_getElem?_getD, List.getElem?_map, hx]; rfl
        refine WC.known (p := (p : Int) < l.length → base.isSome = true) (fun w h h0 => row_some (hpos2 h0) h.pk1) fun hb2 => ?_
        refine WC.seq <| ?_
        refine WC.cut0 [(63, .bool (decide (p < l.length ∧ nless ((l.map (·.name)).getD p ByteArray.empty) nm)))] [(0, .pointer _), (1, .string _), (2, .slice _ _ _), (7, .int _ _)] (cel r (rcells base l.length c ⟨files, false, fuse, keep0, deeds⟩) 29 :: row base c 3 79 (fcells l) :: rows 5 (l.map (·.b)) :: A) ⟨rfl, rfl, rfl, rfl, trivial⟩ ?_ fun ρh => ?_
        · -- ref.go:72
          refine WC.region <| sv (vmI rfl) <| sv (vmP rfl) <| sv (vnil rfl) <| sv (vfld fl29f0 rfl) <| sv (vldc pl27 rfl) <| sv (vlen Tryz.underlying27 rfl) <| svs (vlt rfl rfl) (fun q3 => ?_) (fun q3 => ?_)
          ·
            exact sv (vmB rfl) <| svg rfl (vmP rfl) <| svg rfl (vnil rfl) <| svg rfl (vfld fl29f0 rfl) <| svg rfl (vldc pl27 rfl) <| svg rfl (vmI rfl) <| svg rfl (vix Tryz.underlying27 sz79 rfl rfl (by omega) (by omega) reads (hpos2 q3)) <| svg rfl (vfldr (hb2 q3) fl79f0 rfl) <| svg rfl (vldo pl9 rfl reads (hf02 q3)) <| svg rfl (vmT rfl) <| svg rfl (vlts rfl rfl) <| sv (vpkt rfl) <| WL.nil <| WX.mid () trivial ⟨bB ⟨fun h => ⟨by omega, h⟩, fun h => h.2⟩, trivial⟩ ⟨rfl, rfl, rfl, rfl, trivial⟩ (fun _ h => h)
          ·
            exact sv (vmB rfl) <| sng rfl <| sng rfl <| sng rfl <| sng rfl <| sng rfl <| sng rfl <| sng rfl <| sng rfl <| sng rfl <| sng rfl <| sv (vpkf rfl) <| WL.nil <| WX.mid () trivial ⟨bF (fun h => q3 (by omega)), trivial⟩ ⟨rfl, rfl, rfl, rfl, trivial⟩ (fun _ h => h)
        refine WC.ite rfl (fun h5 => ?_) (fun h5 => ?_)
        · -- then
          refine WC.skip <| WX.thenN <| WC.block <| WC.region <| sv (vmI rfl) <| sv (vadd rfl rfl (by omega)) <| sv (vaI rfl) <| WL.nil <| WX.blockN <| WX.again (p + 1) (⟨by omega, fun k y hk hy => by rcases Nat.lt_succ_iff_lt_or_eq.1 hk with h | rfl; exact hlt k y h hy; have := h5.2; rwa [List.getD_eq_getElem?_getD, List.getElem?_map, hy] at this⟩) (by have := h5.1; omega) ⟨rfl, trivial⟩ ⟨rfl, rfl, rfl, trivial⟩ (fun _ h => h)
        · -- else
          refine WC.exit <| WX.thenE <| WX.thenE <| WX.blockH <| WX.thenN <| WC.seq <| WC.region <| sv (vaS rfl) <| WL.nil <| WX.thenN <| WC.seq <| WC.region <| sv (vmS rfl) <| sv (vmP rfl) <| sv (vnil rfl) <| sv (vfld fl29f0 rfl) <| sv (vldc pl27 rfl) <| sv (vmI rfl) <| sv (vslH Tryz.underlying27 sz79 rfl rfl (by omega) (by omega)) <| pm (fun _ h => h.intro_row_nil) <| ap (vs := fcells []) (news := fcells (l.take p)) rfl Tryz.underlying27 zt79 rfl rfl rfl rfl (by rw [fcells_length, List.length_take]; omega) (fcells_one _) (by rw [← fcells_take hp]; exact reads.take _) (by simp only [maxLen]; omega) (by omega) fun base15 c15 hc15 =>sv (vaS rfl) <| WL.nil <| WX.thenN <| WC.seq <| WC.region <| sv (vmS rfl) <| sv (vmT rfl) <| sv (vbd (ps := [(0, .string _)]) (cs := [_, _, _]) bt79 zt79 rfl (by rfl)) <| apA (v := .agg _) (cs := [.string _, .slice _ _ _, .int _ _]) Tryz.underlying27 zt79 rfl (fun _ => rfl) (fun _ => rfl) rfl rfl rfl (by decide) (by decide) (one3 rfl rfl rfl) (by rw [List.length_append, fcells_length, fcells_length, List.length_take]; simp; omega) (by simp only [maxLen]; omega) (by omega) fun _ base17 c17 hc17 =>sv (vaS rfl) <| WL.nil <| WX.thenN <| WC.seq <| WC.region <| sv (vmS rfl) <| sv (vmP rfl) <| sv (vnil rfl) <| sv (vfld fl29f0 rfl) <| sv (vldc pl27 rfl) <| sv (vmI rfl) <| sv (vslL Tryz.underlying27 sz79 rfl rfl (by omega) (by omega)) <| ap (news := fcells (l.drop p)) rfl Tryz.underlying27 zt79 rfl rfl rfl (by rw [List.length_append, List.length_append, fcells_length, fcells_length, List.length_take]; simp; omega) (by rw [fcells_length, List.length_drop]; omega) (fcells_one _) (rd_fdrop reads hp hc.1) (by simp only [maxLen]; omega) (by omega) fun base21 c21 hc21 =>sv (vaS rfl) <| WL.nil <| WX.thenN <| WC.region <| sv (vmP rfl) <| sv (vmS rfl) <| sv (vnil rfl) <| sv (vfld fl29f0 rfl) <| pm (fun _ h => h.pk1) <| stc (v := .slice _ _ _) pl27 sz27 rfl rfl rfl <| WL.nil <| WX.mid (⟨insR p ⟨nm, ⟨none, [], 0⟩, 0⟩ l, base21, c21, p, ⟨nm, ⟨none, [], 0⟩, 0⟩⟩) (?_) ⟨rfl, trivial⟩ ⟨rfl, rfl, trivial⟩ (fun w h => ?_)
          · refine ⟨⟨insR_sorted hp hr.sorted hlt (fun z hz hn => h5 ⟨(List.getElem?_eq_some_iff.1 hz).1, by rw [List.getD_eq_getElem?_getD, List.getElem?_map, hz]; exact hn⟩) hno, fun k => ?_, fun z hz => ?_, hu⟩, ⟨by dsimp only; rw [insR_length]; omega, by dsimp only; rw [insR_length]; omega⟩, insR_at hp, rfl, rfl⟩
            · rw [lookR_ins hno, hr.look]; rfl
            · rcases List.mem_append.1 hz with hz | hz
              · exact hr.ok z (List.mem_of_mem_take hz)
              · rcases List.mem_cons.1 hz with rfl | hz
                · simp
                · exact hr.ok z (List.mem_of_mem_drop hz)
          · have e1 : fcells (insR p ⟨nm, ⟨none, [], 0⟩, 0⟩ l) = fcells [] ++ fcells (l.take p) ++ [.string nm, .slice none 0 0, .int .i64 0] ++ fcells (l.drop p) := by unfold insR; rw [fcells_append]; simp [fcells]
            have e3 : (insR p ⟨nm, ⟨none, [], 0⟩, 0⟩ l).map (·.b) = (l.map (·.b)).take p ++ ⟨none, [], 0⟩ :: (l.map (·.b)).drop p := by simp [insR, List.map_take, List.map_drop]
            have h2 := h.pk2.tail
            have h3 := rows_ins (p := p) (y := ⟨none, [], 0⟩) (h2.pk2.intro_row_nil)
            dsimp only
            rw [e1, e3]
            refine ap_len ?_ h3.pk2.pk2
            rw [insR_length]; omega
      · -- else
        exact WC.skip <| WX.mid (⟨l, base, c, v.toNat, x⟩) (⟨hr.same (putV_same (hr.file (hv.at_ (by omega)).1 (hv.at_ (by omega)).2)) hu, ⟨hc.1, by dsimp only; omega⟩, (hv.at_ (by omega)).1, (hv.at_ (by omega)).2, rfl⟩) ⟨iv (by dsimp only; omega), trivial⟩ ⟨rfl, rfl, trivial⟩ (fun _ h => h)
    · -- behind the join
      rintro ⟨l1, base1, c1, j, x1⟩ ⟨g1, g2, g3, g4, g5⟩ ρh
      dsimp only at g1 g2 g3 g4 g5 ⊢
      have gx : x1.b.xs = x.b.xs := congrArg Prod.fst g5
      have gs : x1.safe = x.safe := congrArg Prod.snd g5
      have gxl := congrArg List.length gx
      have hjl := (List.getElem?_eq_some_iff.1 g3).1
      have hfl1 := fcells_length l1
      have hposJ : 0 < (fcells l1).length := by omega
      have hf1J := fc1 g3
      have hstJ : ((j : Int)).toNat * 3 + 1 < (fcells l1).length := by omega
      have hxm : x1.b ∈ l1.map (·.b) := List.mem_map.2 ⟨x1, List.mem_of_getElem? g3, rfl⟩
      refine WC.known (fun w h => row_some hposJ h.pk1) fun hbJ => ?_
      refine WC.seq <| WC.region <| sv (vmP rfl) <| cl (ref_deed hu hd) ct35 rfl fun _ _ => sv (vaB rfl) <| WL.nil <| WX.thenN <| WC.seq <| WC.region <| sv (vaS rfl) <| WL.nil <| WX.thenN <| WC.seq <| WC.region <| sv (vmS rfl) <| sv (vmP rfl) <| sv (vnil rfl) <| sv (vfld fl29f0 rfl) <| sv (vldc pl27 rfl) <| sv (vmI rfl) <| sv (vix Tryz.underlying27 sz79 rfl rfl (by omega) (by omega) reads (hposJ)) <| sv (vfldr (hbJ) fl79f1 rfl) <| sv (vldo pl23 rfl reads (hf1J)) <| pm (fun _ h => h.nil_u8) <| apb Tryz.underlying23 zt5 rfl rfl (by simp) rfl (RdC.of_rows (e := 5) (l := l1.map (·.b)) (by simp) hxm) (by omega) fun base27 c27 hc27 =>sv (vaS rfl) <| WL.nil <| WX.thenN <| WC.seq <| WC.region <| sv (vmS rfl) <| sv (vmS rfl) <| apb Tryz.underlying23 zt5 rfl rfl (by simp) hkb hR.cons.cons.cons.cons (by omega) fun base28 c28 hc28 =>sv (vaS rfl) <| WL.nil <| WX.thenN <| WC.seq <| WC.region <| sv (vmP rfl) <| sv (vnil rfl) <| sv (vfld fl29f0 rfl) <| sv (vldc pl27 rfl) <| sv (vmI rfl) <| sv (vmS rfl) <| sv (vix Tryz.underlying27 sz79 rfl rfl (by omega) (by omega) reads (hposJ)) <| sv (vfldr (hbJ) fl79f1 rfl) <| pm (fun _ h => h.pk2) <| str (v := .slice _ _ _) pl23 sz23 rfl rfl rfl (hstJ) <| WL.nil <| WX.thenN <| WC.seq <| WC.seq <| WC.region <| sv (vmB rfl) <| WL.nil <| WX.thenN <| ?_
      refine WC.ite rfl (fun h6 => ?_) (fun h6 => ?_)
      · -- then
        simp only [if_pos h6]
        dsimp only at h6
        refine WC.seq <| WC.region <| sv (vmP rfl) <| sv (vmP rfl) <| sv (vnil rfl) <| sv (vfld fl29f3 rfl) <| sv (vldc pl3 rfl) <| pm (fun _ h => ap_close (st' := ⟨putV nm (x.b.xs ++ b, x.safe) files, false, max (fuse - 1) 0, keep0, deeds + 1⟩) g1 g2 g3 (by simp; omega) hc28 (by simp; omega) (by dsimp only; rw [g4, putV_put, gx, gs]; rfl) (by dsimp only; omega) h) <| cl (ref_off) ct25 rfl fun _ _ => WL.nil <| WX.thenN <| WC.seq <| WC.region <| sv (vaI rfl) <| WL.nil <| WX.thenN <| WC.ret <| WX.thenR <| WX.ret1 rfl (()) (trivial) rfl (fun w h => ?_)
        have e : max (fuse - 1) 0 = 0 := by omega
        rw [e] at h; exact h
      · -- else
        simp only [if_neg h6]
        exact WC.skip <| WX.thenN <| WC.seq <| WC.region <| sv (vaI rfl) <| WL.nil <| WX.thenN <| WC.ret <| WX.ret1 rfl (()) (trivial) rfl (fun w h => ap_close (st' := ⟨putV nm (x.b.xs ++ b, x.safe) files, false, max (fuse - 1) 0, keep0, deeds + 1⟩) g1 g2 g3 (by simp; omega) hc28 (by simp; omega) (by dsimp only; rw [g4, putV_put, gx, gs]; rfl) (by dsimp only; omega) h)
theorem ref_append {w0 : World} {A : List HProp} {r k bc N : Nat} {bb : Option Addr} {st : DSt} {nm : ByteArray} {b : List UInt8} (hN : N + 1 ≤ 1099511627776) (hR : RdC w0 A bb (u8s b)) (hkb : k = b.length) (hd : 0 ≤ st.deeds ∧ st.deeds + 1 ≤ 9223372036854775807) :
    Fun Tryz.prog w0 9 [.pointer (some ⟨r, 0, none⟩), .string nm, .slice bb k bc] (rdisk r N st :: A) (Ret w0 (fun _ : Unit => True) (fun _ => .int .i64 (appendS nm b st).2) (fun _ => rdisk r (N + 1) (appendS nm b st).1 :: A)) := by
  refine Fun.ex (fun w h => rdisk_open h) ?_
  rintro ⟨base, c, l⟩ ⟨hr, hc⟩
  dsimp only at hr hc ⊢
  have hc' : l.length ≤ c ∧ l.length ≤ N + 1 := ⟨hc.1, by omega⟩
  cases ho : st.off with
  | true =>
    have hk : appendS nm b st = (st, 20) := by unfold appendS; rw [if_pos ho]
    rw [hk]
    exact (ref_append_off ho).mono fun e w ⟨i, hi, he, hO⟩ => ⟨i, hi, he, rdisk_mk hr hc' hO⟩
  | false =>
    have hno : ¬ st.off = true := by rw [ho]; decide
    by_cases hnm : okName nm
    · obtain ⟨v, x, hv, hV⟩ := hr.where_ nm
      have hk := appendS_eq (b := b) ho hnm (V := (x.b.xs ++ b, x.safe)) (n := x.b.xs.length + k) (by unfold appendV; rw [hV]) (by simp [hkb])
      rw [hk]
      by_cases hlt : x.b.xs.length + k ≤ 16777216
      · simp only [if_pos hlt]
        refine (ref_append_ok hN hr hc ho hnm hv hR hkb hlt hd).mono fun e w ⟨i, hi, he, hO⟩ => ⟨i, hi, ?_, ?_⟩
        · rw [he]; split <;> rfl
        · dsimp only at hO; split <;> simp_all only [if_true, if_false, not_true, not_false_eq_true]
      · simp only [if_neg hlt]
        exact (ref_append_long (by omega) hr ho hnm hv (by omega)).mono fun e w ⟨i, hi, he, hO⟩ => ⟨i, hi, he, rdisk_mk hr hc' hO⟩
    · have hk : appendS nm b st = (st, 51) := by unfold appendS; rw [if_neg hno, if_pos hnm]
      rw [hk]
      exact (ref_append_name ho hnm).mono fun e w ⟨i, hi, he, hO⟩ => ⟨i, hi, he, rdisk_mk hr hc' hO⟩
end Go.Proofs.YthljpljbpbkkcaaGreatDoor
end
section
set_option linter.unusedVariables false
set_option linter.unusedSimpArgs false
set_option maxRecDepth 4000
namespace Go.Proofs.YthljpljbpbkkcaaGreatDoor
open Go.Sl Go.RowKit Go.Pack Go.Journal

theorem ref_read_any {w0 : World} {A : List HProp} {r c : Nat} {base : Option Addr} {st : DSt} {l : List RF} {nm : ByteArray} {bs : List UInt8} {e : Int} (hl : l.length ≤ 1099511627776) (hr : RRep l st) (ho : st.off = false) (hb : readS nm st = (bs, e)) :
    Fun Tryz.prog w0 66 [.pointer (some ⟨r, 0, none⟩), .string nm] (cel r (rcells base l.length c st) 29 :: row base c 3 79 (fcells l) :: rows 5 (l.map (·.b)) :: A)
      (Ret w0 (fun i : Option Addr × Nat => RdC w0 (cel r (rcells base l.length c st) 29 :: row base c 3 79 (fcells l) :: rows 5 (l.map (·.b)) :: A) i.1 (u8s bs) ∧ bs.length ≤ i.2) (fun i => .tuple #[.slice i.1 bs.length i.2, .int .i64 e])
        (fun _ => cel r (rcells base l.length c st) 29 :: row base c 3 79 (fcells l) :: rows 5 (l.map (·.b)) :: A)) := by
  unfold readS at hb
  rw [if_neg (by rw [ho]; decide)] at hb
  cases hf : st.files nm with
  | none =>
    rw [hf] at hb
    cases hb
    exact (ref_read_no hl ho (hr.no hf)).mono fun e w ⟨i, hi, he, hO⟩ => ⟨(none, 0), ⟨RdC.nil, Nat.le_refl _⟩, he, hO⟩
  | some v =>
    rw [hf] at hb
    obtain ⟨j, x, hj, rfl, rfl⟩ := hr.at hf
    cases hb
    have hm : x.b ∈ l.map (·.b) := List.mem_map.2 ⟨x, List.mem_of_getElem? hj, rfl⟩
    exact (ref_read_ok hl hr ho hj).mono fun e w ⟨i, hi, he, hO⟩ => ⟨(x.b.base, x.b.cap), ⟨RdC.of_rows (e := 5) (l := l.map (·.b)) (by simp) hm, (hr.ok x (List.mem_of_getElem? hj)).2.2⟩, he, hO⟩
theorem ref_cut_at {w0 : World} {A : List HProp} {r N : Nat} {st st' : DSt} {nm : ByteArray} {n e : Int} (hd : 0 ≤ st.deeds ∧ st.deeds + 1 ≤ 9223372036854775807) (hN : N ≤ 1099511627776) (h : cutS nm n st = (st', e)) :
    Fun Tryz.prog w0 68 [.pointer (some ⟨r, 0, none⟩), .string nm, .int .i64 n] (rdisk r N st :: A) (Ret w0 (fun _ : Unit => True) (fun _ => .int .i64 e) (fun _ => rdisk r N st' :: A)) := by
  have := ref_cut (w0 := w0) (A := A) (r := r) (nm := nm) (n := n) hd hN
  rw [h] at this; exact this
theorem ref_open_off {w0 : World} {A : List HProp} {r n c : Nat} {base : Option Addr} {nm : ByteArray} {st : DSt} (ho : st.off = true) :
    Fun Tryz.prog w0 38 [.pointer (some ⟨r, 0, none⟩), .string nm] (cel r (rcells base n c st) 29 :: A) (Ret w0 (fun _ : Unit => True) (fun _ => .tuple #[.pointer none, .slice none 0 0, .int .i64 20]) (fun _ => cel r (rcells base n c st) 29 :: A)) := by
  obtain ⟨files, off, fuse, keep0, deeds⟩ := st
  obtain rfl : off = true := ho
  refine Fun.enter Tryz.func38 rfl Tryz.ntmps38 rfl ?_
  refine WC.seq <| WC.region <| sv (vaP rfl) <| sv (vaS rfl) <| sv (vaI rfl) <| WL.nil <| WX.thenN <| WC.seq <| WC.seq <| WC.region <| sv (vmP rfl) <| sv (vnil rfl) <| sv (vfld fl29f1 rfl) <| sv (vldc pl4 rfl) <| WL.nil <| WX.thenN <| ?_
  refine WC.tt rfl ?_
  exact WC.seq <| WC.region <| sv (vaP rfl) <| sv (vaS rfl) <| sv (vaI rfl) <| WL.nil <| WX.thenN <| WC.ret <| WX.thenR <| WX.ret3 rfl (()) (trivial) rfl (fun _ h => h)
abbrev wcells (r : Nat) (nm : ByteArray) (n : Int) (sick : Bool) : List Value := [.pointer (some ⟨r, 0, none⟩), .string nm, .int .i64 n, .bool sick]
theorem ref_open_ok {w0 : World} {A : List HProp} {r N : Nat} {nm : ByteArray} {st st' : DSt} {recs : List (List UInt8)} (hN : N ≤ 1099511627776) (hd : 0 ≤ st.deeds ∧ st.deeds + 1 ≤ 9223372036854775807) (ho : openS nm st = (st', 0)) (hrecs : (recsB (readS nm st).1).1 = recs) (hblen : (readS nm st).1.length ≤ 16777216) :
    Fun Tryz.prog w0 38 [.pointer (some ⟨r, 0, none⟩), .string nm] (rdisk r N st :: A)
      (Ret w0 (fun i : Nat × Option Addr × Nat × List (Sla UInt8) => i.2.2.2.map (·.xs) = recs ∧ i.2.2.2.length ≤ i.2.2.1)
        (fun i => .tuple #[.pointer (some ⟨i.1, 0, none⟩), .slice i.2.1 i.2.2.2.length i.2.2.1, .int .i64 0])
        (fun i => cel i.1 (wcells r nm i.2.2.2.length false) 100 :: rdisk r N st' :: row i.2.1 i.2.2.1 1 23 (bss i.2.2.2) :: rows 5 i.2.2.2 :: A)) := by
  refine Fun.ex (fun w h => rdisk_open h) ?_
  rintro ⟨base, c, l⟩ ⟨hr, hc⟩
  dsimp only at hr hc ⊢
  have h1 : st.off = false := by
    cases h : st.off with
    | false => rfl
    | true => unfold openS at ho; rw [if_pos h] at ho; cases ho
  have hno : ¬ st.off = true := by rw [h1]; decide
  have h2 : decide (okName nm) = true := by
    by_cases h : okName nm
    · simpa using h
    · unfold openS at ho; rw [if_neg hno, if_pos h] at ho; cases ho
  unfold openS at ho
  rw [if_neg hno, if_neg (by simpa using h2)] at ho
  obtain ⟨b, hb⟩ : ∃ b, b = (readS nm st).1 := ⟨_, rfl⟩
  obtain ⟨e, he⟩ : ∃ e, e = (readS nm st).2 := ⟨_, rfl⟩
  have hrd : readS nm st = (b, e) := by rw [hb, he]
  rw [← hb] at ho hblen hrecs
  have hwl := congrArg List.length (recsB_whole b)
  rw [List.length_append] at hwl
  have hcut : ((flat (recsB b).1).length : Int) < (b.length : Int) → cutS nm ((flat (recsB b).1).length : Int) st = (st', 0) := fun h => by
    rw [if_neg (fun h2 => by rw [h2] at hwl; simp at hwl; omega)] at ho
    rw [← ho]; congr 1; omega
  have hsame : ¬ ((flat (recsB b).1).length : Int) < (b.length : Int) → st = st' := fun h => by
    rw [if_pos (List.eq_nil_of_length_eq_zero (by omega))] at ho; cases ho; rfl
  obtain ⟨files, off, fuse, keep0, deeds⟩ := st
  obtain rfl : off = false := h1
  refine Fun.enter Tryz.func38 rfl Tryz.ntmps38 rfl ?_
  refine WC.seq <| WC.region <| sv (vaP rfl) <| sv (vaS rfl) <| sv (vaI rfl) <| WL.nil <| WX.thenN <| WC.seq <| WC.seq <| WC.region <| sv (vmP rfl) <| sv (vnil rfl) <| sv (vfld fl29f1 rfl) <| sv (vldc pl4 rfl) <| WL.nil <| WX.thenN <| ?_
  refine WC.ff rfl ?_
  refine WC.skip <| WX.thenN <| WC.seq <| WC.seq <| WC.region <| sv (vmT rfl) <| cl (h2 ▸ ref_name) ct33 rfl fun _ _ => sv (vnot rfl) <| WL.nil <| WX.thenN <| ?_
  refine WC.ff rfl ?_
  refine WC.skip <| WX.thenN <| WC.seq <| WC.region <| sv (vmP rfl) <| sv (vmT rfl) <| cl (ref_read_any (by omega) hr rfl hrd) ct66 rfl fun i3 hi3 => ?_
  obtain ⟨hr3, hc3⟩ := hi3
  refine sv vmv <| sv (vex rfl rfl) <| sv (vex rfl rfl) <| sv (vaS rfl) <| sv (vaI rfl) <| WL.nil <| WX.thenN <| WC.seq <| WC.region <| sv (vmS rfl) <| cl (ref_all hr3 rfl hc3 (by omega)) ct67 rfl fun i4 hi4 => ?_
  obtain ⟨u4, v4⟩ := hi4
  refine sv vmv <| sv (vex rfl rfl) <| sv (vex rfl rfl) <| sv (vaS rfl) <| sv (vaI rfl) <| WL.nil <| WX.thenN <| WC.seq <| ?_
  refine WC.cut0 [(39, .bool false)] [(0, .pointer _), (1, .string _), (9, .slice _ _ _)] (rdisk r N st' :: row i4.1 i4.2.1 1 23 (bss i4.2.2) :: rows 5 i4.2.2 :: A) ⟨rfl, rfl, rfl, trivial⟩ ?_ fun ρh => ?_
  · -- ref.go:80
    refine WC.region <| sv (vmI rfl) <| sv (vmS rfl) <| sv (vlen Tryz.underlying23 rfl) <| svs (vlt rfl rfl) (fun q1 => ?_) (fun q1 => ?_)
    ·
      exact sv (vmB rfl) <| svg rfl (vmP rfl) <| svg rfl (vmT rfl) <| svg rfl (vmI rfl) <| pm (fun _ h => rdisk_mk hr hc (h.ix [2, 3, 4, 0, 1])) <| gy rfl <| cl (ref_cut_at hd hN (hcut q1)) ct68 rfl fun _ _ => svg rfl (vF (vne rfl rfl) (by omega)) <| sv (vpkt rfl) <| WL.nil <| WX.mid () trivial ⟨rfl, trivial⟩ ⟨rfl, rfl, rfl, trivial⟩ (fun _ h => h)
    ·
      exact sv (vmB rfl) <| sng rfl <| sng rfl <| sng rfl <| sng rfl <| sng rfl <| sv (vpkf rfl) <| WL.nil <| WX.mid () trivial ⟨rfl, trivial⟩ ⟨rfl, rfl, rfl, trivial⟩ (fun w h => hsame q1 ▸ rdisk_mk hr hc (h.ix [2, 3, 4, 0, 1]))
  refine WC.ff rfl ?_
  exact WC.skip <| WX.thenN <| WC.seq <| WC.region <| sv (vmP rfl) <| sv (vmT rfl) <| sv (vmS rfl) <| sv (vlen Tryz.underlying22 rfl) <| sv (vbd (ps := [(0, .pointer _), (1, .string _), (2, .int _ _)]) (cs := [_, _, _, _]) bt100 zt100 rfl (by rfl)) <| bxc (v := .agg _) (cs := [.pointer _, .string _, .int _ _, .bool _]) rfl rfl fun b7 => sv (vmS rfl) <| sv (vaP rfl) <| sv (vaS rfl) <| sv (vaI rfl) <| WL.nil <| WX.thenN <| WC.ret <| WX.ret3 rfl ((b7, i4.1, i4.2.1, i4.2.2)) (⟨u4.trans hrecs, v4⟩) rfl (fun _ h => h)
theorem ref_open_bad {w0 : World} {A : List HProp} {r N : Nat} {nm : ByteArray} {st st' : DSt} {er : Int} (hN : N ≤ 1099511627776) (hd : 0 ≤ st.deeds ∧ st.deeds + 1 ≤ 9223372036854775807) (h1 : st.off = false) (hnm : okName nm) (her : er ≠ 0) (ho : openS nm st = (st', er)) (hblen : (readS nm st).1.length ≤ 16777216) :
    Fun Tryz.prog w0 38 [.pointer (some ⟨r, 0, none⟩), .string nm] (rdisk r N st :: A)
      (Ret w0 (fun _ : Unit => True) (fun _ => .tuple #[.pointer none, .slice none 0 0, .int .i64 20]) (fun _ => rdisk r N st' :: A)) := by
  refine Fun.ex (fun w h => rdisk_open h) ?_
  rintro ⟨base, c, l⟩ ⟨hr, hc⟩
  dsimp only at hr hc ⊢
  have hno : ¬ st.off = true := by rw [h1]; decide
  have h2 : decide (okName nm) = true := by simpa using hnm
  unfold openS at ho
  rw [if_neg hno, if_neg (by simpa using h2)] at ho
  obtain ⟨b, hb⟩ : ∃ b, b = (readS nm st).1 := ⟨_, rfl⟩
  obtain ⟨e, he⟩ : ∃ e, e = (readS nm st).2 := ⟨_, rfl⟩
  have hrd : readS nm st = (b, e) := by rw [hb, he]
  rw [← hb] at ho hblen
  have hwl := congrArg List.length (recsB_whole b)
  rw [List.length_append] at hwl
  have hlt : ((flat (recsB b).1).length : Int) < (b.length : Int) := by
    by_cases h : (recsB b).2 = []
    · rw [if_pos h] at ho; cases ho; exact absurd rfl her
    · have : 0 < (recsB b).2.length := List.length_pos_iff.2 h
      omega
  have hcut : cutS nm ((flat (recsB b).1).length : Int) st = (st', er) := by
    rw [if_neg (fun h2 => by rw [h2] at hwl; simp at hwl; omega)] at ho
    rw [← ho]; congr 1; omega
  obtain ⟨files, off, fuse, keep0, deeds⟩ := st
  obtain rfl : off = false := h1
  refine Fun.enter Tryz.func38 rfl Tryz.ntmps38 rfl ?_
  refine WC.seq <| WC.region <| sv (vaP rfl) <| sv (vaS rfl) <| sv (vaI rfl) <| WL.nil <| WX.thenN <| WC.seq <| WC.seq <| WC.region <| sv (vmP rfl) <| sv (vnil rfl) <| sv (vfld fl29f1 rfl) <| sv (vldc pl4 rfl) <| WL.nil <| WX.thenN <| ?_
  refine WC.ff rfl ?_
  refine WC.skip <| WX.thenN <| WC.seq <| WC.seq <| WC.region <| sv (vmT rfl) <| cl (h2 ▸ ref_name) ct33 rfl fun _ _ => sv (vnot rfl) <| WL.nil <| WX.thenN <| ?_
  refine WC.ff rfl ?_
  refine WC.skip <| WX.thenN <| WC.seq <| WC.region <| sv (vmP rfl) <| sv (vmT rfl) <| cl (ref_read_any (by omega) hr rfl hrd) ct66 rfl fun i3 hi3 => ?_
  obtain ⟨hr3, hc3⟩ := hi3
  refine sv vmv <| sv (vex rfl rfl) <| sv (vex rfl rfl) <| sv (vaS rfl) <| sv (vaI rfl) <| WL.nil <| WX.thenN <| WC.seq <| WC.region <| sv (vmS rfl) <| cl (ref_all hr3 rfl hc3 (by omega)) ct67 rfl fun i4 hi4 => ?_
  obtain ⟨u4, v4⟩ := hi4
  refine sv vmv <| sv (vex rfl rfl) <| sv (vex rfl rfl) <| sv (vaS rfl) <| sv (vaI rfl) <| WL.nil <| WX.thenN <| WC.seq <| ?_
  refine WC.cut0 [(39, .bool true)] [(0, .pointer _), (1, .string _), (9, .slice _ _ _)] (rdisk r N st' :: row i4.1 i4.2.1 1 23 (bss i4.2.2) :: rows 5 i4.2.2 :: A) ⟨rfl, rfl, rfl, trivial⟩ ?_ fun ρh => ?_
  · -- ref.go:80
    refine WC.region <| sv (vmI rfl) <| sv (vmS rfl) <| sv (vlen Tryz.underlying23 rfl) <| svs (vlt rfl rfl) (fun q1 => ?_) (fun q1 => ?_)
    ·
      exact sv (vmB rfl) <| svg rfl (vmP rfl) <| svg rfl (vmT rfl) <| svg rfl (vmI rfl) <| pm (fun _ h => rdisk_mk hr hc (h.ix [2, 3, 4, 0, 1])) <| gy rfl <| cl (ref_cut_at hd hN hcut) ct68 rfl fun _ _ => svg rfl (vT (vne rfl rfl) (by omega)) <| sv (vpkt rfl) <| WL.nil <| WX.mid () trivial ⟨rfl, trivial⟩ ⟨rfl, rfl, rfl, trivial⟩ (fun _ h => h)
    ·
      exact sv (vmB rfl) <| sng rfl <| sng rfl <| sng rfl <| sng rfl <| sng rfl <| sv (vpkf rfl) <| WL.nil <| WX.mid () trivial ⟨(absurd hlt q1), trivial⟩ ⟨rfl, rfl, rfl, trivial⟩ (fun w h => absurd hlt q1)
  refine WC.tt rfl ?_
  exact WC.seq <| WC.region <| sv (vaP rfl) <| sv (vaS rfl) <| sv (vaI rfl) <| WL.nil <| WX.thenN <| WC.ret <| WX.thenR <| WX.ret3 rfl (()) (trivial) rfl (fun w h => h.pk1.tail.pk1.tail)
theorem ref_jadd_sick {w0 : World} {A : List HProp} {w r k c : Nat} {nm : ByteArray} {n : Int} {base : Option Addr} :
    Fun Tryz.prog w0 48 [.pointer (some ⟨w, 0, none⟩), .slice base k c] (cel w (wcells r nm n true) 100 :: A) (Ret w0 (fun _ : Unit => True) (fun _ => .int .i64 20) (fun _ => cel w (wcells r nm n true) 100 :: A)) := by
  refine Fun.enter Tryz.func48 rfl Tryz.ntmps48 rfl ?_
  refine WC.seq <| WC.region <| sv (vaI rfl) <| WL.nil <| WX.thenN <| WC.seq <| WC.seq <| WC.region <| sv (vmP rfl) <| sv (vnil rfl) <| sv (vfld fl100f3 rfl) <| sv (vldc pl4 rfl) <| WL.nil <| WX.thenN <| ?_
  refine WC.tt rfl ?_
  exact WC.seq <| WC.region <| sv (vaI rfl) <| WL.nil <| WX.thenN <| WC.ret <| WX.thenR <| WX.ret1 rfl (()) (trivial) rfl (fun _ h => h)
theorem ref_jadd_ok {w0 : World} {A : List HProp} {w r N k c : Nat} {nm : ByteArray} {n : Int} {base : Option Addr} {rec : List UInt8} {st : DSt} (hN : N + 1 ≤ 1099511627776) (hR : RdC w0 A base (u8s rec)) (hk : k = rec.length) (hl : rec.length ≤ 1048576) (hd : 0 ≤ st.deeds ∧ st.deeds + 2 ≤ 9223372036854775807) (hn : 0 ≤ n ∧ n + 1 ≤ 9223372036854775807) :
    Fun Tryz.prog w0 48 [.pointer (some ⟨w, 0, none⟩), .slice base k c] (cel w (wcells r nm n false) 100 :: rdisk r N st :: A)
      (Ret w0 (fun _ : Unit => True) (fun _ => .int .i64 (addP nm rec st).2) (fun _ => cel w (wcells r nm (if (addP nm rec st).2 = 0 then n + 1 else n) (decide ((addP nm rec st).2 = 20))) 100 :: rdisk r (N + 1) (addP nm rec st).1 :: A)) := by
  have hap := appendS_deeds nm (frameB rec) st
  refine Fun.enter Tryz.func48 rfl Tryz.ntmps48 rfl ?_
  refine WC.seq <| WC.region <| sv (vaI rfl) <| WL.nil <| WX.thenN <| WC.seq <| WC.seq <| WC.region <| sv (vmP rfl) <| sv (vnil rfl) <| sv (vfld fl100f3 rfl) <| sv (vldc pl4 rfl) <| WL.nil <| WX.thenN <| ?_
  refine WC.ff rfl ?_
  refine WC.skip <| WX.thenN <| WC.seq <| WC.seq <| WC.region <| sv (vmS rfl) <| sv (vlen Tryz.underlying23 rfl) <| sv (vgt rfl rfl) <| WL.nil <| WX.thenN <| ?_
  refine WC.ite rfl (fun h2 => ?_) (fun h2 => ?_)
  · -- then
    omega
  · -- else
    refine WC.skip <| WX.thenN <| WC.seq <| WC.plan (.pre [8] (.one [0, 1, 2, 3, 4, 5, 6, 7] 9 (.bar [] 10 (.done [11])))) rfl (by kernel_rfl) <| WPl.pre (trivial) <| dv (fun g => (vmS rfl)) <| WD.nil <| WPl.one (fun g => g ++ cel w (wcells r nm n false) 100 :: rdisk r N st :: A) ([]) (fun _ => trivial) (rfl) <| dv (fun g => (vmP rfl)) <| dv (fun g => (vnil rfl)) <| dv (fun g => (vfld fl100f0 rfl)) <| dv (fun g => (vldc pl26 rfl)) <| dv (fun g => (vmP rfl)) <| dv (fun g => (vnil rfl)) <| dv (fun g => (vfld fl100f1 rfl)) <| dv (fun g => (vldc pl9 rfl)) <| WD.eff rfl <| cl (ref_frame hR.cons.cons hk hl) ct7 rfl fun r5 hr5 => WL.nil <| WX.br <| WPl.bar (⟨[_], rfl⟩) <| WD.eff rfl <| pm (fun _ h => h.pk2) <| cl (ref_append (nm := nm) (b := frameB rec) hN reads rfl (by omega)) ct9 rfl fun _ _ => WL.nil <| WX.brT <| WPl.fin (trivial) <| dv (fun g => (vaI rfl)) <| WD.nil <| WX.thenN <| ?_
    refine WC.cutv (ι := Unit) (fun i => [(5, .int .i64 (addP nm rec st).2)]) [(0, .pointer _)] (fun i => rdisk r (N + 1) (addP nm rec st).1 :: cel w (wcells r nm n false) 100 :: A) (fun i => True) ⟨rfl, trivial⟩ ?_ ?_
    · -- up to the join
      refine WC.seq <| WC.region <| sv (vmI rfl) <| sv (veq rfl rfl) <| WL.nil <| WX.thenN <| ?_
      refine WC.ite rfl (fun h3 => ?_) (fun h3 => ?_)
      · -- then
        refine WC.plan (.bar [0, 1, 2, 3, 4, 5, 6, 7] 8 (.done [9])) rfl (by kernel_rfl) <| WPl.bar (trivial) <| dv (fun g => (vmP rfl)) <| dv (fun g => (vnil rfl)) <| dv (fun g => (vfld fl100f0 rfl)) <| dv (fun g => (vldc pl26 rfl)) <| dv (fun g => (vmP rfl)) <| dv (fun g => (vnil rfl)) <| dv (fun g => (vfld fl100f1 rfl)) <| dv (fun g => (vldc pl9 rfl)) <| WD.eff rfl <| cl (ref_sync (nm := nm) (by omega) hN) ct77 rfl fun _ _ => WL.nil <| WX.brT <| WPl.fin (trivial) <| dv (fun g => (vaI rfl)) <| WD.nil <| WX.mid (()) (trivial) ⟨by show Value.int _ _ = Value.int _ _; unfold addP; rw [if_pos h3], trivial⟩ ⟨rfl, trivial⟩ (fun w h => ?_)
        unfold addP; rw [if_pos h3]
        exact h.pk1.tail
      · -- else
        refine WC.skip <| WX.mid (()) (trivial) ⟨by show Value.int _ _ = Value.int _ _; unfold addP; rw [if_neg h3], trivial⟩ ⟨rfl, trivial⟩ (fun w h => ?_)
        unfold addP; rw [if_neg h3]
        exact h.pk1.tail
    · -- behind the join
      intro _ _ ρh
      refine WC.seq <| WC.region <| sv (vmP rfl) <| sv (vmI rfl) <| sv (veq rfl rfl) <| sv (vnil rfl) <| sv (vfld fl100f3 rfl) <| pm (fun _ h => h.pk1) <| stc (v := .bool _) pl4 sz4 rfl rfl rfl <| WL.nil <| WX.thenN <| WC.seq <| WC.seq <| WC.region <| sv (vmI rfl) <| sv (veq rfl rfl) <| WL.nil <| WX.thenN <| ?_
      refine WC.ite rfl (fun h4 => ?_) (fun h4 => ?_)
      · -- then
        refine WC.region <| sv (vmP rfl) <| sv (vnil rfl) <| sv (vfld fl100f2 rfl) <| sv (vldc pl3 rfl) <| sv (vadd rfl rfl (by omega)) <| sv (vnil rfl) <| sv (vfld fl100f2 rfl) <| stc (v := .int _ _) pl3 sz3 rfl rfl rfl <| WL.nil <| WX.thenN <| WC.seq <| WC.region <| sv (vmI rfl) <| sv (vaI rfl) <| WL.nil <| WX.thenN <| WC.ret <| WX.ret1 rfl (()) (trivial) rfl (fun w h => ?_)
        rw [if_pos h4]; exact h
      · -- else
        refine WC.skip <| WX.thenN <| WC.seq <| WC.region <| sv (vmI rfl) <| sv (vaI rfl) <| WL.nil <| WX.thenN <| WC.ret <| WX.ret1 rfl (()) (trivial) rfl (fun w h => ?_)
        rw [if_neg h4]; exact h
end Go.Proofs.YthljpljbpbkkcaaGreatDoor
end
section
set_option linter.unusedVariables false
set_option linter.unusedSimpArgs false
set_option maxRecDepth 4000
namespace Go.Proofs.YthljpljbpbkkcaaGreatDoor
open Go.Sl Go.RowKit Go.Pack Go.Journal

theorem nmU_no : ¬ okName ⟨#[74]⟩ := by decide +kernel
end Go.Proofs.YthljpljbpbkkcaaGreatDoor
end
section
set_option linter.unusedVariables false
set_option linter.unusedSimpArgs false
namespace Go.Proofs.YthljpljbpbkkcaaGreatDoor
open Go.Sl Go.Pack Go.Journal

/-- a disk that is on, of any fuse; all of a file's bytes are safe -/
structure Fz (st : DSt) (nm : ByteArray) (all : List UInt8) (n : Int) : Prop where
  off : st.off = false
  fuse : 0 ≤ st.fuse ∧ st.fuse ≤ 9223372036854775807
  deeds : 0 ≤ st.deeds ∧ st.deeds ≤ n
  file : (st.files nm).getD ([], 0) = (all, all.length)
/-- the power has failed: of a file these bytes are there, all safe -/
structure Fd (st : DSt) (nm : ByteArray) (all : List UInt8) (n : Int) : Prop where
  off : st.off = true
  fuse : st.fuse = 0
  deeds : 0 ≤ st.deeds ∧ st.deeds ≤ n
  file : st.files nm = some (all, all.length)
section
variable {st : DSt} {nm : ByteArray} {all b : List UInt8} {n : Int}
theorem off_put {st : DSt} {nm : ByteArray} {V : List UInt8 × Nat} {keep : Int} (h1 : st.off = false) (h2 : st.files nm = some V) (hs : V.2 ≤ V.1.length) : (offS keep st).off = true ∧ (offS keep st).fuse = st.fuse ∧ (offS keep st).deeds = st.deeds ∧ ∃ K, V.2 ≤ K ∧ K ≤ V.1.length ∧ (offS keep st).files nm = some (V.1.take K, (V.1.take K).length) := by
  have hk : V.2 ≤ keptOf keep V ∧ keptOf keep V ≤ V.1.length := by unfold keptOf; omega
  unfold offS
  rw [if_neg (by rw [h1]; decide)]
  refine ⟨rfl, rfl, rfl, keptOf keep V, hk.1, hk.2, ?_⟩
  dsimp only
  rw [h2]
  show some (offV keep V) = _
  unfold offV
  rw [List.length_take, Nat.min_eq_left hk.2]
theorem deedS_eq {f g} (st : DSt) : deedS f g st = if st.fuse - 1 = 0 then (offS st.keep { st with deeds := st.deeds + 1, fuse := 0, files := g st.files }, 20) else ({ st with deeds := st.deeds + 1, fuse := max (st.fuse - 1) 0, files := f st.files }, 0) := rfl
theorem Fz.add (h : Fz st nm all n) (hn : okName nm) (hb : all.length + (b.length + 8) ≤ 16777216) :
    (∃ st', addP nm b st = (st', 0) ∧ Fz st' nm (all ++ frameB b) (n + 2)) ∨
    (∃ st' K, addP nm b st = (st', 20) ∧ all.length ≤ K ∧ K ≤ (all ++ frameB b).length ∧ Fd st' nm ((all ++ frameB b).take K) (n + 2)) := by
  have hfl : (all ++ frameB b).length = all.length + (b.length + 8) := by rw [List.length_append, frameB_len]
  have ha := appendS_eq (b := frameB b) h.off hn (V := (all ++ frameB b, all.length)) (n := all.length + (b.length + 8)) (by unfold appendV; rw [h.file]) hfl
  rw [if_pos hb] at ha
  have hu := h.fuse
  have hd := h.deeds
  by_cases h1 : st.fuse - 1 = 0
  · rw [if_pos h1] at ha
    obtain ⟨g1, g2, g3, K, g4, g5, g6⟩ := off_put (st := { st with deeds := st.deeds + 1, fuse := 0, files := putV nm (all ++ frameB b, all.length) st.files }) (nm := nm) (V := (all ++ frameB b, all.length)) (keep := st.keep) h.off (by simp [putV]) (by dsimp only; omega)
    refine .inr ⟨_, K, ?_, g4, g5, ⟨g1, g2, by rw [g3]; dsimp only; omega, g6⟩⟩
    unfold addP; rw [ha, if_neg (show ¬ (20 : Int) = 0 by decide)]
  · rw [if_neg h1] at ha
    have hs : syncS nm { st with deeds := st.deeds + 1, fuse := max (st.fuse - 1) 0, files := putV nm (all ++ frameB b, all.length) st.files } = deedS (putV nm (all ++ frameB b, (all ++ frameB b).length)) id { st with deeds := st.deeds + 1, fuse := max (st.fuse - 1) 0, files := putV nm (all ++ frameB b, all.length) st.files } := by
      unfold syncS
      rw [if_neg (by dsimp only; rw [h.off]; decide)]
      simp [putV]
    rw [deedS_eq] at hs
    have hp : addP nm b st = syncS nm { st with deeds := st.deeds + 1, fuse := max (st.fuse - 1) 0, files := putV nm (all ++ frameB b, all.length) st.files } := by
      unfold addP; rw [ha, if_pos rfl]
    by_cases h2 : max (st.fuse - 1) 0 - 1 = 0
    · rw [if_pos h2] at hs
      obtain ⟨g1, g2, g3, K, g4, g5, g6⟩ := off_put (st := { st with deeds := st.deeds + 1 + 1, fuse := 0, files := putV nm (all ++ frameB b, all.length) st.files }) (nm := nm) (V := (all ++ frameB b, all.length)) (keep := st.keep) h.off (by simp [putV]) (by dsimp only; omega)
      have key : ∀ x : Int, x = st.deeds + 1 + 1 → 0 ≤ x ∧ x ≤ n + 2 := fun x hx => by omega
      exact .inr ⟨_, K, hp.trans hs, g4, g5, ⟨g1, g2, key _ g3, g6⟩⟩
    · rw [if_neg h2] at hs
      refine .inl ⟨_, hp.trans hs, ⟨h.off, by dsimp only; omega, by dsimp only; omega, ?_⟩⟩
      simp [putV]
theorem Fd.on (h : Fd st nm all n) (f : Int) (hf : 0 ≤ f ∧ f ≤ 9223372036854775807) : Fz { { st with off := false } with fuse := f, keep := 0 } nm all n := ⟨rfl, hf, h.deeds, by dsimp only; rw [h.file]; rfl⟩
theorem Fz.on (h : Fz st nm all n) (f : Int) (hf : 0 ≤ f ∧ f ≤ 9223372036854775807) : Fz { { st with off := false } with fuse := f, keep := 0 } nm all n := ⟨rfl, hf, h.deeds, h.file⟩
theorem Fz.read (h : Fz st nm all n) : (readS nm st).1 = all := by
  have := h.file
  unfold readS
  rw [if_neg (by rw [h.off]; decide)]
  cases hf : st.files nm with
  | none => rw [hf] at this; exact (congrArg Prod.fst this)
  | some v => rw [hf] at this; exact (congrArg Prod.fst this)
theorem Fz.open_ (h : Fz st nm all n) (hn : okName nm) :
    (∃ st', openS nm st = (st', 0) ∧ Fz st' nm (flat (recsB all).1) (n + 1)) ∨ (∃ st', openS nm st = (st', 20) ∧ Fd st' nm all (n + 1)) := by
  have hw := recsB_whole all
  have hlen := congrArg List.length hw
  rw [List.length_append] at hlen
  have hd := h.deeds
  have hu := h.fuse
  unfold openS
  rw [if_neg (by rw [h.off]; decide), if_neg (by simpa using hn), h.read]
  by_cases hr : (recsB all).2 = []
  · rw [if_pos hr]
    rw [hr, List.append_nil] at hw
    exact .inl ⟨st, rfl, by rw [hw]; exact ⟨h.off, h.fuse, by omega, h.file⟩⟩
  · rw [if_neg hr]
    have hne : all ≠ [] := by rintro rfl; exact hr (by rw [recsB_nil])
    have hs : st.files nm = some (all, all.length) := by
      have := h.file
      cases hf : st.files nm with
      | none => rw [hf] at this; exact absurd (congrArg Prod.fst this).symm hne
      | some v => rw [hf] at this; exact congrArg some this
    have hk : ((all.length : Int) - ((recsB all).2.length : Int)).toNat = (flat (recsB all).1).length := by omega
    have ht : all.take (flat (recsB all).1).length = flat (recsB all).1 := by
      conv => lhs; rw [← hw]
      exact List.take_left' (by rw [hw])
    have hc : cutS nm ((all.length : Int) - ((recsB all).2.length : Int)) st = deedS (putV nm (flat (recsB all).1, (flat (recsB all).1).length)) id st := by
      unfold cutS
      rw [if_neg (by rw [h.off]; decide), hs]
      dsimp only
      rw [if_neg (by omega), hk, ht, Nat.min_eq_right (by omega)]
    rw [hc, deedS_eq]
    by_cases h1 : st.fuse - 1 = 0
    · rw [if_pos h1]
      obtain ⟨g1, g2, g3, K, g4, g5, g6⟩ := off_put (st := { st with deeds := st.deeds + 1, fuse := 0, files := id st.files }) (nm := nm) (V := (all, all.length)) (keep := st.keep) h.off hs (Nat.le_refl _)
      dsimp only at g4 g5 g6
      have hK : K = all.length := by omega
      rw [hK, List.take_length] at g6
      exact .inr ⟨_, rfl, ⟨g1, g2, by rw [g3]; dsimp only; omega, g6⟩⟩
    · rw [if_neg h1]
      refine .inl ⟨_, rfl, ⟨h.off, by dsimp only; omega, by dsimp only; omega, ?_⟩⟩
      simp [putV]
end
/-- what is found: all records, and at most the one that was under way, whole -/
theorem found {rs : List (List UInt8)} {r : List UInt8} (hs : ∀ x ∈ rs, x.length ≤ 1048576) (hr : r.length ≤ 1048576) {K : Nat} (h1 : (flat rs).length ≤ K) (h2 : K ≤ (flat rs ++ frameB r).length) :
    (recsB ((flat rs ++ frameB r).take K)).1 = rs ∨ (recsB ((flat rs ++ frameB r).take K)).1 = rs ++ [r] := by
  have e : (flat rs ++ frameB r).take K = flat rs ++ (frameB r).take (K - (flat rs).length) := by
    rw [List.take_append, List.take_of_length_le h1]
  rw [e, recsB_flat rs _ hs]
  obtain ⟨m, hm⟩ : ∃ m, m = K - (flat rs).length := ⟨_, rfl⟩
  rw [← hm]
  have hml : m ≤ (frameB r).length := by rw [List.length_append] at h2; omega
  by_cases hw : m = (frameB r).length
  · refine .inr ?_
    have := recsB_frame hr []
    rw [List.append_nil, recsB_nil] at this
    rw [hw, List.take_length, this]
  · refine .inl ?_
    have hn : nextB ((frameB r).take m) = none := by
      have hfl := frame_length r
      have hl : ((frameB r).take m).length = m := by rw [List.length_take]; omega
      unfold nextB
      rw [hl]
      by_cases h8 : m < 8
      · rw [if_pos h8]
      · rw [if_neg h8]
        have hnum : num4 ((frameB r).take m) = r.length := by
          have e1 : frameB r = le4 r.length ++ (le4 (sum (le4 r.length ++ r)) ++ r) := by simp [frameB]
          rw [e1, List.take_append, List.take_of_length_le (by rw [le4_length]; omega)]
          exact num4_le4 (by omega) _
        rw [hnum, if_pos (by omega)]
    rw [recsB_none hn, List.append_nil]
theorem newD_fz : Fz newD nmJ [] 0 := ⟨rfl, by simp [newD], by simp [newD], rfl⟩
theorem open_new : openS nmJ newD = (newD, 0) := by
  have h1 : readS nmJ newD = ([], 21) := rfl
  unfold openS
  rw [if_neg (by decide), if_neg (fun h => h nmJ_ok), h1]
  dsimp only
  rw [recsB_nil, if_pos rfl]
end Go.Proofs.YthljpljbpbkkcaaGreatDoor
end
section
set_option linter.unusedVariables false
set_option linter.unusedSimpArgs false
set_option maxRecDepth 4000
namespace Go.Proofs.YthljpljbpbkkcaaGreatDoor
open Go.Sl Go.RowKit Go.Pack Go.Journal

structure JS where
  st : DSt
  n : Int
  sick : Bool
/-- a record added to a journal, whatever its state -/
def addT (nm : ByteArray) (rec : List UInt8) (s : JS) : JS × Int :=
  if s.sick then (s, 20) else (⟨(addP nm rec s.st).1, if (addP nm rec s.st).2 = 0 then s.n + 1 else s.n, decide ((addP nm rec s.st).2 = 20)⟩, (addP nm rec s.st).2)
theorem rdisk_mono {w0 w : World} {r N : Nat} {st : DSt} {A : List HProp} (h : Own w0 (rdisk r N st :: A) w) : Own w0 (rdisk r (N + 1) st :: A) w := by
  obtain ⟨⟨base, c, l⟩, ⟨hr, hc⟩, hO⟩ := rdisk_open h
  exact rdisk_mk hr ⟨hc.1, Nat.le_succ_of_le hc.2⟩ hO
theorem addP_deeds (nm : ByteArray) (rec : List UInt8) (st : DSt) : st.deeds ≤ (addP nm rec st).1.deeds ∧ (addP nm rec st).1.deeds ≤ st.deeds + 2 := by
  have h1 := appendS_deeds nm (frameB rec) st
  unfold addP
  split
  · have h2 : (appendS nm (frameB rec) st).1.deeds ≤ (syncS nm (appendS nm (frameB rec) st).1).1.deeds ∧ (syncS nm (appendS nm (frameB rec) st).1).1.deeds ≤ (appendS nm (frameB rec) st).1.deeds + 1 := by
      unfold syncS
      split
      · dsimp only; omega
      · split
        · dsimp only; omega
        · rw [deedS_deeds]; omega
    omega
  · omega
theorem addT_bounds (nm : ByteArray) (rec : List UInt8) (s : JS) : s.st.deeds ≤ (addT nm rec s).1.st.deeds ∧ (addT nm rec s).1.st.deeds ≤ s.st.deeds + 2 ∧ s.n ≤ (addT nm rec s).1.n ∧ (addT nm rec s).1.n ≤ s.n + 1 := by
  unfold addT
  split
  · dsimp only; omega
  · have := addP_deeds nm rec s.st
    dsimp only
    split <;> omega
theorem journal_add_T {w0 : World} {A : List HProp} {j d k c : Nat} {nm : ByteArray} {base : Option Addr} {rec : List UInt8} {s : JS} (hR : RdC w0 A base (u8s rec)) (hk : k = rec.length) (hl : rec.length ≤ 1048576) (hs : nm.size ≤ 140737488351232) (hd : 0 ≤ s.st.deeds ∧ s.st.deeds + 2 ≤ 9223372036854775807) (hn : 0 ≤ s.n ∧ s.n + 1 ≤ 9223372036854775807) :
    Fun Tryz.prog w0 94 [.pointer (some ⟨j, 0, none⟩), .slice base k c] (cel j (jcells d nm s.n s.sick) 112 :: pdisk d s.st :: A)
      (Ret w0 (fun _ : Unit => True) (fun _ => .int .i64 (addT nm rec s).2) (fun _ => cel j (jcells d nm (addT nm rec s).1.n (addT nm rec s).1.sick) 112 :: pdisk d (addT nm rec s).1.st :: A)) := by
  obtain ⟨st, n, sick⟩ := s
  cases sick with
  | true => exact journal_add_sick
  | false => exact journal_add_ok hR hk hl hs hd hn
theorem ref_jadd_T {w0 : World} {A : List HProp} {w r N k c : Nat} {nm : ByteArray} {base : Option Addr} {rec : List UInt8} {s : JS} (hN : N + 1 ≤ 1099511627776) (hR : RdC w0 A base (u8s rec)) (hk : k = rec.length) (hl : rec.length ≤ 1048576) (hd : 0 ≤ s.st.deeds ∧ s.st.deeds + 2 ≤ 9223372036854775807) (hn : 0 ≤ s.n ∧ s.n + 1 ≤ 9223372036854775807) :
    Fun Tryz.prog w0 48 [.pointer (some ⟨w, 0, none⟩), .slice base k c] (cel w (wcells r nm s.n s.sick) 100 :: rdisk r N s.st :: A)
      (Ret w0 (fun _ : Unit => True) (fun _ => .int .i64 (addT nm rec s).2) (fun _ => cel w (wcells r nm (addT nm rec s).1.n (addT nm rec s).1.sick) 100 :: rdisk r (N + 1) (addT nm rec s).1.st :: A)) := by
  obtain ⟨st, n, sick⟩ := s
  cases sick with
  | true => exact ref_jadd_sick.mono fun e w ⟨i, hi, he, hO⟩ => ⟨i, hi, he, (rdisk_mono hO.pk1).pk1⟩
  | false => exact ref_jadd_ok hN hR hk hl hd hn
theorem openS_deeds (nm : ByteArray) (st : DSt) : st.deeds ≤ (openS nm st).1.deeds ∧ (openS nm st).1.deeds ≤ st.deeds + 1 := by
  have hc : ∀ n, st.deeds ≤ (cutS nm n st).1.deeds ∧ (cutS nm n st).1.deeds ≤ st.deeds + 1 := fun n => by
    unfold cutS
    split
    · dsimp only; omega
    · split
      · dsimp only; omega
      · split
        · dsimp only; omega
        · rw [deedS_deeds]; omega
  unfold openS
  split
  · dsimp only; omega
  · split
    · dsimp only; omega
    · split
      · dsimp only; omega
      · exact hc _
/-- when a journal is not opened, the power is off or fails -/
theorem openS_err {nm : ByteArray} {st st' : DSt} {e : Int} (hn : okName nm) (h : openS nm st = (st', e)) (he : e ≠ 0) : e = 20 ∧ (st.off = true → st' = st) := by
  unfold openS at h
  by_cases ho : st.off = true
  · rw [if_pos ho] at h; cases h; exact ⟨rfl, fun _ => rfl⟩
  · rw [if_neg ho, if_neg (fun h2 => h2 hn)] at h
    by_cases hr : (recsB (readS nm st).1).2 = []
    · rw [if_pos hr] at h; cases h; exact absurd rfl he
    · rw [if_neg hr] at h
      refine ⟨?_, fun h2 => absurd h2 ho⟩
      have hwl := congrArg List.length (recsB_whole (readS nm st).1)
      rw [List.length_append] at hwl
      unfold cutS at h
      rw [if_neg ho] at h
      unfold readS at h hwl hr
      rw [if_neg ho] at h hwl hr
      cases hf : st.files nm with
      | none => rw [hf] at hr; exact absurd (by rw [recsB_nil]) hr
      | some v =>
        rw [hf] at h hwl
        dsimp only at h hwl
        rw [if_neg (by omega), deedS_eq] at h
        split at h
        · cases h; rfl
        · cases h; exact absurd rfl he
theorem journal_open_no {w0 : World} {A : List HProp} {d : Nat} {nm : ByteArray} {st st' : DSt} {e : Int} (hd : 0 ≤ st.deeds ∧ st.deeds + 1 ≤ 9223372036854775807) (hn : okName nm) (h : openS nm st = (st', e)) (he : e ≠ 0) :
    Fun Tryz.prog w0 36 [.pointer (some ⟨d, 0, none⟩), .string nm] (pdisk d st :: A) (Ret w0 (fun _ : Unit => True) (fun _ => .tuple #[.pointer none, .slice none 0 0, .int .i64 20]) (fun _ => pdisk d st' :: A)) := by
  obtain ⟨rfl, h2⟩ := openS_err hn h he
  cases ho : st.off with
  | true => rw [h2 ho]; exact journal_open_off ho
  | false => exact journal_open_bad hd ho hn he h
theorem ref_open_no {w0 : World} {A : List HProp} {r N : Nat} {nm : ByteArray} {st st' : DSt} {e : Int} (hN : N ≤ 1099511627776) (hd : 0 ≤ st.deeds ∧ st.deeds + 1 ≤ 9223372036854775807) (hn : okName nm) (h : openS nm st = (st', e)) (he : e ≠ 0) (hb : (readS nm st).1.length ≤ 16777216) :
    Fun Tryz.prog w0 38 [.pointer (some ⟨r, 0, none⟩), .string nm] (rdisk r N st :: A) (Ret w0 (fun _ : Unit => True) (fun _ => .tuple #[.pointer none, .slice none 0 0, .int .i64 20]) (fun _ => rdisk r N st' :: A)) := by
  cases ho : st.off with
  | true =>
    rw [(openS_err hn h he).2 ho]
    refine Fun.ex (fun w h => rdisk_open h) ?_
    rintro ⟨base, c, l⟩ ⟨hr, hc⟩
    exact (ref_open_off ho).mono fun e w ⟨i, hi, he, hO⟩ => ⟨i, hi, he, rdisk_mk hr hc hO⟩
  | false => exact ref_open_bad hN hd ho hn he h hb
end Go.Proofs.YthljpljbpbkkcaaGreatDoor
end
section
set_option linter.unusedVariables false
set_option linter.unusedSimpArgs false
set_option maxRecDepth 4000
namespace Go.Proofs.YthljpljbpbkkcaaGreatDoor
open Go.Sl Go.RowKit Go.Pack Go.Vault Go.Journal

theorem recsB_lens : ∀ (m : Nat) (b : List UInt8), b.length ≤ m → (∀ r ∈ (recsB b).1, r.length ≤ 1048576) ∧ (recsB b).1.length ≤ b.length
  | 0, b, h => by
    have : b = [] := List.eq_nil_of_length_eq_zero (by omega)
    subst this
    have hn : nextB [] = none := rfl
    rw [recsB_none hn]; exact ⟨fun r hr => (by cases hr), Nat.le_refl _⟩
  | m + 1, b, h => by
    cases hn : nextB b with
    | none => rw [recsB_none hn]; exact ⟨fun r hr => (by cases hr), Nat.zero_le _⟩
    | some n =>
      have hl := nextB_le hn
      have ih := recsB_lens m (b.drop (8 + n)) (by rw [List.length_drop]; omega)
      rw [recsB_some hn]
      refine ⟨fun r hr => ?_, ?_⟩
      · rcases List.mem_cons.1 hr with rfl | hr
        · rw [List.length_take]; omega
        · exact ih.1 r hr
      · have := ih.2
        rw [List.length_drop] at this
        show _ + 1 ≤ _
        omega
theorem redoA_snoc {l : List (List UInt8)} {b : List UInt8} {d : VD} : redoA (l ++ [b]) d = (redoA l d).bind fun d => redoP b d := by
  unfold redoA
  rw [List.foldlM_append]
  congr 1
  funext d
  simp
theorem redoA_none {l m : List (List UInt8)} {d : VD} (h : redoA l d = none) : redoA (l ++ m) d = none := by
  unfold redoA at h ⊢
  rw [List.foldlM_append, h]; rfl
theorem v_open_err {w0 : World} {A : List HProp} {dk : Nat} {st st' : DSt} {e : Int} (hd : 0 ≤ st.deeds ∧ st.deeds + 1 ≤ 9223372036854775807) (ho : openS vnm st = (st', e)) (he : e ≠ 0) : Fun Tryz.prog w0 10 [.pointer (some ⟨dk, 0, none⟩)] (pdisk dk st :: A) (Ret w0 (fun _ : Unit => True) (fun _ => .tuple #[.pointer none, .int .i64 20]) (fun _ => pdisk dk st' :: A)) := by
  refine Fun.enter Tryz.func10 rfl Tryz.ntmps10 rfl ?_
  refine WC.seq <| WC.region <| sv (vaP rfl) <| sv (vaI rfl) <| WL.nil <| WX.thenN <| WC.seq <| WC.region <| sv (vmP rfl) <| clx (by repeat' (first | with_reducible exact Sb.all | exact Sb.nil | (apply Sb.cons; focus (first | ((repeat (first | with_reducible exact Tk.here | with_reducible apply Tk.there)); done) | ((repeat (first | exact Tk.here | apply Tk.there)); done))) | apply Sb.drop)) (journal_open_no hd vnm_ok ho he) ct36 rfl fun r1 hr1 => ?_
  refine sv vmv <| sv (vex rfl rfl) <| sv (vex rfl rfl) <| sv (vex rfl rfl) <| sv (vaP rfl) <| sv (vaS rfl) <| sv (vaI rfl) <| WL.nil <| WX.thenN <| WC.seq <| WC.seq <| WC.region <| sv (vmI rfl) <| sv (vne rfl rfl) <| WL.nil <| WX.thenN <| ?_
  refine WC.ite rfl (fun h1 => ?_) (fun h1 => ?_)
  · -- then
    exact WC.seq <| WC.region <| sv (vmI rfl) <| sv (vaP rfl) <| sv (vaI rfl) <| WL.nil <| WX.thenN <| WC.ret <| WX.thenR <| WX.ret2 rfl (()) (trivial) rfl (fun _ h => Sb.own (by repeat' (first | with_reducible exact Sb.all | exact Sb.nil | (apply Sb.cons; focus (first | ((repeat (first | with_reducible exact Tk.here | with_reducible apply Tk.there)); done) | ((repeat (first | exact Tk.here | apply Tk.there)); done))) | apply Sb.drop)) h)
  · -- else
    exact absurd (show (20 : Int) ≠ 0 by decide) h1
theorem v_open_ok {w0 : World} {A : List HProp} {dk : Nat} {st st' : DSt} (hd : 0 ≤ st.deeds ∧ st.deeds + 1 ≤ 9223372036854775807) (ho : openS vnm st = (st', 0)) (hfile : (readS vnm st).1.length ≤ 16777216) : Fun Tryz.prog w0 10 [.pointer (some ⟨dk, 0, none⟩)] (pdisk dk st :: A)
    (Ret w0 (fun i : Option (Nat × Nat × VD) => redoA (recsB (readS vnm st).1).1 VD.new = i.map (·.2.2)) (fun i => .tuple #[.pointer (i.map fun x => ⟨x.1, 0, none⟩), .int .i64 (if i.isSome = true then 0 else 4)])
      (fun i => match i with | none => pdisk dk st' :: A | some x => vall x.1 x.2.1 dk x.2.2 ⟨st', (recsB (readS vnm st).1).1.length, false⟩ A)) := by
  obtain ⟨recs, hrecs⟩ : ∃ r, r = (recsB (readS vnm st).1).1 := ⟨_, rfl⟩
  have hlens := recsB_lens _ (readS vnm st).1 (Nat.le_refl _)
  rw [← hrecs] at hlens ⊢
  refine Fun.enter Tryz.func10 rfl Tryz.ntmps10 rfl ?_
  refine WC.seq <| WC.region <| sv (vaP rfl) <| sv (vaI rfl) <| WL.nil <| WX.thenN <| WC.seq <| WC.region <| sv (vmP rfl) <| clx (by repeat' (first | with_reducible exact Sb.all | exact Sb.nil | (apply Sb.cons; focus (first | ((repeat (first | with_reducible exact Tk.here | with_reducible apply Tk.there)); done) | ((repeat (first | exact Tk.here | apply Tk.there)); done))) | apply Sb.drop)) (journal_open_ok hd ho) ct36 rfl fun r1 hr1 => ?_
  obtain ⟨j, rb, rc, l⟩ := r1
  obtain ⟨g1, g2⟩ := hr1
  rw [← hrecs] at g1
  have gl : l.length = recs.length := by rw [← g1, List.length_map]
  dsimp only at g2 ⊢
  refine sv vmv <| sv (vex rfl rfl) <| sv (vex rfl rfl) <| sv (vex rfl rfl) <| sv (vaP rfl) <| sv (vaS rfl) <| sv (vaI rfl) <| WL.nil <| WX.thenN <| WC.seq <| WC.seq <| WC.region <| sv (vmI rfl) <| sv (vne rfl rfl) <| WL.nil <| WX.thenN <| ?_
  refine WC.ff rfl ?_
  refine WC.skip <| WX.thenN <| WC.seq <| WC.region <| mkmK KP fun b2 =>mkm .string fun b3 => sv (vmP rfl) <| sv (vbd (ps := [(0, .map _), (1, .map _), (2, .pointer _)]) (cs := [_, _, _, _]) bt86 zt86 rfl (by rfl)) <| bxc (v := .agg _) (cs := [.map _, .map _, .pointer _, .bool _]) rfl rfl fun b5 => sv (vaP rfl) <| WL.nil <| WX.thenN <| WC.seq <| WC.seq <| WC.region <| sv (vmS rfl) <| sv (vlen Tryz.underlying22 rfl) <| sv (vmI rfl) <| WL.nil <| WX.thenN <| WC.block <| ?_
  refine WC.loop (ι := Nat × VD) (fun i => [(26, .int .i64 i.1)]) [(7, .pointer _), (24, .slice _ _ _), (25, .int _ _)] (fun i => pv b5 j false i.2 :: cel j (jcells dk vnm l.length false) 112 :: pdisk dk st' :: row rb rc 1 23 (bss l) :: rows 5 l :: A) (fun i => i.1 ≤ l.length ∧ redoA (recs.take i.1) VD.new = some i.2) (fun i => l.length - i.1) ((0, VD.new)) (⟨Nat.zero_le _, rfl⟩) ⟨rfl, trivial⟩ ⟨rfl, rfl, rfl, trivial⟩ (fun w h => by have h1 := (Own.sp4 (X1 := cel b5 (vcl ⟨b2, b3, [], []⟩ j false) 86) (X2 := mpk KP b2 []) (X3 := mp .string b3 []) (X4 := rows 5 []) (by repeat' (first | exact Spl.nil | (apply Spl.cons; focus (first | ((repeat (first | with_reducible exact Tk.here | with_reducible apply Tk.there)); done) | ((repeat (first | exact Tk.here | apply Tk.there)); done))))) h.intro_emp); have h2 := pv_mk (v := b5) (j := j) (down := false) (d := VD.new) (i := ⟨b2, b3, [], []⟩) VRep.new h1; exact Sb.own (by repeat' (first | with_reducible exact Sb.all | exact Sb.nil | (apply Sb.cons; focus (first | ((repeat (first | with_reducible exact Tk.here | with_reducible apply Tk.there)); done) | ((repeat (first | exact Tk.here | apply Tk.there)); done))) | apply Sb.drop)) h2) ?_
  rintro ⟨i, d⟩ ⟨hi, hred⟩ ρh
  dsimp only at hi hred ⊢
  refine WC.seq <| WC.region <| sv (vlt rfl rfl) <| WL.nil <| WX.thenN <| WC.seq <| ?_
  refine WC.ite rfl (fun h2 => ?_) (fun h2 => ?_)
  · -- then
    have hil : i < l.length := by omega
    have hri : recs[i]? = some l[i].xs := by rw [← g1, List.getElem?_map, List.getElem?_eq_getElem hil]; rfl
    have hrl : l[i].xs.length ≤ 1048576 := hlens.1 _ (List.mem_of_getElem? hri)
    have hnx : redoA (recs.take (i + 1)) VD.new = redoP l[i].xs d := by rw [List.take_add_one, hri, Option.toList_some, redoA_snoc, hred]; rfl
    refine WC.skip <| WX.thenN <| WC.seq <| WC.block <| WC.seq <| WC.region <| sv (vix1 Tryz.underlying22 sz23 rfl rfl (by omega) (by omega) (RdC.of_row (c := rc) (s := 1) (e := 23) (vs := bss l) (by simp)) (by rw [bss_length]; omega)) <| sv (vldo pl23 rfl (RdC.of_row (c := rc) (s := 1) (e := 23) (vs := bss l) (by simp)) (bss_at hil)) <| sv (vaS rfl) <| WL.nil <| WX.thenN <| WC.seq <| WC.region <| sv (vmP rfl) <| sv (vmS rfl) <| clx (by repeat' (first | with_reducible exact Sb.all | exact Sb.nil | (apply Sb.cons; focus (first | ((repeat (first | with_reducible exact Tk.here | with_reducible apply Tk.there)); done) | ((repeat (first | exact Tk.here | apply Tk.there)); done))) | apply Sb.drop)) (v_redo (hR := ⟨RdC.of_rows (e := 5) (l := l) (by simp) (List.getElem_mem hil)⟩) hrl) ct37 rfl fun r8 hr8 => ?_
    obtain ⟨d', ok⟩ := r8
    dsimp only at hr8 ⊢
    refine sv (vnot rfl) <| WL.nil <| WX.thenN <| ?_
    refine WC.iteb rfl (fun h3 => ?_) (fun h3 => ?_)
    · -- then
      have hok : ok = false := by simpa using h3
      subst hok
      exact WC.seq <| WC.region <| sv (vaP rfl) <| sv (vaI rfl) <| WL.nil <| WX.thenN <| WC.ret <| WX.blockR <| WX.thenR <| WX.thenR <| WX.blockR <| WX.thenR <| WX.ret2 rfl (none) (by rw [← List.take_append_drop (i + 1) recs]; exact redoA_none (hnx.trans hr8)) rfl (fun _ h => Sb.own (by repeat' (first | with_reducible exact Sb.all | exact Sb.nil | (apply Sb.cons; focus (first | ((repeat (first | with_reducible exact Tk.here | with_reducible apply Tk.there)); done) | ((repeat (first | exact Tk.here | apply Tk.there)); done))) | apply Sb.drop)) h)
    · -- else
      have hok : ok = true := by simpa using h3
      subst hok
      exact WC.skip <| WX.blockN <| WX.thenN <| WC.region <| sv (vadd rfl rfl (by omega)) <| sv (vmI rfl) <| WL.nil <| WX.again ((i + 1, d')) (⟨by omega, hnx.trans hr8⟩) (by omega) ⟨rfl, trivial⟩ ⟨rfl, rfl, rfl, trivial⟩ (fun _ h => Sb.own (by repeat' (first | with_reducible exact Sb.all | exact Sb.nil | (apply Sb.cons; focus (first | ((repeat (first | with_reducible exact Tk.here | with_reducible apply Tk.there)); done) | ((repeat (first | exact Tk.here | apply Tk.there)); done))) | apply Sb.drop)) h)
  · -- else
    exact WC.exit <| WX.thenE <| WX.thenE <| WX.blockH <| WX.thenN <| WC.seq <| WC.region <| sv (vmP rfl) <| sv (vaP rfl) <| sv (vaI rfl) <| WL.nil <| WX.thenN <| WC.ret <| WX.ret2 rfl (some (b5, j, d)) (by rw [← List.take_of_length_le (l := recs) (i := i) (by omega)]; exact hred) rfl (fun w h => by rw [← gl]; exact Sb.own (by repeat' (first | with_reducible exact Sb.all | exact Sb.nil | (apply Sb.cons; focus (first | ((repeat (first | with_reducible exact Tk.here | with_reducible apply Tk.there)); done) | ((repeat (first | exact Tk.here | apply Tk.there)); done))) | apply Sb.drop)) h)
end Go.Proofs.YthljpljbpbkkcaaGreatDoor
end
section
set_option linter.unusedVariables false
set_option linter.unusedSimpArgs false
set_option maxRecDepth 4000
namespace Go.Proofs.YthljpljbpbkkcaaGreatDoor
open Go.Sl Go.Pack Go.RowKit

/-- The document's reader: what is left of bytes that whatever bears B can read; none: there was a fault. -/
def rrd (w0 : World) (B : List HProp) (r : Nat) (st : Option (List UInt8)) : HProp := fun h => ∃ base c bs, (bs.length ≤ c ∧ RdC w0 B base (u8s bs) ∧ ∀ b, st = some b → bs = b) ∧ cel r [.slice base bs.length c, .bool st.isNone] 125 h
theorem rrd_open {w0 w : World} {B : List HProp} {r : Nat} {st : Option (List UInt8)} {A : List HProp} (H : Own w0 (rrd w0 B r st :: A) w) :
    ∃ x : Option Addr × Nat × List UInt8, (x.2.2.length ≤ x.2.1 ∧ RdC w0 B x.1 (u8s x.2.2) ∧ ∀ b, st = some b → x.2.2 = b) ∧ Own w0 (cel r [.slice x.1 x.2.2.length x.2.1, .bool st.isNone] 125 :: A) w := by
  obtain ⟨hb, h, ⟨h1, h2, ⟨base, c, bs, hc, a⟩, a2, d, x⟩, hw⟩ := H
  exact ⟨(base, c, bs), hc, hb, h, ⟨h1, h2, a, a2, d, x⟩, hw⟩
theorem rrd_mk {w0 w : World} {B : List HProp} {r : Nat} {st : Option (List UInt8)} {A : List HProp} {base : Option Addr} {c : Nat} {bs : List UInt8} (hc : bs.length ≤ c) (hr : RdC w0 B base (u8s bs)) (hs : ∀ b, st = some b → bs = b) (H : Own w0 (cel r [.slice base bs.length c, .bool st.isNone] 125 :: A) w) :
    Own w0 (rrd w0 B r st :: A) w := H.head fun _ h => ⟨base, c, bs, ⟨hc, hr, hs⟩, h⟩
theorem rdC_drop {w0 : World} {B : List HProp} {base : Option Addr} {bs : List UInt8} (h : RdC w0 B base (u8s bs)) (k c : Nat) (hc : bs.length ≤ c) : RdC w0 B (slB base k c 1) (u8s (bs.drop k)) :=
  fun w hw => rd_drop (w0 := w) (h w hw) k c hc
theorem rrd_num {w0 : World} {A B : List HProp} {r : Nat} {st : Option (List UInt8)} (hBA : ∀ w, Own w0 A w → Own w0 B w) (hb : ∀ b, st = some b → b.length ≤ 140737488355328) :
    Fun Tryz.prog w0 69 [.pointer (some ⟨r, 0, none⟩)] (rrd w0 B r st :: A)
      (Ret w0 (fun _ : Unit => True) (fun _ => .int .i64 (rnum st)) (fun _ => rrd w0 B r (rnumS st) :: A)) := by
  unfold rnum rnumS
  refine Fun.ex (fun w h => rrd_open h) ?_
  rintro ⟨base, c, bs⟩ ⟨hc, hr, hs⟩
  dsimp only at hc hr hs ⊢
  refine Fun.enter Tryz.func69 rfl Tryz.ntmps69 rfl ?_
  refine WC.seq <| WC.region <| sv (vaI rfl) <| WL.nil <| WX.thenN <| WC.seq <| WC.seq <| WC.region <| sv (vmP rfl) <| sv (vnil rfl) <| sv (vfld fl125f1 rfl) <| sv (vldc pl4 rfl) <| WL.nil <| WX.thenN <| ?_
  refine WC.iteb rfl (fun h1 => ?_) (fun h1 => ?_)
  · -- then
    obtain rfl : st = none := by simpa using h1
    exact WC.seq <| WC.region <| sv (vaI rfl) <| WL.nil <| WX.thenN <| WC.ret <| WX.thenR <| WX.ret1 rfl (()) (trivial) rfl (fun w h => rrd_mk hc hr (fun b h => by cases h) h)
  · -- else
    obtain ⟨b, rfl⟩ : ∃ b, st = some b := by cases st <;> simp_all
    obtain rfl := hs b rfl
    have hbl := hb _ rfl
    have hpos := fun p => take_le (bs := bs) (p := p)
    refine WC.skip <| WX.thenN <| WC.seq <| WC.region <| sv (vmP rfl) <| sv (vnil rfl) <| sv (vfld fl125f0 rfl) <| sv (vldc pl23 rfl) <| cl (ref_take (hR := ⟨(hr.mono hBA).cons⟩) hbl) ct93 rfl fun _ _ => sv vmv <| sv (vex rfl rfl) <| sv (vex rfl rfl) <| sv (vaI rfl) <| sv (vaI rfl) <| WL.nil <| WX.thenN <| WC.seq <| WC.seq <| WC.region <| sv (vmI rfl) <| sv (veq rfl rfl) <| WL.nil <| WX.thenN <| ?_
    refine WC.ite rfl (fun h2 => ?_) (fun h2 => ?_)
    · -- then
      have ht : take bs = none := by
        cases ht : take bs with
        | none => rfl
        | some p => have := hpos p ht; simp [ht] at h2; omega
      exact WC.seq <| WC.region <| sv (vmP rfl) <| sv (vnil rfl) <| sv (vfld fl125f1 rfl) <| stc (v := .bool _) pl4 sz4 rfl rfl rfl <| WL.nil <| WX.thenN <| WC.seq <| WC.region <| sv (vaI rfl) <| WL.nil <| WX.thenN <| WC.ret <| WX.thenR <| WX.ret1 rfl (()) (trivial) (by simp only [Option.bind_some, ht]; rfl) (fun w h => rrd_mk hc hr (fun b h => by simp [ht] at h) (by simpa [ht] using h))
    · -- else
      obtain ⟨p, ht⟩ : ∃ p, take bs = some p := by
        cases ht : take bs with
        | none => simp [ht] at h2
        | some p => exact ⟨p, rfl⟩
      have hp := hpos p ht
      simp only [ht, Option.map_some, Option.getD_some, Option.bind_some]
      refine WC.skip <| WX.thenN <| WC.seq <| WC.region <| sv (vmP rfl) <| sv (vmP rfl) <| sv (vnil rfl) <| sv (vfld fl125f0 rfl) <| sv (vldc pl23 rfl) <| sv (vmI rfl) <| sv (vslL Tryz.underlying23 sz5 rfl rfl (by omega) (by omega)) <| sv (vnil rfl) <| sv (vfld fl125f0 rfl) <| stc (v := .slice _ _ _) pl23 sz23 rfl rfl rfl <| WL.nil <| WX.thenN <| WC.seq <| WC.region <| sv (vmI rfl) <| sv (vaI rfl) <| WL.nil <| WX.thenN <| WC.ret <| WX.ret1 rfl (()) (trivial) rfl (fun w h => ?_)
      have hl : bs.length - ((p.2 : Int)).toNat = (bs.drop p.2).length := by simp
      rw [hl] at h
      exact rrd_mk (by simp; omega) (rdC_drop hr p.2 c hc) (fun b h => by cases h; rfl) h
theorem rrd_text {w0 : World} {A B : List HProp} {r : Nat} {st : Option (List UInt8)} (hBA : ∀ w, Own w0 A w → Own w0 B w) (hb : ∀ b, st = some b → b.length ≤ 140737488355328) :
    Fun Tryz.prog w0 70 [.pointer (some ⟨r, 0, none⟩)] (rrd w0 B r st :: A)
      (Ret w0 (fun _ : Unit => True) (fun _ => .string ⟨(((st.bind rtext).map (·.1)).getD []).toArray⟩) (fun _ => rrd w0 B r ((st.bind rtext).map (·.2)) :: A)) := by
  have hN : Fun Tryz.prog w0 69 [.pointer (some ⟨r, 0, none⟩)] (rrd w0 B r st :: A) (Ret w0 (fun _ : Unit => True) (fun _ => .int .i64 (rnum st)) (fun _ => rrd w0 B r (rnumS st) :: A)) := rrd_num hBA hb
  refine Fun.enter Tryz.func70 rfl Tryz.ntmps70 rfl ?_
  refine WC.seq <| WC.region <| sv (vaT rfl) <| WL.nil <| WX.thenN <| WC.seq <| WC.region <| sv (vmP rfl) <| cl (hN) ct69 rfl fun _ _ => ?_
  refine WL.ex (fun w h => rrd_open h) ?_
  rintro ⟨base, c, ds⟩ ⟨hc, hr, hs⟩
  dsimp only at hc hr hs ⊢
  refine sv (vaI rfl) <| WL.nil <| WX.thenN <| WC.seq <| ?_
  refine WC.cut0 [(23, .bool (decide ((rnumS st).isNone = true ∨ rnum st < 0 ∨ (ds.length : Int) < rnum st)))] [(0, .pointer _), (3, .int _ _)] (cel r [.slice base ds.length c, .bool (rnumS st).isNone] 125 :: A) ⟨rfl, rfl, trivial⟩ ?_ fun ρh => ?_
  · -- ref.go:70
    refine WC.region <| sv (vmP rfl) <| sv (vnil rfl) <| sv (vfld fl125f1 rfl) <| svb (vldc pl4 rfl) (fun q1 => ?_) (fun q1 => ?_)
    ·
      exact sv (vmB rfl) <| sng rfl <| sng rfl <| sv (vpkt rfl) <| sv (vmB rfl) <| sng rfl <| sng rfl <| sng rfl <| sng rfl <| sng rfl <| sng rfl <| sng rfl <| sv (vpkt rfl) <| WL.nil <| WX.mid () trivial ⟨bT (.inl q1), trivial⟩ ⟨rfl, rfl, trivial⟩ (fun _ h => h)
    ·
      refine sv (vmB rfl) <| svg rfl (vmI rfl) <| svsg rfl (vlt rfl rfl) (fun q2 => ?_) (fun q2 => ?_)
      ·
        exact sv (vpkf rfl) <| sv (vmB rfl) <| sng rfl <| sng rfl <| sng rfl <| sng rfl <| sng rfl <| sng rfl <| sng rfl <| sv (vpkt rfl) <| WL.nil <| WX.mid () trivial ⟨bT (.inr (.inl q2)), trivial⟩ ⟨rfl, rfl, trivial⟩ (fun _ h => h)
      ·
        exact sv (vpkf rfl) <| sv (vmB rfl) <| svg rfl (vmI rfl) <| svg rfl (vmP rfl) <| svg rfl (vnil rfl) <| svg rfl (vfld fl125f0 rfl) <| svg rfl (vldc pl23 rfl) <| svg rfl (vlen Tryz.underlying23 rfl) <| svg rfl (vgt rfl rfl) <| sv (vpkf rfl) <| WL.nil <| WX.mid () trivial ⟨bI (by simp [q1, q2]), trivial⟩ ⟨rfl, rfl, trivial⟩ (fun _ h => h)
  refine WC.ite rfl (fun h1 => ?_) (fun h1 => ?_)
  · -- then
    have hrt : st.bind rtext = none := by
      cases h : rnumS st with
      | none => exact rt_none h
      | some d => obtain rfl := hs d h; rw [rt_some h, if_pos (by simpa [h] using h1)]
    rw [hrt]
    exact WC.seq <| WC.region <| sv (vmP rfl) <| sv (vnil rfl) <| sv (vfld fl125f1 rfl) <| stc (v := .bool _) pl4 sz4 rfl rfl rfl <| WL.nil <| WX.thenN <| WC.seq <| WC.region <| sv (vaT rfl) <| WL.nil <| WX.thenN <| WC.ret <| WX.thenR <| WX.ret1 rfl (()) (trivial) rfl (fun w h => rrd_mk hc hr (fun b h => by cases h) h)
  · -- else
    obtain ⟨d, hd⟩ : ∃ d, rnumS st = some d := by cases h : rnumS st <;> simp_all
    obtain rfl := hs d hd
    have h1' : ¬ (rnum st < 0 ∨ (ds.length : Int) < rnum st) := fun h => h1 (.inr h)
    rw [rt_some hd, if_neg h1', hd]
    have hlt : (ds.take (rnum st).toNat).length = (rnum st).toNat := by simp; omega
    refine WC.skip <| WX.thenN <| WC.seq <| WC.region <| sv (vmP rfl) <| sv (vnil rfl) <| sv (vfld fl125f0 rfl) <| sv (vldc pl23 rfl) <| sv (vmI rfl) <| sv (vslH Tryz.underlying23 sz5 rfl rfl (by omega) (by omega)) <| sv (vstr Tryz.underlying23 Tryz.underlying5 Tryz.underlying9 rfl (rd_take ((hr.mono hBA).cons) _) hlt.symm) <| sv (vaT rfl) <| WL.nil <| WX.thenN <| WC.seq <| WC.region <| sv (vmP rfl) <| sv (vmP rfl) <| sv (vnil rfl) <| sv (vfld fl125f0 rfl) <| sv (vldc pl23 rfl) <| sv (vmI rfl) <| sv (vslL Tryz.underlying23 sz5 rfl rfl (by omega) (by omega)) <| sv (vnil rfl) <| sv (vfld fl125f0 rfl) <| stc (v := .slice _ _ _) pl23 sz23 rfl rfl rfl <| WL.nil <| WX.thenN <| WC.seq <| WC.region <| sv (vmT rfl) <| sv (vaT rfl) <| WL.nil <| WX.thenN <| WC.ret <| WX.ret1 rfl (()) (trivial) rfl (fun w h => ?_)
    have hl : ds.length - (rnum st).toNat = (ds.drop (rnum st).toNat).length := by simp
    rw [hl] at h
    exact rrd_mk (by simp; omega) (rdC_drop hr _ c hc) (fun b h => by cases h; rfl) h
end Go.Proofs.YthljpljbpbkkcaaGreatDoor
end
section
set_option linter.unusedVariables false
set_option linter.unusedSimpArgs false
namespace Go.Sl
open Go.RowKit

def fla {α : Type} (f : α → List Value) (l : List α) : List Value := l.flatMap f
section
variable {α : Type} {f : α → List Value} {s : Nat} {l m : List α} {i k : Nat} {a b : α} {v : Value}
theorem fla_nil : fla f [] = [] := rfl
theorem fla_cons : fla f (a :: l) = f a ++ fla f l := List.flatMap_cons
theorem fla_single : fla f [a] = f a := by simp [fla]
theorem fla_length (hs : ∀ x, (f x).length = s) : (fla f l).length = l.length * s := flat_len fun x _ => hs x
theorem fla_at (hs : ∀ x, (f x).length = s) (h : l[i]? = some a) (hk : k < s) : (fla f l)[i * s + k]? = (f a)[k]? := by
  obtain ⟨hi, rfl⟩ := List.getElem?_eq_some_iff.1 h
  exact flat_at (fun x _ => hs x) hi hk
theorem fla_at1 (hs : ∀ x, (f x).length = 1) (h : l[i]? = some a) : (fla f l)[i]? = (f a)[0]? := by
  have := fla_at (k := 0) hs h (by omega)
  simpa using this
theorem fla_of (hs : ∀ x, (f x).length = s) (h : l[i]? = some a) : ((fla f l).drop (i * s)).take s = f a := by
  obtain ⟨hi, rfl⟩ := List.getElem?_eq_some_iff.1 h
  exact flat_take (fun x _ => hs x) hi
theorem fla_append : fla f (l ++ m) = fla f l ++ fla f m := by simp [fla]
theorem fla_snoc : fla f (l ++ [a]) = fla f l ++ f a := by rw [fla_append, fla_single]
theorem fla_one (h : ∀ x, ∀ v ∈ f x, v.oneCell' = true) : ∀ v ∈ fla f l, v.oneCell' = true := by
  intro v hv
  obtain ⟨a, _, ha⟩ := List.mem_flatMap.1 hv
  exact h a v ha
theorem fla_drop (hs : ∀ x, (f x).length = s) (i : Nat) : (fla f l).drop (i * s) = fla f (l.drop i) := by
  by_cases hi : i ≤ l.length
  · have h1 : fla f l = fla f (l.take i) ++ fla f (l.drop i) := by rw [← fla_append, List.take_append_drop]
    rw [h1, List.drop_append_of_le_length (by rw [fla_length hs, List.length_take, Nat.min_eq_left hi]; exact Nat.le_refl _), List.drop_eq_nil_of_le (by rw [fla_length hs, List.length_take, Nat.min_eq_left hi]; exact Nat.le_refl _), List.nil_append]
  · have h2 : l.length * s ≤ i * s := Nat.mul_le_mul_right s (by omega)
    rw [List.drop_eq_nil_of_le (by rw [fla_length hs]; exact h2), List.drop_eq_nil_of_le (by omega)]; rfl
theorem fla_take (hs : ∀ x, (f x).length = s) (i : Nat) : (fla f l).take (i * s) = fla f (l.take i) := by
  by_cases hi : i ≤ l.length
  · have h1 : fla f l = fla f (l.take i) ++ fla f (l.drop i) := by rw [← fla_append, List.take_append_drop]
    rw [h1, List.take_left' (by rw [fla_length hs, List.length_take, Nat.min_eq_left hi])]
  · have h2 : l.length * s ≤ i * s := Nat.mul_le_mul_right s (by omega)
    rw [List.take_of_length_le (by rw [fla_length hs]; exact h2), List.take_of_length_le (by omega)]
/-- a struct of the row is put -/
theorem fla_splice (hs : ∀ x, (f x).length = s) (hi : i < l.length) : splice (fla f l) (i * s) (f b) = fla f (l.set i b) := by
  have e : l.set i b = l.take i ++ b :: l.drop (i + 1) := by
    rw [List.set_eq_take_append_cons_drop, if_pos hi]
  rw [e, fla_append, fla_cons]
  unfold splice
  rw [fla_take hs, hs b, show i * s + s = (i + 1) * s from (Nat.succ_mul i s).symm, fla_drop hs, List.append_assoc]
/-- a field of a struct of the row is put -/
theorem fla_set (hs : ∀ x, (f x).length = s) (h : l[i]? = some a) (hk : k < s) (hb : f b = (f a).set k v) : (fla f l).set (i * s + k) v = fla f (l.set i b) := by
  obtain ⟨hi, rfl⟩ := List.getElem?_eq_some_iff.1 h
  rw [← fla_splice hs hi]
  have hl := fla_length (l := l) hs
  have hle : i * s + s ≤ l.length * s := by rw [← Nat.succ_mul]; exact Nat.mul_le_mul_right s hi
  have e1 : fla f l = (fla f l).take (i * s) ++ (f l[i] ++ (fla f l).drop (i * s + s)) := by
    rw [← fla_of hs h, ← List.drop_drop, List.take_append_drop, List.take_append_drop]
  unfold splice
  rw [hs b]
  conv => lhs; rw [e1]
  rw [List.set_append_right _ _ (by rw [List.length_take]; omega), List.length_take, show i * s + k - min (i * s) (fla f l).length = k by omega, List.set_append_left _ _ (by rw [hs]; exact hk), ← hb, List.append_assoc]
end
end Go.Sl
end
section
set_option linter.unusedVariables false
set_option linter.unusedSimpArgs false
namespace Go.Sl
open Go.RowKit
variable {P : Program} {w0 : World} {n : Nat} {ρ : Env} {A : List HProp} {t e : TypeId} {b s : Nat} {vs : List Value}
variable {ι : Type} {pr : ι → Prop} {val : ι → Value} {post : ι → List HProp} {fn : Func}
theorem WX.ret2c {u x : Nat} (hres : fn.results = #[.cell u t, .tmp x]) (ht : aggT P t = true) (hs : sizeT P t s = true) (i : ι) (hp : pr i) (hx : ev n ρ (.tmp u) = .pointer (some ⟨b, 0, none⟩)) [hc : CelAt A b vs e] (hl : vs.length = s) (h0 : 0 < s) (hv : Value.tuple #[.agg vs.toArray, ev n ρ (.tmp x)] = val i) (hA : ∀ w, Own w0 A w → Own w0 (post i) w) : WX w0 n (bodyPost P fn (Ret w0 pr val post)) .ret ρ A :=
  ⟨fun w hw => by
    have h1 := vldac (P := P) (w0 := w0) (dd := none) (T := t) (pos := "") (af := #[]) (g := none) ht hs hx hl h0 w hw
    have hr : (results fn (arr n ρ)).run P w = .ok (.tuple #[.agg vs.toArray, ev n ρ (.tmp x)]) w := by
      have e1 : (arr n ρ).getD u undef = .pointer (some ⟨b, 0, none⟩) := by rw [← hx, ← arr_getD]
      have e3 : (arr n ρ).getD x undef = ev n ρ (.tmp x) := by rw [← arr_getD]
      have h2 : (loadVar t ⟨b, 0, none⟩).run P w = .ok (.agg vs.toArray) w := by
        simp only [execOp, hx, Instr.loadAt, Instr.sureAddr] at h1
        cases hl2 : (loadVar t ⟨b, 0, none⟩).run P w with
        | ok v w' => simp [Sem.run_bind, hl2, Result.andThen] at h1; rw [h1.1, h1.2]
        | halt o w' => simp [Sem.run_bind, hl2, Result.andThen] at h1
      have e2 : (arr n ρ)[u]?.getD undef = .pointer (some ⟨b, 0, none⟩) := by rw [← Array.getD_eq_getD_getElem?]; exact e1
      have e4 : (arr n ρ)[x]?.getD undef = ev n ρ (.tmp x) := by rw [← Array.getD_eq_getD_getElem?]; exact e3
      simp only [results, hres]
      simp [e2, e4, asAddr, Sem.run_bind, h2, Result.andThen]
    exact bodyPost_ret hr rfl ⟨i, hp, by rw [← hv], hA w hw⟩⟩
end Go.Sl
end
