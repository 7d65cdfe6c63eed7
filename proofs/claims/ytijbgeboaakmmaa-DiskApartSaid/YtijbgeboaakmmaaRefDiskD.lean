/-
  Layer 2's reference: Cut.
-/
import Derived.Test.YtijbgeboaakmmaaRefDiskC
set_option linter.unusedVariables false
set_option linter.unusedSimpArgs false
set_option maxRecDepth 4000
namespace Go.Proofs.Ytijbgeboaakmmaa
open Go.Sl Go.RowKit

theorem ref_cut_off {w0 : World} {A : List HProp} {r n c : Nat} {base : Option Addr} {st : DSt} {nm : ByteArray} {m : Int} (ho : st.off = true) :
    Fun Try.prog w0 34 [.pointer (some ⟨r, 0, none⟩), .string nm, .int .i64 m] (cel r (rcells base n c st) 45 :: A) (Ret w0 (fun _ : Unit => True) (fun _ => .int .i64 20) (fun _ => cel r (rcells base n c st) 45 :: A)) := by
  obtain ⟨files, off, fuse, keep0, deeds⟩ := st
  obtain rfl : off = true := ho
  refine Fun.enter Try.func34 rfl Try.ntmps34 rfl ?_
  refine WC.seq <| WC.region <| sv (vaI rfl) <| WL.nil <| WX.thenN <| WC.seq <| WC.seq <| WC.region <| sv (vmP rfl) <| sv (vnil rfl) <| sv (vfld fl45f1 rfl) <| sv (vldc pl4 rfl) <| WL.nil <| WX.thenN <| ?_
  refine WC.tt rfl ?_
  exact WC.seq <| WC.region <| sv (vaI rfl) <| WL.nil <| WX.thenN <| WC.ret <| WX.thenR <| WX.ret1 rfl (()) (trivial) rfl (fun _ h => h)
theorem ref_cut_no {w0 : World} {R : List HProp} {r c : Nat} {base : Option Addr} {st : DSt} {nm : ByteArray} {m : Int} {l : List RF} (hl : l.length ≤ 1099511627776) (ho : st.off = false) (hno : ∀ x ∈ l, x.name ≠ nm) :
    Fun Try.prog w0 34 [.pointer (some ⟨r, 0, none⟩), .string nm, .int .i64 m] (cel r (rcells base l.length c st) 45 :: row base c 3 51 (fcells l) :: R) (Ret w0 (fun _ : Unit => True) (fun _ => .int .i64 21) (fun _ => cel r (rcells base l.length c st) 45 :: row base c 3 51 (fcells l) :: R)) := by
  obtain ⟨files, off, fuse, keep0, deeds⟩ := st
  obtain rfl : off = false := ho
  refine Fun.enter Try.func34 rfl Try.ntmps34 rfl ?_
  refine WC.seq <| WC.region <| sv (vaI rfl) <| WL.nil <| WX.thenN <| WC.seq <| WC.seq <| WC.region <| sv (vmP rfl) <| sv (vnil rfl) <| sv (vfld fl45f1 rfl) <| sv (vldc pl4 rfl) <| WL.nil <| WX.thenN <| ?_
  refine WC.ff rfl ?_
  refine WC.skip <| WX.thenN <| WC.seq <| WC.region <| sv (vmP rfl) <| sv (vmT rfl) <| cl (ref_find_no hl hno) ct44 rfl fun _ _ => sv (vaI rfl) <| WL.nil <| WX.thenN <| WC.seq <| WC.seq <| WC.region <| sv (vmI rfl) <| sv (vlt rfl rfl) <| WL.nil <| WX.thenN <| ?_
  refine WC.ite rfl (fun h2 => ?_) (fun h2 => ?_)
  · -- then
    exact WC.seq <| WC.region <| sv (vaI rfl) <| WL.nil <| WX.thenN <| WC.ret <| WX.thenR <| WX.ret1 rfl (()) (trivial) rfl (fun _ h => h)
  · -- else
    exact absurd (by decide) h2
theorem ref_cut_arg {w0 : World} {R : List HProp} {r c j : Nat} {base : Option Addr} {st : DSt} {m : Int} {l : List RF} {x : RF} (hl : l.length ≤ 1099511627776) (hr : RRep l st) (ho : st.off = false) (hj : l[j]? = some x) (hm : m < 0 ∨ (x.b.xs.length : Int) < m) :
    Fun Try.prog w0 34 [.pointer (some ⟨r, 0, none⟩), .string x.name, .int .i64 m] (cel r (rcells base l.length c st) 45 :: row base c 3 51 (fcells l) :: R) (Ret w0 (fun _ : Unit => True) (fun _ => .int .i64 1) (fun _ => cel r (rcells base l.length c st) 45 :: row base c 3 51 (fcells l) :: R)) := by
  obtain ⟨files, off, fuse, keep0, deeds⟩ := st
  obtain rfl : off = false := ho
  have hjl := (List.getElem?_eq_some_iff.1 hj).1
  have hfl := fcells_length l
  have hpos : 0 < (fcells l).length := by omega
  have hf1 := fc1 hj
  refine Fun.known (fun w h => row_some hpos h.pk1) fun hb => ?_
  refine Fun.enter Try.func34 rfl Try.ntmps34 rfl ?_
  refine WC.seq <| WC.region <| sv (vaI rfl) <| WL.nil <| WX.thenN <| WC.seq <| WC.seq <| WC.region <| sv (vmP rfl) <| sv (vnil rfl) <| sv (vfld fl45f1 rfl) <| sv (vldc pl4 rfl) <| WL.nil <| WX.thenN <| ?_
  refine WC.ff rfl ?_
  refine WC.skip <| WX.thenN <| WC.seq <| WC.region <| sv (vmP rfl) <| sv (vmT rfl) <| cl (ref_find_j hl hr.nodup hj) ct44 rfl fun _ _ => sv (vaI rfl) <| WL.nil <| WX.thenN <| WC.seq <| WC.seq <| WC.region <| sv (vmI rfl) <| sv (vlt rfl rfl) <| WL.nil <| WX.thenN <| ?_
  refine WC.ite rfl (fun h2 => ?_) (fun h2 => ?_)
  · -- then
    omega
  · -- else
    refine WC.skip <| WX.thenN <| WC.seq <| ?_
    refine WC.cut0 [(31, .bool (decide (m < 0 ∨ (x.b.xs.length : Int) < m)))] [(0, .pointer _), (2, .int _ _), (7, .int _ _)] (cel r (rcells base l.length c ⟨files, false, fuse, keep0, deeds⟩) 45 :: row base c 3 51 (fcells l) :: R) ⟨rfl, rfl, rfl, trivial⟩ ?_ fun ρh => ?_
    · -- ref.go:119
      refine WC.region <| sv (vmI rfl) <| svs (vlt rfl rfl) (fun q1 => ?_) (fun q1 => ?_)
      ·
        exact sv (vmB rfl) <| sng rfl <| sng rfl <| sng rfl <| sng rfl <| sng rfl <| sng rfl <| sng rfl <| sng rfl <| sng rfl <| sng rfl <| sng rfl <| sv (vpkt rfl) <| WL.nil <| WX.mid () trivial ⟨bT (by first | omega | simp_all | grind), trivial⟩ ⟨rfl, rfl, rfl, trivial⟩ (fun _ h => h)
      ·
        exact sv (vmB rfl) <| svg rfl (vmI rfl) <| svg rfl (vmP rfl) <| svg rfl (vnil rfl) <| svg rfl (vfld fl45f0 rfl) <| svg rfl (vldc pl43 rfl) <| svg rfl (vmI rfl) <| svg rfl (vix Try.underlying43 sz51 rfl rfl (by omega) (by omega) reads (hpos)) <| svg rfl (vfldr (hb) fl51f1 rfl) <| svg rfl (vldo pl27 rfl reads (hf1)) <| svg rfl (vlen Try.underlying27 rfl) <| svg rfl (vgt rfl rfl) <| sv (vpkf rfl) <| WL.nil <| WX.mid () trivial ⟨bI (by first | omega | simp_all | grind), trivial⟩ ⟨rfl, rfl, rfl, trivial⟩ (fun _ h => h)
    refine WC.ite rfl (fun h3 => ?_) (fun h3 => ?_)
    · -- then
      exact WC.seq <| WC.region <| sv (vaI rfl) <| WL.nil <| WX.thenN <| WC.ret <| WX.thenR <| WX.ret1 rfl (()) (trivial) rfl (fun _ h => h)
    · -- else
      omega
theorem ref_cut_ok {w0 : World} {A : List HProp} {r c j N n : Nat} {base : Option Addr} {st : DSt} {l : List RF} {x : RF} (hN : N ≤ 1099511627776) (hr : RRep l st) (hc : l.length ≤ c ∧ l.length ≤ N) (ho : st.off = false) (hj : l[j]? = some x) (hn : n ≤ x.b.xs.length) (hd : 0 ≤ st.deeds ∧ st.deeds + 1 ≤ 9223372036854775807) :
    Fun Try.prog w0 34 [.pointer (some ⟨r, 0, none⟩), .string x.name, .int .i64 n] (cel r (rcells base l.length c st) 45 :: row base c 3 51 (fcells l) :: rows 5 (l.map (·.b)) :: A)
      (Ret w0 (fun _ : Unit => True) (fun _ => .int .i64 (if st.fuse - 1 = 0 then 20 else 0)) (fun _ => if st.fuse - 1 = 0 then rdisk r N (offS st.keep { st with deeds := st.deeds + 1, fuse := 0 }) :: A
        else rdisk r N { st with deeds := st.deeds + 1, fuse := max (st.fuse - 1) 0, files := putV x.name (x.b.xs.take n, min x.safe n) st.files } :: A)) := by
  obtain ⟨files, off, fuse, keep0, deeds⟩ := st
  obtain rfl : off = false := ho
  have hu := hr.fuse
  dsimp only at hu hd
  have hjl := (List.getElem?_eq_some_iff.1 hj).1
  have hfl := fcells_length l
  have hpos : 0 < (fcells l).length := by omega
  have hf1 := fc1 hj
  have hf2 := fc2 hj
  have hst : ((j : Int)).toNat * 3 + 1 < (fcells l).length := by omega
  have hstb : ((j : Int)).toNat * 3 + 2 < ((fcells l).set (((j : Int)).toNat * 3 + 1) (.slice x.b.base ((n : Int)).toNat x.b.cap)).length := by rw [List.length_set]; omega
  have hf2b : ((fcells l).set (((j : Int)).toNat * 3 + 1) (.slice x.b.base ((n : Int)).toNat x.b.cap))[((j : Int)).toNat * 3 + 2]? = some (.int .i64 x.safe) := by rw [List.getElem?_set_ne (by omega)]; exact hf2
  have hposb : 0 < ((fcells l).set (((j : Int)).toNat * 3 + 1) (.slice x.b.base ((n : Int)).toNat x.b.cap)).length := by rw [List.length_set]; omega
  have hok := hr.ok x (List.mem_of_getElem? hj)
  refine Fun.known (fun w h => row_some hpos h.pk1) fun hb => ?_
  have hbb := hb
  refine Fun.enter Try.func34 rfl Try.ntmps34 rfl ?_
  refine WC.seq <| WC.region <| sv (vaI rfl) <| WL.nil <| WX.thenN <| WC.seq <| WC.seq <| WC.region <| sv (vmP rfl) <| sv (vnil rfl) <| sv (vfld fl45f1 rfl) <| sv (vldc pl4 rfl) <| WL.nil <| WX.thenN <| ?_
  refine WC.ff rfl ?_
  refine WC.skip <| WX.thenN <| WC.seq <| WC.region <| sv (vmP rfl) <| sv (vmT rfl) <| cl (ref_find_j (by omega) hr.nodup hj) ct44 rfl fun _ _ => sv (vaI rfl) <| WL.nil <| WX.thenN <| WC.seq <| WC.seq <| WC.region <| sv (vmI rfl) <| sv (vlt rfl rfl) <| WL.nil <| WX.thenN <| ?_
  refine WC.ite rfl (fun h2 => ?_) (fun h2 => ?_)
  · -- then
    omega
  · -- else
    refine WC.skip <| WX.thenN <| WC.seq <| ?_
    refine WC.cut0 [(31, .bool (decide ((n : Int) < 0 ∨ (x.b.xs.length : Int) < n)))] [(0, .pointer _), (2, .int _ _), (7, .int _ _)] (cel r (rcells base l.length c ⟨files, false, fuse, keep0, deeds⟩) 45 :: row base c 3 51 (fcells l) :: rows 5 (l.map (·.b)) :: A) ⟨rfl, rfl, rfl, trivial⟩ ?_ fun ρh => ?_
    · -- ref.go:119
      refine WC.region <| sv (vmI rfl) <| svs (vlt rfl rfl) (fun q1 => ?_) (fun q1 => ?_)
      ·
        exact sv (vmB rfl) <| sng rfl <| sng rfl <| sng rfl <| sng rfl <| sng rfl <| sng rfl <| sng rfl <| sng rfl <| sng rfl <| sng rfl <| sng rfl <| sv (vpkt rfl) <| WL.nil <| WX.mid () trivial ⟨bT (by first | omega | simp_all | grind), trivial⟩ ⟨rfl, rfl, rfl, trivial⟩ (fun _ h => h)
      ·
        exact sv (vmB rfl) <| svg rfl (vmI rfl) <| svg rfl (vmP rfl) <| svg rfl (vnil rfl) <| svg rfl (vfld fl45f0 rfl) <| svg rfl (vldc pl43 rfl) <| svg rfl (vmI rfl) <| svg rfl (vix Try.underlying43 sz51 rfl rfl (by omega) (by omega) reads (hpos)) <| svg rfl (vfldr (hb) fl51f1 rfl) <| svg rfl (vldo pl27 rfl reads (hf1)) <| svg rfl (vlen Try.underlying27 rfl) <| svg rfl (vgt rfl rfl) <| sv (vpkf rfl) <| WL.nil <| WX.mid () trivial ⟨bI (by first | omega | simp_all | grind), trivial⟩ ⟨rfl, rfl, rfl, trivial⟩ (fun _ h => h)
    refine WC.ite rfl (fun h3 => ?_) (fun h3 => ?_)
    · -- then
      omega
    · -- else
      refine WC.skip <| WX.thenN <| WC.seq <| WC.seq <| WC.region <| sv (vmP rfl) <| cl (ref_deed hu hd) ct45 rfl fun _ _ => WL.nil <| WX.thenN <| ?_
      refine WC.ite rfl (fun h4 => ?_) (fun h4 => ?_)
      · -- then
        simp only [if_pos h4]
        dsimp only at h4
        refine WC.seq <| WC.region <| sv (vmP rfl) <| sv (vmP rfl) <| sv (vnil rfl) <| sv (vfld fl45f3 rfl) <| sv (vldc pl3 rfl) <| pm (fun _ h => rdisk_mk (st := ⟨files, false, max (fuse - 1) 0, keep0, deeds + 1⟩) (hr.same rfl (by dsimp only; omega)) hc h) <| cl (ref_off) ct37 rfl fun _ _ => WL.nil <| WX.thenN <| WC.seq <| WC.region <| sv (vaI rfl) <| WL.nil <| WX.thenN <| WC.ret <| WX.thenR <| WX.ret1 rfl (()) (trivial) rfl (fun w h => ?_)
        have e : max (fuse - 1) 0 = 0 := by omega
        rw [e] at h; exact h
      · -- else
        simp only [if_neg h4]
        refine WC.skip <| WX.thenN <| WC.seq <| WC.plan (.bar [0, 1, 2, 3, 4, 5, 6, 7, 8, 9, 10, 11, 12, 13, 14, 15, 16] 17 (.done [])) rfl (by kernel_rfl) <| WPl.bar (trivial) <| dv (fun g => (vmP rfl)) <| dv (fun g => (vnil rfl)) <| dv (fun g => (vfld fl45f0 rfl)) <| dv (fun g => (vldc pl43 rfl)) <| dv (fun g => (vmI rfl)) <| dv (fun g => (vmP rfl)) <| dv (fun g => (vnil rfl)) <| dv (fun g => (vfld fl45f0 rfl)) <| dv (fun g => (vldc pl43 rfl)) <| dv (fun g => (vmI rfl)) <| dv (fun g => (vix Try.underlying43 sz51 rfl rfl (by omega) (by omega) reads (hpos))) <| dv (fun g => (vfldr (hb) fl51f1 rfl)) <| dv (fun g => (vldo pl27 rfl reads (hf1))) <| dv (fun g => (vmI rfl)) <| dv (fun g => (vslH Try.underlying27 sz5 rfl rfl (by omega) (by omega))) <| dv (fun g => (vix Try.underlying43 sz51 rfl rfl (by omega) (by omega) reads (hpos))) <| dv (fun g => (vfldr (hb) fl51f1 rfl)) <| WD.eff rfl <| pm (fun _ h => h.pk1) <| str (v := .slice _ _ _) pl27 sz27 rfl rfl rfl (hst) <| WL.nil <| WX.brT <| WPl.fin (trivial) <| WD.nil <| WX.thenN <| WC.seq <| WC.plan (.bar [0, 1, 2, 3, 4, 5, 6, 7, 8, 9, 10, 11, 12, 13, 14, 15, 16] 17 (.done [])) rfl (by kernel_rfl) <| WPl.bar (trivial) <| dv (fun g => (vmP rfl)) <| dv (fun g => (vnil rfl)) <| dv (fun g => (vfld fl45f0 rfl)) <| dv (fun g => (vldc pl43 rfl)) <| dv (fun g => (vmI rfl)) <| dv (fun g => (vmP rfl)) <| dv (fun g => (vnil rfl)) <| dv (fun g => (vfld fl45f0 rfl)) <| dv (fun g => (vldc pl43 rfl)) <| dv (fun g => (vmI rfl)) <| dv (fun g => (vix Try.underlying43 sz51 rfl rfl (by omega) (by omega) reads (hposb))) <| dv (fun g => (vfldr (hbb) fl51f2 rfl)) <| dv (fun g => (vldo pl3 rfl reads (hf2b))) <| dv (fun g => (vmI rfl)) <| dv (fun g => (vmin rfl rfl)) <| dv (fun g => (vix Try.underlying43 sz51 rfl rfl (by omega) (by omega) reads (hposb))) <| dv (fun g => (vfldr (hbb) fl51f2 rfl)) <| WD.eff rfl <| str (v := .int _ _) pl3 sz3 rfl rfl rfl (hstb) <| WL.nil <| WX.brT <| WPl.fin (trivial) <| WD.nil <| WX.thenN <| WC.seq <| WC.region <| sv (vaI rfl) <| WL.nil <| WX.thenN <| WC.ret <| WX.ret1 rfl (()) (trivial) rfl (fun w h => ?_)
        have hxl : (x.b.xs.take n).length = n := by rw [List.length_take]; omega
        have e := fcells_set (y := ⟨x.name, ⟨x.b.base, x.b.xs.take n, x.b.cap⟩, min x.safe n⟩) hj rfl
        dsimp only at e
        have em : min (x.safe : Int) (n : Int) = ((min x.safe n : Nat) : Int) := by omega
        rw [hxl] at e
        rw [Int.toNat_natCast, Int.toNat_natCast, em, ← e] at h
        have h1 := (rows_take n (x := x.b) (by rw [List.getElem?_map, hj]; rfl) h.pk2).pk2.pk2.pk1
        refine rdisk_mk (l := l.set j ⟨x.name, ⟨x.b.base, x.b.xs.take n, x.b.cap⟩, min x.safe n⟩) (base := base) (c := c) (hr.put hj rfl ⟨by dsimp only; omega, by dsimp only; omega, by dsimp only; omega⟩ rfl (by dsimp only; omega)) (by rw [List.length_set]; exact hc) ?_
        rw [List.length_set, List.map_set]
        exact h1
theorem ref_cut {w0 : World} {A : List HProp} {r N : Nat} {st : DSt} {nm : ByteArray} {n : Int} (hd : 0 ≤ st.deeds ∧ st.deeds + 1 ≤ 9223372036854775807) (hN : N ≤ 1099511627776) :
    Fun Try.prog w0 34 [.pointer (some ⟨r, 0, none⟩), .string nm, .int .i64 n] (rdisk r N st :: A) (Ret w0 (fun _ : Unit => True) (fun _ => .int .i64 (cutS nm n st).2) (fun _ => rdisk r N (cutS nm n st).1 :: A)) := by
  refine Fun.ex (fun w h => rdisk_open h) ?_
  rintro ⟨base, c, l⟩ ⟨hr, hc⟩
  dsimp only at hr hc ⊢
  by_cases hne : findE nm st = 0
  · obtain ⟨ho, v, hf⟩ := findE_ok hne
    obtain ⟨j, x, hj, rfl, rfl⟩ := hr.at hf
    by_cases hn : n < 0 ∨ (x.b.xs.length : Int) < n
    · have hk : cutS x.name n st = (st, 1) := by unfold cutS; rw [if_neg (by rw [ho]; decide), hf]; dsimp only; rw [if_pos hn]
      rw [hk]
      exact (ref_cut_arg (by omega) hr ho hj hn).mono fun e w ⟨i, hi, he, hO⟩ => ⟨i, hi, he, rdisk_mk hr hc hO⟩
    · obtain ⟨n, rfl⟩ : ∃ k : Nat, n = k := ⟨n.toNat, by omega⟩
      have hk : cutS x.name n st = deedS (putV x.name (x.b.xs.take n, min x.safe n)) id st := by unfold cutS; rw [if_neg (by rw [ho]; decide), hf]; dsimp only; rw [if_neg hn]; rfl
      refine (ref_cut_ok hN hr hc ho hj (by omega) hd).mono fun e w ⟨i, hi, he, hO⟩ => ⟨i, hi, ?_, ?_⟩
      · rw [he, hk]; unfold deedS; split <;> rfl
      · rw [hk]; unfold deedS
        dsimp only at hO
        split at hO
        · rename_i h; rw [if_pos h]; exact hO
        · rename_i h; rw [if_neg h]; exact hO
  · rw [(readS_bad hne).2.2 n]
    unfold findE at hne ⊢
    cases ho : st.off with
    | true =>
      simp only [if_true]
      exact (ref_cut_off ho).mono fun e w ⟨i, hi, he, hO⟩ => ⟨i, hi, he, rdisk_mk hr hc hO⟩
    | false =>
      cases hf : st.files nm with
      | some v => simp [ho, hf] at hne
      | none =>
        simp only [Bool.false_eq_true, if_false, Option.isSome_none]
        exact (ref_cut_no (by omega) ho (hr.no hf)).mono fun e w ⟨i, hi, he, hO⟩ => ⟨i, hi, he, rdisk_mk hr hc hO⟩
end Go.Proofs.Ytijbgeboaakmmaa
