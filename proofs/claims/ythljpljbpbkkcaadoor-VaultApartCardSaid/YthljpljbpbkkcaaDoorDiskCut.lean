/-
  Layer 2's disk: Cut.
-/
import Derived.Test.YthljpljbpbkkcaaDoorDiskRead
set_option linter.unusedVariables false
set_option linter.unusedSimpArgs false
set_option maxRecDepth 4000
namespace Go.Proofs.YthljpljbpbkkcaaDoor
open Go.Sl Go.RowKit

theorem cut_put {w0 : World} {A : List HProp} {f v7 v5 c safe : Nat} {n : Nat} {base : Option Addr} {bs : List UInt8} (hc : bs.length ≤ c) (hn : n ≤ bs.length) (hb : bs.length ≤ 16777216) :
    Fun Tryd.prog w0 51 [.pointer (some ⟨v7, 0, none⟩), .pointer (some ⟨v5, 0, none⟩)] (cel f [.slice base bs.length c, .int .i64 safe] 96 :: cel v7 [.pointer (some ⟨f, 0, none⟩)] 92 :: cel v5 [.int .i64 n] 3 :: A)
      (Ret w0 (fun _ : Unit => True) (fun _ => .tuple #[]) (fun _ => cel f [.slice base n n, .int .i64 (min safe n : Nat)] 96 :: A)) := by
  refine Fun.enter Tryd.func51 rfl Tryd.ntmps51 rfl ?_
  refine WC.plan (.pre [0, 2, 3, 4, 5, 6, 7, 8, 9, 10, 11, 12, 15, 16] (.one [1, 13, 14] 17 (.bar [18, 19] 20 (.done [])))) rfl (by kernel_rfl) <| WPl.pre (trivial) <| dv (fun g => (vldc pl92 rfl)) <| dv (fun g => (vldc pl92 rfl)) <| dv (fun g => (vnil rfl)) <| dv (fun g => (vfld fl96f0 rfl)) <| dv (fun g => (vldc pl25 rfl)) <| dv (fun g => (vldc pl3 rfl)) <| dv (fun g => (vldc pl3 rfl)) <| dv (fun g => (vslHM Tryd.underlying25 sz5 rfl rfl rfl (by omega) (by omega) (by omega))) <| dv (fun g => (vldc pl92 rfl)) <| dv (fun g => (vnil rfl)) <| dv (fun g => (vfld fl96f1 rfl)) <| dv (fun g => (vldc pl3 rfl)) <| dv (fun g => (vnil rfl)) <| dv (fun g => (vfld fl96f0 rfl)) <| WD.nil <| WPl.one (fun g => g ++ cel v7 [.pointer (some ⟨f, 0, none⟩)] 92 :: cel v5 [.int .i64 n] 3 :: A) ([_]) (fun _ => trivial) (rfl) <| dv (fun g => (vldc pl92 rfl)) <| dv (fun g => (vldc pl3 rfl)) <| dv (fun g => (vmin rfl rfl)) <| WD.eff rfl <| stc (v := .slice _ _ _) pl25 sz25 rfl rfl rfl <| WL.nil <| WX.br <| WPl.bar (⟨[_], rfl⟩) <| dv (fun g => (vnil rfl)) <| dv (fun g => (vfld fl96f1 rfl)) <| WD.eff rfl <| stc (v := .int _ _) pl3 sz3 rfl rfl rfl <| WL.nil <| WX.brT <| WPl.fin (trivial) <| WD.nil <| WX.end0 rfl (()) (trivial) rfl (fun w h => ?_)
  have e : min (safe : Int) (n : Int) = ((min safe n : Nat) : Int) := by omega
  rw [Int.toNat_natCast, e] at h
  exact h.pk1.tail.pk1.tail
theorem cut_do {w0 : World} {A : List HProp} {d m v7 v5 j n : Nat} {st st' : DSt} {l : List DF} {x : DF} (hr : Rep l st) (hj : l[j]? = some x) (hn : n ≤ x.bs.length) (hu : 0 ≤ st'.fuse ∧ st'.fuse ≤ 9223372036854775807) (hf : st'.files = putV x.name (x.bs.take n, min x.safe n) st.files) :
    Fun Tryd.prog w0 51 [.pointer (some ⟨v7, 0, none⟩), .pointer (some ⟨v5, 0, none⟩)] (cel d (dcells m st') 60 :: cel v7 [.pointer (some ⟨x.ptr, 0, none⟩)] 92 :: cel v5 [.int .i64 n] 3 :: mp .string m (ents l) :: pfiles l :: A)
      (Ret w0 (fun _ : Unit => True) (fun _ => .tuple #[]) (fun _ => pdisk d st' :: A)) := by
  have hxok := hr.ok x (List.mem_of_getElem? hj)
  refine Fun.ex (fun w h => pfile_open (pfiles_out hj h.pk4)) ?_
  rintro ⟨base, c⟩ hc
  dsimp only at hc ⊢
  refine Fun.mono (Fun.perm (cut_put hc hn hxok.2) fun w h => h.ix [0, 4, 5, 1, 2, 3, 6]) fun e w ⟨i, hi, he, hO⟩ => ⟨i, hi, he, ?_⟩
  have h1 : Own w0 (row base n 1 5 ((u8s x.bs).take (n * 1)) :: cel x.ptr [.slice base n n, .int .i64 (min x.safe n : Nat)] 96 :: pfiles (l.eraseIdx j) :: cel d (dcells m st') 60 :: mp .string m (ents l) :: A) w :=
    Own.row_cut (k := n) (by omega) (by rw [u8s_length]; omega) (hO.ix [1, 0, 2, 3, 4])
  have hbl : (x.bs.take n).length = n := by rw [List.length_take]; omega
  rw [Nat.mul_one, u8s_take] at h1
  have h3 := pfile_mk (f := x.ptr) (bs := x.bs.take n) (safe := min x.safe n) (base := base) (c := n) (by omega) (by rw [hbl]; exact h1.pk1)
  have h2 := pfiles_set (y := ⟨x.name, x.ptr, x.bs.take n, min x.safe n⟩) hj h3
  refine pdisk_mk (m := m) (l := l.set j ⟨x.name, x.ptr, x.bs.take n, min x.safe n⟩) (hr.put hj rfl ⟨by dsimp only; omega, by dsimp only; omega⟩ hf hu) ?_
  rw [ents_set (y := ⟨x.name, x.ptr, x.bs.take n, min x.safe n⟩) hj rfl rfl]
  exact h2.ix [1, 2, 0]
theorem cut_off {w0 : World} {A : List HProp} {d m v v5 : Nat} {st : DSt} {l : List DF} {cs ds : List Value} (hr : Rep l st) :
    Fun Tryd.prog w0 69 [.pointer (some ⟨d, 0, none⟩), .int .i64 st.keep] (cel d (dcells m { st with deeds := st.deeds + 1, fuse := 0 }) 60 :: cel v cs 92 :: cel v5 ds 3 :: mp .string m (ents l) :: pfiles l :: A)
      (Ret w0 (fun _ : Unit => True) (fun _ => .tuple #[]) (fun _ => pdisk d (offS st.keep { st with deeds := st.deeds + 1, fuse := 0 }) :: A)) :=
  Fun.mono (Fun.perm (disk_off (A := cel v cs 92 :: cel v5 ds 3 :: A) (hr.same (st' := { st with deeds := st.deeds + 1, fuse := 0 }) rfl (by simp))) fun w h => h.ix [0, 3, 4, 1, 2]) fun e w ⟨i, hi, he, hO⟩ => ⟨i, hi, he, hO.pk1.tail.pk1.tail⟩
theorem cut_late {w0 : World} {A : List HProp} : Fun Tryd.prog w0 52 [] A (Ret w0 (fun _ : Unit => True) (fun _ => .tuple #[]) (fun _ => A)) := by
  refine Fun.enter Tryd.func52 rfl Tryd.ntmps52 rfl ?_
  exact WC.skip <| WX.end0 rfl (()) (trivial) rfl (fun _ h => h)
theorem disk_cut_bad {w0 : World} {R : List HProp} {d m : Nat} {st : DSt} {nm : ByteArray} {n : Int} {l : List DF} (hr : Rep l st) (hne : findE nm st ≠ 0) :
    Fun Tryd.prog w0 35 [.pointer (some ⟨d, 0, none⟩), .string nm, .int .i64 n] (cel d (dcells m st) 60 :: mp .string m (ents l) :: R)
      (Ret w0 (fun _ : Unit => True) (fun _ => .int .i64 (findE nm st)) (fun _ => cel d (dcells m st) 60 :: mp .string m (ents l) :: R)) := by
  refine Fun.enter Tryd.func35 rfl Tryd.ntmps35 rfl ?_
  refine WC.seq <| WC.region <| bxc (v := .int _ _) (cs := [.int _ _]) rfl rfl fun b1 => sv (vaI rfl) <| WL.nil <| WX.thenN <| WC.seq <| WC.region <| sv (vmP rfl) <| sv (vmT rfl) <| pm (fun _ h => h.pk2.pk2) <| cl (disk_find_bad hr hne) ct47 rfl fun u hu => sv vmv <| sv (vex rfl rfl) <| sv (vex rfl rfl) <| alz (cs := [.pointer none]) zt92 (by rfl) fun b3 => stc (v := .pointer _) pl92 sz92 rfl rfl rfl <| sv (vaI rfl) <| WL.nil <| WX.thenN <| WC.seq <| WC.seq <| WC.region <| sv (vmI rfl) <| sv (vne rfl rfl) <| WL.nil <| WX.thenN <| ?_
  refine WC.ite rfl (fun h1 => ?_) (fun h1 => ?_)
  · -- then
    exact WC.seq <| WC.region <| sv (vmI rfl) <| sv (vaI rfl) <| WL.nil <| WX.thenN <| WC.ret <| WX.thenR <| WX.ret1 rfl (()) (trivial) rfl (fun w h => h.tail.pk2.tail)
  · -- else
    exact absurd h1 (by simpa using hne)
theorem pm_cut {w0 w : World} {A : List HProp} {a b d m : HProp} {l : List DF} {j c : Nat} {x : DF} {base : Option Addr} (hj : l[j]? = some x) (hc : x.bs.length ≤ c)
    (h : Own w0 (a :: d :: m :: b :: cel x.ptr [.slice base x.bs.length c, .int .i64 x.safe] 96 :: row base c 1 5 (u8s x.bs) :: pfiles (l.eraseIdx j) :: A) w) : Own w0 (d :: a :: b :: m :: pfiles l :: A) w := by
  have h1 := pfile_mk hc (h.ix [4, 5, 6, 0, 1, 2, 3])
  have h2 := pfiles_set (y := x) hj h1
  rw [set_same hj] at h2
  exact h2.ix [2, 1, 4, 3, 0]
theorem disk_cut_ok {w0 : World} {A : List HProp} {d m j : Nat} {n : Int} {st : DSt} {l : List DF} {x : DF} (hr : Rep l st) (hj : l[j]? = some x) (ho : st.off = false) (hd : 0 ≤ st.deeds ∧ st.deeds + 1 ≤ 9223372036854775807) (hn : 0 ≤ n ∧ n ≤ x.bs.length) :
    Fun Tryd.prog w0 35 [.pointer (some ⟨d, 0, none⟩), .string x.name, .int .i64 n] (cel d (dcells m st) 60 :: mp .string m (ents l) :: pfiles l :: A)
      (Ret w0 (fun _ : Unit => True) (fun _ => .int .i64 (if st.fuse - 1 = 0 then 20 else 0)) (fun _ => if st.fuse - 1 = 0 then pdisk d (offS st.keep { st with deeds := st.deeds + 1, fuse := 0 }) :: A
        else pdisk d { st with deeds := st.deeds + 1, fuse := max (st.fuse - 1) 0, files := putV x.name (x.bs.take n.toNat, min x.safe n.toNat) st.files } :: A)) := by
  have hxok := hr.ok x (List.mem_of_getElem? hj)
  obtain ⟨n, rfl⟩ : ∃ k : Nat, n = k := ⟨n.toNat, by omega⟩
  rw [Int.toNat_natCast]
  refine Fun.ex (fun w h => pfile_open (pfiles_out hj h.pk2)) ?_
  rintro ⟨base, c⟩ hc
  dsimp only at hc ⊢
  refine Fun.enter Tryd.func35 rfl Tryd.ntmps35 rfl ?_
  refine WC.seq <| WC.region <| bxc (v := .int _ _) (cs := [.int _ _]) rfl rfl fun b1 => sv (vaI rfl) <| WL.nil <| WX.thenN <| WC.seq <| WC.region <| sv (vmP rfl) <| sv (vmT rfl) <| pm (fun _ h => h.pk5.pk5) <| cl (disk_find ho hj) ct47 rfl fun u hu => sv vmv <| sv (vex rfl rfl) <| sv (vex rfl rfl) <| alz (cs := [.pointer none]) zt92 (by rfl) fun b3 => stc (v := .pointer _) pl92 sz92 rfl rfl rfl <| sv (vaI rfl) <| WL.nil <| WX.thenN <| WC.seq <| WC.seq <| WC.region <| sv (vmI rfl) <| sv (vne rfl rfl) <| WL.nil <| WX.thenN <| ?_
  refine WC.ite rfl (fun h1 => ?_) (fun h1 => ?_)
  · -- then
    exact absurd rfl h1
  · -- else
    refine WC.skip <| WX.thenN <| WC.seq <| ?_
    refine WC.cut0 [(28, .bool (decide ((n : Int) < 0 ∨ (x.bs.length : Int) < n)))] [(0, .pointer _), (5, _), (7, _)] (cel b3 [.pointer (some ⟨x.ptr, 0, none⟩)] 92 :: cel d (dcells m st) 60 :: mp .string m (ents l) :: cel b1 [.int .i64 n] 3 :: cel x.ptr [.slice base x.bs.length c, .int .i64 x.safe] 96 :: row base c 1 5 (u8s x.bs) :: pfiles (l.eraseIdx j) :: A) ⟨rfl, rfl, rfl, trivial⟩ ?_ fun ρh => ?_
    · -- disk.go:106
      refine WC.draws rfl (by kernel_rfl) <| qv (vldc pl3 rfl) <| qvs (vlt rfl rfl) (fun q1 => ?_) (fun q1 => ?_)
      ·
        exact qv (vmB rfl) <| qng rfl <| qng rfl <| qng rfl <| qng rfl <| qng rfl <| qng rfl <| qng rfl <| qv (vpkt rfl) <| WQ.nil <| WX.mid () trivial ⟨bT (by first | omega | simp_all | grind), trivial⟩ ⟨rfl, rfl, rfl, trivial⟩ (fun _ h => h)
      ·
        exact qv (vmB rfl) <| qvg rfl (vldc pl3 rfl) <| qvg rfl (vldc pl92 rfl) <| qvg rfl (vnil rfl) <| qvg rfl (vfld fl96f0 rfl) <| qvg rfl (vldc pl25 rfl) <| qvg rfl (vlen Tryd.underlying25 rfl) <| qvg rfl (vgt rfl rfl) <| qv (vpkf rfl) <| WQ.nil <| WX.mid () trivial ⟨bI (by first | omega | simp_all | grind), trivial⟩ ⟨rfl, rfl, rfl, trivial⟩ (fun _ h => h)
    refine WC.ite rfl (fun h2 => ?_) (fun h2 => ?_)
    · -- then
      omega
    · -- else
      exact WC.skip <| WX.thenN <| WC.seq <| WC.region <| sv (vmP rfl) <| sv (vfn rfl) <| pm (fun _ h => (pm_cut hj hc h)) <| cl (disk_deed_any hr.fuse hd ct51 ct52 (fun _ => cut_do (st' := { st with deeds := st.deeds + 1, fuse := max (st.fuse - 1) 0, files := putV x.name (x.bs.take n, min x.safe n) st.files }) hr hj (by omega) (by have := hr.fuse; dsimp only; omega) rfl) (fun _ => cut_late) (fun _ => cut_off hr)) ct50 rfl fun u2 hu2 => sv (vaI rfl) <| WL.nil <| WX.thenN <| WC.ret <| WX.ret1 rfl (()) (trivial) rfl (fun _ h => h)
theorem disk_cut_arg {w0 : World} {A : List HProp} {d m j : Nat} {n : Int} {st : DSt} {l : List DF} {x : DF} (hr : Rep l st) (hj : l[j]? = some x) (ho : st.off = false) (hn : n < 0 ∨ x.bs.length < n) :
    Fun Tryd.prog w0 35 [.pointer (some ⟨d, 0, none⟩), .string x.name, .int .i64 n] (cel d (dcells m st) 60 :: mp .string m (ents l) :: pfiles l :: A)
      (Ret w0 (fun _ : Unit => True) (fun _ => .int .i64 1) (fun _ => pdisk d st :: A)) := by
  have hxok := hr.ok x (List.mem_of_getElem? hj)
  refine Fun.ex (fun w h => pfile_open (pfiles_out hj h.pk2)) ?_
  rintro ⟨base, c⟩ hc
  dsimp only at hc ⊢
  refine Fun.enter Tryd.func35 rfl Tryd.ntmps35 rfl ?_
  refine WC.seq <| WC.region <| bxc (v := .int _ _) (cs := [.int _ _]) rfl rfl fun b1 => sv (vaI rfl) <| WL.nil <| WX.thenN <| WC.seq <| WC.region <| sv (vmP rfl) <| sv (vmT rfl) <| pm (fun _ h => h.pk5.pk5) <| cl (disk_find ho hj) ct47 rfl fun u hu => sv vmv <| sv (vex rfl rfl) <| sv (vex rfl rfl) <| alz (cs := [.pointer none]) zt92 (by rfl) fun b3 => stc (v := .pointer _) pl92 sz92 rfl rfl rfl <| sv (vaI rfl) <| WL.nil <| WX.thenN <| WC.seq <| WC.seq <| WC.region <| sv (vmI rfl) <| sv (vne rfl rfl) <| WL.nil <| WX.thenN <| ?_
  refine WC.ite rfl (fun h1 => ?_) (fun h1 => ?_)
  · -- then
    exact absurd rfl h1
  · -- else
    refine WC.skip <| WX.thenN <| WC.seq <| ?_
    refine WC.cut0 [(28, .bool (decide (n < 0 ∨ (x.bs.length : Int) < n)))] [(0, .pointer _), (5, _), (7, _)] (cel b3 [.pointer (some ⟨x.ptr, 0, none⟩)] 92 :: cel d (dcells m st) 60 :: mp .string m (ents l) :: cel b1 [.int .i64 n] 3 :: cel x.ptr [.slice base x.bs.length c, .int .i64 x.safe] 96 :: row base c 1 5 (u8s x.bs) :: pfiles (l.eraseIdx j) :: A) ⟨rfl, rfl, rfl, trivial⟩ ?_ fun ρh => ?_
    · -- disk.go:106
      refine WC.draws rfl (by kernel_rfl) <| qv (vldc pl3 rfl) <| qvs (vlt rfl rfl) (fun q1 => ?_) (fun q1 => ?_)
      ·
        exact qv (vmB rfl) <| qng rfl <| qng rfl <| qng rfl <| qng rfl <| qng rfl <| qng rfl <| qng rfl <| qv (vpkt rfl) <| WQ.nil <| WX.mid () trivial ⟨bT (by first | omega | simp_all | grind), trivial⟩ ⟨rfl, rfl, rfl, trivial⟩ (fun _ h => h)
      ·
        exact qv (vmB rfl) <| qvg rfl (vldc pl3 rfl) <| qvg rfl (vldc pl92 rfl) <| qvg rfl (vnil rfl) <| qvg rfl (vfld fl96f0 rfl) <| qvg rfl (vldc pl25 rfl) <| qvg rfl (vlen Tryd.underlying25 rfl) <| qvg rfl (vgt rfl rfl) <| qv (vpkf rfl) <| WQ.nil <| WX.mid () trivial ⟨bI (by first | omega | simp_all | grind), trivial⟩ ⟨rfl, rfl, rfl, trivial⟩ (fun _ h => h)
    refine WC.ite rfl (fun h2 => ?_) (fun h2 => ?_)
    · -- then
      exact WC.seq <| WC.region <| sv (vaI rfl) <| WL.nil <| WX.thenN <| WC.ret <| WX.thenR <| WX.ret1 rfl (()) (trivial) rfl (fun w h => pdisk_mk hr ((pm_cut hj hc h).ix [0, 3, 4, 1, 2] |> fun h2 => h2.pk4.tail.pk3.tail))
    · -- else
      omega
theorem disk_cut {w0 : World} {A : List HProp} {d : Nat} {n : Int} {st : DSt} {nm : ByteArray} (hd : 0 ≤ st.deeds ∧ st.deeds + 1 ≤ 9223372036854775807) :
    Fun Tryd.prog w0 35 [.pointer (some ⟨d, 0, none⟩), .string nm, .int .i64 n] (pdisk d st :: A)
      (Ret w0 (fun _ : Unit => True) (fun _ => .int .i64 (cutS nm n st).2) (fun _ => pdisk d (cutS nm n st).1 :: A)) := by
  refine Fun.ex (fun w h => pdisk_open h) ?_
  rintro ⟨m, l⟩ hl
  dsimp only at hl ⊢
  by_cases hne : findE nm st = 0
  · obtain ⟨ho, v, hf⟩ := findE_ok hne
    obtain ⟨j, x, hj, rfl, rfl⟩ := hl.at hf
    by_cases hn : n < 0 ∨ (x.bs.length : Int) < n
    · have hk : cutS x.name n st = (st, 1) := by unfold cutS; rw [if_neg (by rw [ho]; decide), hf]; dsimp only; rw [if_pos hn]
      rw [hk]
      exact disk_cut_arg hl hj ho hn
    · have hk : cutS x.name n st = deedS (putV x.name (x.bs.take n.toNat, min x.safe n.toNat)) id st := by unfold cutS; rw [if_neg (by rw [ho]; decide), hf]; dsimp only; rw [if_neg hn]
      refine (disk_cut_ok hl hj ho hd (by omega)).mono fun e w ⟨i, hi, he, hO⟩ => ⟨i, hi, ?_, ?_⟩
      · rw [he, hk]; unfold deedS; split <;> rfl
      · rw [hk]; unfold deedS
        dsimp only at hO
        split at hO
        · rename_i h; rw [if_pos h]; exact hO
        · rename_i h; rw [if_neg h]; exact hO
  · rw [(readS_bad hne).2.2 n]
    exact (disk_cut_bad hl hne).mono fun e w ⟨i, hi, he, hO⟩ => ⟨i, hi, he, pdisk_mk hl hO⟩
end Go.Proofs.YthljpljbpbkkcaaDoor
