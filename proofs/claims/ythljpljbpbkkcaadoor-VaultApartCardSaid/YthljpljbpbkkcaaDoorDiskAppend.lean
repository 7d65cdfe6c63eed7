/-
  Layer 2's disk: Append.
-/
import Derived.Test.YthljpljbpbkkcaaDoorDiskSync
set_option linter.unusedVariables false
set_option linter.unusedSimpArgs false
set_option maxRecDepth 4000
namespace Go.Proofs.YthljpljbpbkkcaaDoor
open Go.Sl Go.RowKit

theorem set_same {α : Type} {l : List α} {j : Nat} {x : α} (h : l[j]? = some x) : l.set j x = l := by
  apply List.ext_getElem?
  intro i
  rw [List.getElem?_set]
  by_cases hi : j = i
  · subst hi
    rw [if_pos rfl, if_pos (List.getElem?_eq_some_iff.1 h).1, h]
  · rw [if_neg hi]
theorem append_put {w0 : World} {A : List HProp} {d m f v7 v3 v4 v5 c ca safe : Nat} {st : DSt} {nm : ByteArray} {ps ps' : List (Value × Value)} {base ba : Option Addr} {bs b : List UInt8} [hR : Reads w0 A ba (u8s b)]
    (hp : PutE ps (.string nm) (.pointer (some ⟨f, 0, none⟩)) ps') (hc : bs.length ≤ c) (hl : bs.length + b.length ≤ 16777216) :
    Fun Tryd.prog w0 78 [.pointer (some ⟨v7, 0, none⟩), .pointer (some ⟨v3, 0, none⟩), .pointer (some ⟨v4, 0, none⟩), .pointer (some ⟨v5, 0, none⟩)]
      (row base c 1 5 (u8s bs) :: cel f [.slice base bs.length c, .int .i64 safe] 96 :: mp .string m ps :: cel d (dcells m st) 60 :: cel v7 [.pointer (some ⟨f, 0, none⟩)] 92 :: cel v3 [.pointer (some ⟨d, 0, none⟩)] 31 :: cel v4 [.string nm] 9 :: cel v5 [.slice ba b.length ca] 25 :: A)
      (Ret w0 (fun i : Option Addr × Nat => (bs ++ b).length ≤ i.2) (fun _ => .tuple #[]) (fun i => cel f [.slice i.1 (bs ++ b).length i.2, .int .i64 safe] 96 :: row i.1 i.2 1 5 (u8s (bs ++ b)) :: mp .string m ps' :: cel d (dcells m st) 60 :: A)) := by
  refine Fun.enter Tryd.func78 rfl Tryd.ntmps78 rfl ?_
  exact WC.seq <| WC.plan (.bar [0, 1, 2, 3, 4, 5] 6 (.done [])) rfl (by kernel_rfl) <| WPl.bar (trivial) <| dv (fun g => (vldc pl31 rfl)) <| dv (fun g => (vnil rfl)) <| dv (fun g => (vfld fl60f0 rfl)) <| dv (fun g => (vldc pl58 rfl)) <| dv (fun g => (vldc pl9 rfl)) <| dv (fun g => (vldc pl92 rfl)) <| WD.eff rfl <| pm (fun _ h => h.pk2) <| mpu Tryd.underlying58 Tryd.underlying9 rfl rfl rfl trivial hp <| WL.nil <| WX.brT <| WPl.fin (trivial) <| WD.nil <| WX.thenN <| WC.plan (.pre [1, 2, 3, 4, 5] (.one [0] 6 (.bar [7, 8] 9 (.done [])))) rfl (by kernel_rfl) <| WPl.pre (trivial) <| dv (fun g => (vldc pl92 rfl)) <| dv (fun g => (vnil rfl)) <| dv (fun g => (vfld fl96f0 rfl)) <| dv (fun g => (vldc pl25 rfl)) <| dv (fun g => (vldc pl25 rfl)) <| WD.nil <| WPl.one (fun g => g ++ cel f [.slice base bs.length c, .int .i64 safe] 96 :: mp .string m ps' :: cel d (dcells m st) 60 :: cel v7 [.pointer (some ⟨f, 0, none⟩)] 92 :: cel v3 [.pointer (some ⟨d, 0, none⟩)] 31 :: cel v4 [.string nm] 9 :: cel v5 [.slice ba b.length ca] 25 :: A) ([row base c 1 5 (u8s bs)]) (fun _ => trivial) ((own_perm (List.Perm.trans (.swap _ _ _) (.cons _ (.swap _ _ _))))) <| dv (fun g => (vldc pl92 rfl)) <| WD.eff rfl <| pm (fun _ h => h.pk1) <| apb Tryd.underlying25 zt5 rfl rfl rfl rfl reads (by omega) fun base10 c10 hc10 =>WL.nil <| WX.br <| WPl.bar (good_perm [_] (List.Perm.cons _ (.swap _ _ _))) <| dv (fun g => (vnil rfl)) <| dv (fun g => (vfld fl96f0 rfl)) <| WD.eff rfl <| pm (fun _ h => h.pk2) <| stc (v := .slice _ _ _) pl25 sz25 rfl rfl rfl <| WL.nil <| WX.brT <| WPl.fin (trivial) <| WD.nil <| WX.end0 rfl ((base10, c10)) (by rw [List.length_append]; exact hc10) rfl (fun w h => by rw [List.length_append]; exact (h.ix [4, 5, 6, 7, 0, 1, 2, 3]).tail.tail.tail.tail)
theorem append_old {w0 : World} {A : List HProp} {d m v7 v3 v4 v5 ca j : Nat} {st : DSt} {l : List DF} {x : DF} {ba : Option Addr} {b : List UInt8} [hR : Reads w0 A ba (u8s b)] (hj : l[j]? = some x) (hl : x.bs.length + b.length ≤ 16777216) :
    Fun Tryd.prog w0 78 [.pointer (some ⟨v7, 0, none⟩), .pointer (some ⟨v3, 0, none⟩), .pointer (some ⟨v4, 0, none⟩), .pointer (some ⟨v5, 0, none⟩)]
      (cel d (dcells m st) 60 :: cel v7 [.pointer (some ⟨x.ptr, 0, none⟩)] 92 :: cel v5 [.slice ba b.length ca] 25 :: cel v4 [.string x.name] 9 :: cel v3 [.pointer (some ⟨d, 0, none⟩)] 31 :: mp .string m (ents l) :: pfiles l :: A)
      (Ret w0 (fun _ : Unit => True) (fun _ => .tuple #[]) (fun _ => cel d (dcells m st) 60 :: mp .string m (ents (l.set j ⟨x.name, x.ptr, x.bs ++ b, x.safe⟩)) :: pfiles (l.set j ⟨x.name, x.ptr, x.bs ++ b, x.safe⟩) :: A)) := by
  refine Fun.ex (fun w h => pfile_open (pfiles_out hj (h.ix [6, 0, 1, 2, 3, 4, 5]))) ?_
  rintro ⟨base, c⟩ hc
  dsimp only at hc ⊢
  have : Reads w0 (pfiles (l.eraseIdx j) :: A) ba (u8s b) := inferInstance
  refine Fun.mono (Fun.perm (append_put (A := pfiles (l.eraseIdx j) :: A) (safe := x.safe) (.old j _ (ents_at hj)) hc hl) fun w h => h.ix [1, 0, 8, 3, 4, 7, 6, 5, 2]) fun e w ⟨i, hi, he, hO⟩ => ⟨(), trivial, he, ?_⟩
  have h1 := pfile_mk hi hO
  have h2 := pfiles_set (y := ⟨x.name, x.ptr, x.bs ++ b, x.safe⟩) hj (h1.ix [0, 3, 1, 2])
  rw [ents_set (y := ⟨x.name, x.ptr, x.bs ++ b, x.safe⟩) hj rfl rfl]
  have h3 : (ents l).set j (.string x.name, .pointer (some ⟨x.ptr, 0, none⟩)) = ents l := by
    have := ents_at hj
    apply List.ext_getElem?
    intro i
    rw [List.getElem?_set]
    by_cases hi : j = i
    · subst hi
      have hlt := (List.getElem?_eq_some_iff.1 this).1
      rw [if_pos rfl, if_pos hlt, this]
    · rw [if_neg hi]
  rw [← h3]
  exact h2.ix [2, 1, 0]
theorem append_new {w0 : World} {A : List HProp} {d m f v7 v3 v4 v5 ca : Nat} {st : DSt} {l : List DF} {nm : ByteArray} {ba : Option Addr} {b : List UInt8} [hR : Reads w0 A ba (u8s b)] (hn : ∀ x ∈ l, x.name ≠ nm) (hl : b.length ≤ 16777216) :
    Fun Tryd.prog w0 78 [.pointer (some ⟨v7, 0, none⟩), .pointer (some ⟨v3, 0, none⟩), .pointer (some ⟨v4, 0, none⟩), .pointer (some ⟨v5, 0, none⟩)]
      (cel d (dcells m st) 60 :: cel v7 [.pointer (some ⟨f, 0, none⟩)] 92 :: cel f [.slice none 0 0, .int .i64 0] 96 :: cel v5 [.slice ba b.length ca] 25 :: cel v4 [.string nm] 9 :: cel v3 [.pointer (some ⟨d, 0, none⟩)] 31 :: mp .string m (ents l) :: pfiles l :: A)
      (Ret w0 (fun _ : Unit => True) (fun _ => .tuple #[]) (fun _ => cel d (dcells m st) 60 :: mp .string m (ents (l ++ [⟨nm, f, b, 0⟩])) :: pfiles (l ++ [⟨nm, f, b, 0⟩]) :: A)) := by
  have : Reads w0 (pfiles l :: A) ba (u8s b) := inferInstance
  refine Fun.mono (Fun.perm (append_put (A := pfiles l :: A) (bs := []) (base := none) (c := 0) (safe := 0) (.new (ents_no hn)) (by simp) (by simpa using hl)) fun w h => Own.intro_row_nil (h.ix [2, 6, 0, 1, 5, 4, 3, 7])) fun e w ⟨i, hi, he, hO⟩ => ⟨(), trivial, he, ?_⟩
  have h1 := pfile_mk (safe := 0) hi hO
  rw [ents_snoc]
  exact (pfiles_snoc (y := ⟨nm, f, b, 0⟩) (h1.ix [0, 3, 1, 2])).ix [2, 1, 0]
theorem append_go {w0 : World} {A X : List HProp} {d m : Nat} {st : DSt} {l : List DF} {cap : List Value} {F : ByteArray → Option (List UInt8 × Nat)} (hu : 0 ≤ st.fuse ∧ st.fuse ≤ 9223372036854775807) (hd : 0 ≤ st.deeds ∧ st.deeds + 1 ≤ 9223372036854775807)
    (hput : ∀ st', Fun Tryd.prog w0 78 cap (cel d (dcells m st') 60 :: X) (Ret w0 (fun _ : Unit => True) (fun _ => .tuple #[]) (fun _ => cel d (dcells m st') 60 :: mp .string m (ents l) :: pfiles l :: A)))
    (hrep : ∀ st' : DSt, st'.files = F → 0 ≤ st'.fuse ∧ st'.fuse ≤ 9223372036854775807 → Rep l st') :
    Fun Tryd.prog w0 50 [.pointer (some ⟨d, 0, none⟩), .func (.func 78) #[] cap.toArray, .func (.func 78) #[] cap.toArray] (cel d (dcells m st) 60 :: X)
      (Ret w0 (fun _ : Unit => True) (fun _ => .int .i64 (if st.fuse - 1 = 0 then 20 else 0)) (fun _ => if st.fuse - 1 = 0 then pdisk d (offS st.keep { st with deeds := st.deeds + 1, fuse := 0, files := F }) :: A
        else pdisk d { st with deeds := st.deeds + 1, fuse := max (st.fuse - 1) 0, files := F } :: A)) :=
  disk_deed_any hu hd ct78 ct78
    (fun _ => (hput { st with deeds := st.deeds + 1, fuse := max (st.fuse - 1) 0, files := F }).mono fun e w ⟨i, hi, he, hO⟩ => ⟨i, hi, he, pdisk_mk (hrep { st with deeds := st.deeds + 1, fuse := max (st.fuse - 1) 0, files := F } rfl (by dsimp only; omega)) hO⟩)
    (fun _ => hput { st with deeds := st.deeds + 1, fuse := 0, files := F })
    (fun _ => disk_off (st := { st with deeds := st.deeds + 1, fuse := 0, files := F }) (hrep _ rfl (by simp)))
theorem disk_append_off {w0 : World} {A : List HProp} {d m n ca : Nat} {st : DSt} {nm : ByteArray} {ba : Option Addr} (ho : st.off = true) :
    Fun Tryd.prog w0 55 [.pointer (some ⟨d, 0, none⟩), .string nm, .slice ba n ca] (cel d (dcells m st) 60 :: A)
      (Ret w0 (fun _ : Unit => True) (fun _ => .int .i64 20) (fun _ => cel d (dcells m st) 60 :: A)) := by
  unfold dcells
  rw [ho]
  refine Fun.enter Tryd.func55 rfl Tryd.ntmps55 rfl ?_
  refine WC.seq <| WC.region <| bxc (v := .pointer _) (cs := [.pointer _]) rfl rfl fun b1 => bxc (v := .string _) (cs := [.string _]) rfl rfl fun b2 => bxc (v := .slice _ _ _) (cs := [.slice _ _ _]) rfl rfl fun b3 => sv (vaI rfl) <| WL.nil <| WX.thenN <| WC.seq <| WC.block <| WC.seq <| WC.region <| sv (vldc pl31 rfl) <| sv (vpeqF Tryd.underlying31 rfl rfl) <| sv (vaB rfl) <| WL.nil <| WX.thenN <| ?_
  refine WC.ff rfl ?_
  refine WC.seq <| WC.region <| sv (vldc pl31 rfl) <| sv (vnil rfl) <| sv (vfld fl60f1 rfl) <| sv (vldc pl4 rfl) <| sv (vaB rfl) <| WL.nil <| WX.thenN <| ?_
  refine WC.tt rfl ?_
  exact WC.seq <| WC.region <| sv (vaI rfl) <| WL.nil <| WX.thenN <| WC.ret <| WX.blockR <| WX.thenR <| WX.ret1 rfl (()) (trivial) rfl (fun w h => h.tail.tail.tail)
theorem disk_append_name {w0 : World} {A : List HProp} {d m n ca : Nat} {st : DSt} {nm : ByteArray} {ba : Option Addr} (ho : st.off = false) (hs : nm.size ≤ 140737488351232) (hn : ¬ okName nm) :
    Fun Tryd.prog w0 55 [.pointer (some ⟨d, 0, none⟩), .string nm, .slice ba n ca] (cel d (dcells m st) 60 :: A)
      (Ret w0 (fun _ : Unit => True) (fun _ => .int .i64 51) (fun _ => cel d (dcells m st) 60 :: A)) := by
  unfold dcells
  rw [ho]
  have hd : decide (okName nm) = false := by simpa using hn
  refine Fun.enter Tryd.func55 rfl Tryd.ntmps55 rfl ?_
  refine WC.seq <| WC.region <| bxc (v := .pointer _) (cs := [.pointer _]) rfl rfl fun b1 => bxc (v := .string _) (cs := [.string _]) rfl rfl fun b2 => bxc (v := .slice _ _ _) (cs := [.slice _ _ _]) rfl rfl fun b3 => sv (vaI rfl) <| WL.nil <| WX.thenN <| WC.seq <| WC.block <| WC.seq <| WC.region <| sv (vldc pl31 rfl) <| sv (vpeqF Tryd.underlying31 rfl rfl) <| sv (vaB rfl) <| WL.nil <| WX.thenN <| ?_
  refine WC.ff rfl ?_
  refine WC.seq <| WC.region <| sv (vldc pl31 rfl) <| sv (vnil rfl) <| sv (vfld fl60f1 rfl) <| sv (vldc pl4 rfl) <| sv (vaB rfl) <| WL.nil <| WX.thenN <| ?_
  refine WC.ff rfl ?_
  refine WC.seq <| WC.region <| sv (vldc pl9 rfl) <| cl (hd ▸ disk_named hs) ct77 rfl fun u hu => sv (vnot rfl) <| sv (vaB rfl) <| WL.nil <| WX.thenN <| ?_
  refine WC.tt rfl ?_
  exact WC.seq <| WC.region <| sv (vaI rfl) <| WL.nil <| WX.thenN <| WC.ret <| WX.blockR <| WX.thenR <| WX.ret1 rfl (()) (trivial) rfl (fun w h => h.tail.tail.tail)
theorem pm_old {w0 w : World} {A : List HProp} {a b3 b2 b1 d m : HProp} {l : List DF} {j c : Nat} {x : DF} {base : Option Addr} (hj : l[j]? = some x) (hc : x.bs.length ≤ c)
    (h : Own w0 (a :: b3 :: b2 :: b1 :: cel x.ptr [.slice base x.bs.length c, .int .i64 x.safe] 96 :: row base c 1 5 (u8s x.bs) :: pfiles (l.eraseIdx j) :: d :: m :: A) w) : Own w0 (d :: a :: b3 :: b2 :: b1 :: m :: pfiles l :: A) w := by
  have h1 := pfile_mk hc (h.ix [4, 5, 6, 0, 1, 2, 3, 7, 8])
  have h2 := pfiles_set (y := x) hj h1
  rw [set_same hj] at h2
  exact h2.ix [5, 1, 2, 3, 4, 6, 0]
theorem disk_append_old {w0 : World} {A : List HProp} {d m ca j : Nat} {st : DSt} {l : List DF} {x : DF} {ba : Option Addr} {b : List UInt8} [hR : Reads w0 A ba (u8s b)] (hr : Rep l st) (hj : l[j]? = some x) (ho : st.off = false) (hs : x.name.size ≤ 140737488351232) (hn : okName x.name) (hd : 0 ≤ st.deeds ∧ st.deeds + 1 ≤ 9223372036854775807)
    (hb : b.length ≤ 140737488351232) :
    Fun Tryd.prog w0 55 [.pointer (some ⟨d, 0, none⟩), .string x.name, .slice ba b.length ca] (cel d (dcells m st) 60 :: mp .string m (ents l) :: pfiles l :: A)
      (Ret w0 (fun _ : Unit => True) (fun _ => .int .i64 (if x.bs.length + b.length ≤ 16777216 then (if st.fuse - 1 = 0 then 20 else 0) else 2)) (fun _ => if x.bs.length + b.length ≤ 16777216 then (if st.fuse - 1 = 0 then pdisk d (offS st.keep { st with deeds := st.deeds + 1, fuse := 0, files := putV x.name (x.bs ++ b, x.safe) st.files }) :: A
        else pdisk d { st with deeds := st.deeds + 1, fuse := max (st.fuse - 1) 0, files := putV x.name (x.bs ++ b, x.safe) st.files } :: A) else pdisk d st :: A)) := by
  have hdt : decide (okName x.name) = true := by simpa using hn
  obtain ⟨files, off, fuse, keep, deeds⟩ := st
  obtain rfl : off = false := ho
  have hxok := hr.ok x (List.mem_of_getElem? hj)
  dsimp only at hd
  refine Fun.ex (fun w h => pfile_open (pfiles_out hj h.pk2)) ?_
  rintro ⟨base, c⟩ hc
  dsimp only at hc ⊢
  refine Fun.enter Tryd.func55 rfl Tryd.ntmps55 rfl ?_
  refine WC.seq <| WC.region <| bxc (v := .pointer _) (cs := [.pointer _]) rfl rfl fun b1 => bxc (v := .string _) (cs := [.string _]) rfl rfl fun b2 => bxc (v := .slice _ _ _) (cs := [.slice _ _ _]) rfl rfl fun b3 => sv (vaI rfl) <| WL.nil <| WX.thenN <| WC.seq <| WC.block <| WC.seq <| WC.region <| sv (vldc pl31 rfl) <| sv (vpeqF Tryd.underlying31 rfl rfl) <| sv (vaB rfl) <| WL.nil <| WX.thenN <| ?_
  refine WC.ff rfl ?_
  refine WC.seq <| WC.region <| sv (vldc pl31 rfl) <| sv (vnil rfl) <| sv (vfld fl60f1 rfl) <| sv (vldc pl4 rfl) <| sv (vaB rfl) <| WL.nil <| WX.thenN <| ?_
  refine WC.ff rfl ?_
  refine WC.seq <| WC.region <| sv (vldc pl9 rfl) <| cl (hdt ▸ disk_named hs) ct77 rfl fun u hu => sv (vnot rfl) <| sv (vaB rfl) <| WL.nil <| WX.thenN <| ?_
  refine WC.ff rfl ?_
  refine WC.skip <| WX.blockN <| WX.thenN <| WC.seq <| WC.plan (.one [0, 1, 2, 3, 4, 5] 6 (.bar [] 7 (.done []))) rfl (by kernel_rfl) <| WPl.one (fun g => g ++ cel b3 [.slice ba b.length ca] 25 :: cel b2 [.string x.name] 9 :: cel b1 [.pointer (some ⟨d, 0, none⟩)] 31 :: cel x.ptr [.slice base x.bs.length c, .int .i64 x.safe] 96 :: row base c 1 5 (u8s x.bs) :: pfiles (l.eraseIdx j) :: cel d (dcells m ⟨files, false, fuse, keep, deeds⟩) 60 :: mp .string m (ents l) :: A) ([]) (fun _ => trivial) (rfl) <| dv (fun g => (vldc pl31 rfl)) <| dv (fun g => (vnil rfl)) <| dv (fun g => (vfld fl60f0 rfl)) <| dv (fun g => (vldc pl58 rfl)) <| dv (fun g => (vldc pl9 rfl)) <| dv (fun g => (vlk Tryd.underlying58 Tryd.underlying9 rfl rfl trivial (ents_at hj))) <| WD.eff rfl <| alz (cs := [.pointer none]) zt92 (by rfl) fun b14 => WL.nil <| WX.br <| WPl.bar (⟨[_], rfl⟩) <| WD.eff rfl <| stc (v := .pointer _) pl92 sz92 rfl rfl rfl <| WL.nil <| WX.brT <| WPl.fin (trivial) <| WD.nil <| WX.thenN <| WC.seq <| WC.seq <| WC.region <| sv (vldc pl92 rfl) <| sv (vpeqF Tryd.underlying92 rfl rfl) <| WL.nil <| WX.thenN <| ?_
  refine WC.ff rfl ?_
  refine WC.skip <| WX.thenN <| WC.seq <| WC.seq <| WC.draws rfl (by kernel_rfl) <| qv (vldc pl25 rfl) <| qv (vlen Tryd.underlying25 rfl) <| qv (vldc pl92 rfl) <| qv (vnil rfl) <| qv (vfld fl96f0 rfl) <| qv (vldc pl25 rfl) <| qv (vlen Tryd.underlying25 rfl) <| qv (vsub rfl rfl (by omega)) <| qv (vgt rfl rfl) <| WQ.nil <| WX.thenN <| ?_
  refine WC.ite rfl (fun h5 => ?_) (fun h5 => ?_)
  · -- then
    refine WC.seq <| WC.region <| sv (vaI rfl) <| WL.nil <| WX.thenN <| WC.ret <| WX.thenR <| WX.ret1 rfl (()) (trivial) (by rw [if_neg (by omega)]; rfl) (fun w h => ?_)
    have hlt : ¬ x.bs.length + b.length ≤ 16777216 := by omega
    simp only [if_neg hlt]
    have h1 := pfile_mk hc h.tail.tail.tail.tail
    exact pdisk_mk hr ((pfiles_set (y := x) hj h1).ix [1, 2, 0] |> fun h2 => by rw [set_same hj] at h2; exact h2)
  · -- else
    have hlt : x.bs.length + b.length ≤ 16777216 := by omega
    simp only [if_pos hlt]
    exact WC.skip <| WX.thenN <| WC.seq <| WC.region <| sv (vfn rfl) <| sv (vaF rfl) <| WL.nil <| WX.thenN <| WC.seq <| WC.region <| sv (vldc pl31 rfl) <| sv (vmF rfl) <| sv (vmF rfl) <| pm (fun _ h => (pm_old hj hc h)) <| cl (append_go hr.fuse hd (fun st' => append_old hj hlt) (fun st' hf hu => hr.put (y := ⟨x.name, x.ptr, x.bs ++ b, x.safe⟩) hj rfl (by simp only [List.length_append]; omega) hf hu)) ct50 rfl fun u2 hu2 => sv (vaI rfl) <| WL.nil <| WX.thenN <| WC.ret <| WX.ret1 rfl (()) (trivial) rfl (fun _ h => h)
theorem pm_new {w0 w : World} {A : List HProp} {f a b3 b2 b1 d m p : HProp} (h : Own w0 (a :: f :: b3 :: b2 :: b1 :: d :: m :: p :: A) w) : Own w0 (d :: a :: f :: b3 :: b2 :: b1 :: m :: p :: A) w := h.pk5
theorem disk_append_new {w0 : World} {A : List HProp} {d m ca : Nat} {st : DSt} {l : List DF} {nm : ByteArray} {ba : Option Addr} {b : List UInt8} [hR : Reads w0 A ba (u8s b)] (hr : Rep l st) (hno : st.files nm = none) (ho : st.off = false) (hs : nm.size ≤ 140737488351232) (hn : okName nm) (hd : 0 ≤ st.deeds ∧ st.deeds + 1 ≤ 9223372036854775807)
    (hb : b.length ≤ 140737488351232) :
    Fun Tryd.prog w0 55 [.pointer (some ⟨d, 0, none⟩), .string nm, .slice ba b.length ca] (cel d (dcells m st) 60 :: mp .string m (ents l) :: pfiles l :: A)
      (Ret w0 (fun _ : Unit => True) (fun _ => .int .i64 (if b.length ≤ 16777216 then (if st.fuse - 1 = 0 then 20 else 0) else 2)) (fun _ => if b.length ≤ 16777216 then (if st.fuse - 1 = 0 then pdisk d (offS st.keep { st with deeds := st.deeds + 1, fuse := 0, files := putV nm (b, 0) st.files }) :: A
        else pdisk d { st with deeds := st.deeds + 1, fuse := max (st.fuse - 1) 0, files := putV nm (b, 0) st.files } :: A) else pdisk d st :: A)) := by
  have hdt : decide (okName nm) = true := by simpa using hn
  obtain ⟨files, off, fuse, keep, deeds⟩ := st
  obtain rfl : off = false := ho
  dsimp only at hd
  refine Fun.enter Tryd.func55 rfl Tryd.ntmps55 rfl ?_
  refine WC.seq <| WC.region <| bxc (v := .pointer _) (cs := [.pointer _]) rfl rfl fun b1 => bxc (v := .string _) (cs := [.string _]) rfl rfl fun b2 => bxc (v := .slice _ _ _) (cs := [.slice _ _ _]) rfl rfl fun b3 => sv (vaI rfl) <| WL.nil <| WX.thenN <| WC.seq <| WC.block <| WC.seq <| WC.region <| sv (vldc pl31 rfl) <| sv (vpeqF Tryd.underlying31 rfl rfl) <| sv (vaB rfl) <| WL.nil <| WX.thenN <| ?_
  refine WC.ff rfl ?_
  refine WC.seq <| WC.region <| sv (vldc pl31 rfl) <| sv (vnil rfl) <| sv (vfld fl60f1 rfl) <| sv (vldc pl4 rfl) <| sv (vaB rfl) <| WL.nil <| WX.thenN <| ?_
  refine WC.ff rfl ?_
  refine WC.seq <| WC.region <| sv (vldc pl9 rfl) <| cl (hdt ▸ disk_named hs) ct77 rfl fun u hu => sv (vnot rfl) <| sv (vaB rfl) <| WL.nil <| WX.thenN <| ?_
  refine WC.ff rfl ?_
  refine WC.skip <| WX.blockN <| WX.thenN <| WC.seq <| WC.plan (.one [0, 1, 2, 3, 4, 5] 6 (.bar [] 7 (.done []))) rfl (by kernel_rfl) <| WPl.one (fun g => g ++ cel b3 [.slice ba b.length ca] 25 :: cel b2 [.string nm] 9 :: cel b1 [.pointer (some ⟨d, 0, none⟩)] 31 :: cel d (dcells m ⟨files, false, fuse, keep, deeds⟩) 60 :: mp .string m (ents l) :: pfiles l :: A) ([]) (fun _ => trivial) (rfl) <| dv (fun g => (vldc pl31 rfl)) <| dv (fun g => (vnil rfl)) <| dv (fun g => (vfld fl60f0 rfl)) <| dv (fun g => (vldc pl58 rfl)) <| dv (fun g => (vldc pl9 rfl)) <| dv (fun g => (vlkz Tryd.underlying58 Tryd.underlying9 zt92 rfl rfl trivial (ents_no (hr.no hno)))) <| WD.eff rfl <| alz (cs := [.pointer none]) zt92 (by rfl) fun b14 => WL.nil <| WX.br <| WPl.bar (⟨[_], rfl⟩) <| WD.eff rfl <| stc (v := .pointer _) pl92 sz92 rfl rfl rfl <| WL.nil <| WX.brT <| WPl.fin (trivial) <| WD.nil <| WX.thenN <| WC.seq <| WC.seq <| WC.region <| sv (vldc pl92 rfl) <| sv (vpeqT Tryd.underlying92 rfl rfl) <| WL.nil <| WX.thenN <| ?_
  refine WC.tt rfl ?_
  refine WC.region <| sv (vbd (ps := []) (cs := [_, _]) bt96 zt96 rfl (by rfl)) <| bxc (v := .agg _) (cs := [.slice _ _ _, .int _ _]) rfl rfl fun b19 => pm (fun _ h => h.pk1) <| stc (v := .pointer _) pl92 sz92 rfl rfl rfl <| WL.nil <| WX.thenN <| WC.seq <| WC.seq <| WC.draws rfl (by kernel_rfl) <| qv (vldc pl25 rfl) <| qv (vlen Tryd.underlying25 rfl) <| qv (vldc pl92 rfl) <| qv (vnil rfl) <| qv (vfld fl96f0 rfl) <| qv (vldc pl25 rfl) <| qv (vlen Tryd.underlying25 rfl) <| qv (vsub rfl rfl (by omega)) <| qv (vgt rfl rfl) <| WQ.nil <| WX.thenN <| ?_
  refine WC.ite rfl (fun h5 => ?_) (fun h5 => ?_)
  · -- then
    refine WC.seq <| WC.region <| sv (vaI rfl) <| WL.nil <| WX.thenN <| WC.ret <| WX.thenR <| WX.ret1 rfl (()) (trivial) (by rw [if_neg (by omega)]; rfl) (fun w h => ?_)
    have hlt : ¬ b.length ≤ 16777216 := by omega
    simp only [if_neg hlt]
    exact pdisk_mk hr h.tail.tail.tail.tail.tail
  · -- else
    have hlt : b.length ≤ 16777216 := by omega
    simp only [if_pos hlt]
    exact WC.skip <| WX.thenN <| WC.seq <| WC.region <| sv (vfn rfl) <| sv (vaF rfl) <| WL.nil <| WX.thenN <| WC.seq <| WC.region <| sv (vldc pl31 rfl) <| sv (vmF rfl) <| sv (vmF rfl) <| pm (fun _ h => pm_new h) <| cl (append_go hr.fuse hd (fun st' => append_new (hr.no hno) hlt) (fun st' hf hu => hr.add (y := ⟨nm, b19, b, 0⟩) hno (by simp only; omega) hf hu)) ct50 rfl fun u2 hu2 => sv (vaI rfl) <| WL.nil <| WX.thenN <| WC.ret <| WX.ret1 rfl (()) (trivial) rfl (fun _ h => h)
end Go.Proofs.YthljpljbpbkkcaaDoor
