/-
  Layer 2's disk: a deed of any fuse; Sync.
-/
import Derived.Test.YthljpljbpbkkcaaDoorDiskOff
import Derived.Test.YthljpljbpbkkcaaDoorDiskSpecE
set_option linter.unusedVariables false
set_option linter.unusedSimpArgs false
set_option maxRecDepth 4000
namespace Go.Proofs.YthljpljbpbkkcaaDoor
open Go.Sl Go.RowKit

section
variable {w0 : World} {R : List HProp} {d m : Nat} {st : DSt} {fdo fl : FuncId} {capdo capl : List Value} {postdo postl post2 : List HProp}
theorem disk_deed_any (hu : 0 ≤ st.fuse ∧ st.fuse ≤ 9223372036854775807) (hd : 0 ≤ st.deeds ∧ st.deeds + 1 ≤ 9223372036854775807) (hct : callT Tryd.prog fdo = true) (hctl : callT Tryd.prog fl = true)
    (hdo : st.fuse - 1 ≠ 0 → Fun Tryd.prog w0 fdo capdo (cel d (dcells m { st with deeds := st.deeds + 1, fuse := max (st.fuse - 1) 0 }) 60 :: R) (Ret w0 (fun _ : Unit => True) (fun _ => .tuple #[]) (fun _ => postdo)))
    (hlate : st.fuse - 1 = 0 → Fun Tryd.prog w0 fl capl (cel d (dcells m { st with deeds := st.deeds + 1, fuse := 0 }) 60 :: R) (Ret w0 (fun _ : Unit => True) (fun _ => .tuple #[]) (fun _ => cel d (dcells m { st with deeds := st.deeds + 1, fuse := 0 }) 60 :: postl)))
    (hoff : st.fuse - 1 = 0 → Fun Tryd.prog w0 69 [.pointer (some ⟨d, 0, none⟩), .int .i64 st.keep] (cel d (dcells m { st with deeds := st.deeds + 1, fuse := 0 }) 60 :: postl) (Ret w0 (fun _ : Unit => True) (fun _ => .tuple #[]) (fun _ => post2))) :
    Fun Tryd.prog w0 50 [.pointer (some ⟨d, 0, none⟩), .func (.func fdo) #[] capdo.toArray, .func (.func fl) #[] capl.toArray] (cel d (dcells m st) 60 :: R)
      (Ret w0 (fun _ : Unit => True) (fun _ => .int .i64 (if st.fuse - 1 = 0 then 20 else 0)) (fun _ => if st.fuse - 1 = 0 then post2 else postdo)) := by
  by_cases hf : st.fuse - 1 = 0
  · rw [if_pos hf]
    simp only [if_pos hf]
    exact disk_deed_fuse hf (by omega) hctl (hlate hf) (fun _ _ => hoff hf)
  · rw [if_neg hf]
    simp only [if_neg hf]
    exact disk_deed hf (by omega) (by omega) hct (hdo hf)
end
theorem disk_sync_bad {w0 : World} {R : List HProp} {d m : Nat} {st : DSt} {nm : ByteArray} {l : List DF} (hr : Rep l st) (hne : findE nm st ≠ 0) :
    Fun Tryd.prog w0 57 [.pointer (some ⟨d, 0, none⟩), .string nm] (cel d (dcells m st) 60 :: mp .string m (ents l) :: R)
      (Ret w0 (fun _ : Unit => True) (fun _ => .int .i64 (findE nm st)) (fun _ => cel d (dcells m st) 60 :: mp .string m (ents l) :: R)) := by
  refine Fun.enter Tryd.func57 rfl Tryd.ntmps57 rfl ?_
  refine WC.seq <| WC.region <| sv (vaI rfl) <| WL.nil <| WX.thenN <| WC.seq <| WC.region <| sv (vmP rfl) <| sv (vmT rfl) <| cl (disk_find_bad hr hne) ct47 rfl fun u hu => sv vmv <| sv (vex rfl rfl) <| sv (vex rfl rfl) <| alz (cs := [.pointer none]) zt92 (by rfl) fun b2 => stc (v := .pointer _) pl92 sz92 rfl rfl rfl <| sv (vaI rfl) <| WL.nil <| WX.thenN <| WC.seq <| WC.seq <| WC.region <| sv (vmI rfl) <| sv (vne rfl rfl) <| WL.nil <| WX.thenN <| ?_
  refine WC.ite rfl (fun h1 => ?_) (fun h1 => ?_)
  · -- then
    exact WC.seq <| WC.region <| sv (vmI rfl) <| sv (vaI rfl) <| WL.nil <| WX.thenN <| WC.ret <| WX.thenR <| WX.ret1 rfl (()) (trivial) rfl (fun w h => h.tail)
  · -- else
    exact absurd h1 (by simpa using hne)
theorem sync_do {w0 : World} {A : List HProp} {d m v j : Nat} {st st' : DSt} {l : List DF} {x : DF} (hr : Rep l st) (hj : l[j]? = some x) (hu : 0 ≤ st'.fuse ∧ st'.fuse ≤ 9223372036854775807) (hf : st'.files = putV x.name (x.bs, x.bs.length) st.files) :
    Fun Tryd.prog w0 80 [.pointer (some ⟨v, 0, none⟩)] (cel d (dcells m st') 60 :: cel v [.pointer (some ⟨x.ptr, 0, none⟩)] 92 :: mp .string m (ents l) :: pfiles l :: A)
      (Ret w0 (fun _ : Unit => True) (fun _ => .tuple #[]) (fun _ => pdisk d st' :: A)) := by
  refine Fun.ex (fun w h => pfile_open (pfiles_out hj (h.ix [3, 0, 1, 2]))) ?_
  rintro ⟨base, c⟩ hc
  dsimp only at hc ⊢
  refine Fun.mono (Fun.perm disk_sync_do fun w h => h.ix [0, 4, 1, 2, 3, 5]) fun e w ⟨i, hi, he, hO⟩ => ⟨i, hi, he, ?_⟩
  have h1 := pfile_mk (bs := x.bs) (safe := x.bs.length) hc (hO.ix [0, 2, 1, 3, 4, 5])
  have h2 := pfiles_set (y := ⟨x.name, x.ptr, x.bs, x.bs.length⟩) hj (h1.ix [0, 2, 1, 3, 4])
  refine pdisk_mk (m := m) (l := l.set j ⟨x.name, x.ptr, x.bs, x.bs.length⟩) (hr.put hj rfl ⟨Nat.le_refl _, (hr.ok x (List.mem_of_getElem? hj)).2⟩ hf hu) ?_
  rw [ents_set (y := ⟨x.name, x.ptr, x.bs, x.bs.length⟩) hj rfl rfl]
  exact (h2.ix [2, 3, 0, 1]).perm (List.Perm.refl _) |>.ix [3, 0, 1, 2] |>.tail
theorem sync_off {w0 : World} {A : List HProp} {d m v : Nat} {st : DSt} {l : List DF} {cs : List Value} (hr : Rep l st) :
    Fun Tryd.prog w0 69 [.pointer (some ⟨d, 0, none⟩), .int .i64 st.keep] (cel d (dcells m { st with deeds := st.deeds + 1, fuse := 0 }) 60 :: cel v cs 92 :: mp .string m (ents l) :: pfiles l :: A)
      (Ret w0 (fun _ : Unit => True) (fun _ => .tuple #[]) (fun _ => pdisk d (offS st.keep { st with deeds := st.deeds + 1, fuse := 0 }) :: A)) :=
  Fun.mono (Fun.perm (disk_off (A := cel v cs 92 :: A) (hr.same (st' := { st with deeds := st.deeds + 1, fuse := 0 }) rfl (by simp))) fun w h => h.ix [0, 2, 3, 1]) fun e w ⟨i, hi, he, hO⟩ => ⟨i, hi, he, hO.pk1.tail⟩
theorem disk_sync_ok {w0 : World} {A : List HProp} {d m j : Nat} {st : DSt} {l : List DF} {x : DF} (hr : Rep l st) (hj : l[j]? = some x) (ho : st.off = false) (hd : 0 ≤ st.deeds ∧ st.deeds + 1 ≤ 9223372036854775807) :
    Fun Tryd.prog w0 57 [.pointer (some ⟨d, 0, none⟩), .string x.name] (cel d (dcells m st) 60 :: mp .string m (ents l) :: pfiles l :: A)
      (Ret w0 (fun _ : Unit => True) (fun _ => .int .i64 (if st.fuse - 1 = 0 then 20 else 0)) (fun _ => if st.fuse - 1 = 0 then pdisk d (offS st.keep { st with deeds := st.deeds + 1, fuse := 0 }) :: A
        else pdisk d { st with deeds := st.deeds + 1, fuse := max (st.fuse - 1) 0, files := putV x.name (x.bs, x.bs.length) st.files } :: A)) := by
  refine Fun.enter Tryd.func57 rfl Tryd.ntmps57 rfl ?_
  refine WC.seq <| WC.region <| sv (vaI rfl) <| WL.nil <| WX.thenN <| WC.seq <| WC.region <| sv (vmP rfl) <| sv (vmT rfl) <| cl (disk_find ho hj) ct47 rfl fun u hu => sv vmv <| sv (vex rfl rfl) <| sv (vex rfl rfl) <| alz (cs := [.pointer none]) zt92 (by rfl) fun b2 => stc (v := .pointer _) pl92 sz92 rfl rfl rfl <| sv (vaI rfl) <| WL.nil <| WX.thenN <| WC.seq <| WC.seq <| WC.region <| sv (vmI rfl) <| sv (vne rfl rfl) <| WL.nil <| WX.thenN <| ?_
  refine WC.ite rfl (fun h1 => ?_) (fun h1 => ?_)
  · -- then
    exact absurd rfl h1
  · -- else
    exact WC.skip <| WX.thenN <| WC.seq <| WC.region <| sv (vmP rfl) <| sv (vfn rfl) <| pm (fun _ h => h.pk1) <| cl (disk_deed_any hr.fuse hd ct80 ct81 (fun _ => sync_do (st' := { st with deeds := st.deeds + 1, fuse := max (st.fuse - 1) 0, files := putV x.name (x.bs, x.bs.length) st.files }) hr hj (by have := hr.fuse; dsimp only; omega) rfl) (fun _ => disk_sync_late) (fun _ => sync_off hr)) ct50 rfl fun u2 hu2 => sv (vaI rfl) <| WL.nil <| WX.thenN <| WC.ret <| WX.ret1 rfl (()) (trivial) rfl (fun _ h => h)
theorem disk_sync {w0 : World} {A : List HProp} {d : Nat} {st : DSt} {nm : ByteArray} (hd : 0 ≤ st.deeds ∧ st.deeds + 1 ≤ 9223372036854775807) :
    Fun Tryd.prog w0 57 [.pointer (some ⟨d, 0, none⟩), .string nm] (pdisk d st :: A)
      (Ret w0 (fun _ : Unit => True) (fun _ => .int .i64 (syncS nm st).2) (fun _ => pdisk d (syncS nm st).1 :: A)) := by
  refine Fun.ex (fun w h => pdisk_open h) ?_
  rintro ⟨m, l⟩ hl
  dsimp only at hl ⊢
  by_cases hne : findE nm st = 0
  · have ho : st.off = false := by
      cases ho : st.off with
      | false => rfl
      | true => simp [findE, ho] at hne
    cases hf : st.files nm with
    | none => simp [findE, ho, hf] at hne
    | some v =>
      obtain ⟨j, x, hj, rfl, rfl⟩ := hl.at hf
      have hk : syncS x.name st = deedS (putV x.name (x.bs, x.bs.length)) id st := by unfold syncS; rw [if_neg (by rw [ho]; decide), hf]
      refine (disk_sync_ok hl hj ho hd).mono fun e w ⟨i, hi, he, hO⟩ => ⟨i, hi, ?_, ?_⟩
      · rw [he, hk]; unfold deedS; split <;> rfl
      · rw [hk]; unfold deedS
        dsimp only at hO
        split at hO
        · rename_i h; rw [if_pos h]; exact hO
        · rename_i h; rw [if_neg h]; exact hO
  · refine (disk_sync_bad hl hne).mono fun e w ⟨i, hi, he, hO⟩ => ⟨i, hi, ?_, ?_⟩
    · rw [he]; unfold findE at hne ⊢; unfold syncS; split
      · rfl
      · cases hf : st.files nm with
        | none => rfl
        | some v => simp [hf] at hne; simp [hne] at *
    · have : (syncS nm st).1 = st := by
        unfold findE at hne; unfold syncS; split
        · rfl
        · cases hf : st.files nm with
          | none => rfl
          | some v => simp [hf] at hne; simp [hne] at *
      rw [this]; exact pdisk_mk hl hO
end Go.Proofs.YthljpljbpbkkcaaDoor
