/-
  Layer 2's disk: Append as one contract; Read; Cut.
-/
import Derived.Test.YthljpljbpbkkcaaDoorDiskAppend
set_option linter.unusedVariables false
set_option linter.unusedSimpArgs false
set_option maxRecDepth 4000
namespace Go.Proofs.YthljpljbpbkkcaaDoor
open Go.Sl Go.RowKit

def appendV (nm : ByteArray) (b : List UInt8) (f : ByteArray → Option (List UInt8 × Nat)) : List UInt8 × Nat := (((f nm).getD ([], 0)).1 ++ b, ((f nm).getD ([], 0)).2)
def appendS (nm : ByteArray) (b : List UInt8) (st : DSt) : DSt × Int :=
  if st.off then (st, 20) else if ¬ okName nm then (st, 51) else if 16777216 < (appendV nm b st.files).1.length then (st, 2)
  else deedS (fun f => putV nm (appendV nm b f) f) (fun f => putV nm (appendV nm b f) f) st
theorem appendS_eq {nm : ByteArray} {b : List UInt8} {st : DSt} {V : List UInt8 × Nat} {n : Nat} (ho : st.off = false) (hnm : okName nm) (hV : appendV nm b st.files = V) (hn : V.1.length = n) :
    appendS nm b st = if n ≤ 16777216 then (if st.fuse - 1 = 0 then (offS st.keep { st with deeds := st.deeds + 1, fuse := 0, files := putV nm V st.files }, 20) else ({ st with deeds := st.deeds + 1, fuse := max (st.fuse - 1) 0, files := putV nm V st.files }, 0)) else (st, 2) := by
  unfold appendS
  rw [if_neg (by rw [ho]; decide), if_neg (fun h => h hnm)]
  rw [hV, hn]
  by_cases h : n ≤ 16777216
  · rw [if_pos h, if_neg (by omega)]; unfold deedS; dsimp only; rw [hV]
  · rw [if_neg h, if_pos (by omega)]
theorem disk_append {w0 : World} {A : List HProp} {d n ca : Nat} {st : DSt} {nm : ByteArray} {ba : Option Addr} {b : List UInt8} [hR : Reads w0 A ba (u8s b)] (hs : nm.size ≤ 140737488351232) (hd : 0 ≤ st.deeds ∧ st.deeds + 1 ≤ 9223372036854775807) (hb : b.length ≤ 140737488351232) (hn : n = b.length) :
    Fun Tryd.prog w0 55 [.pointer (some ⟨d, 0, none⟩), .string nm, .slice ba n ca] (pdisk d st :: A)
      (Ret w0 (fun _ : Unit => True) (fun _ => .int .i64 (appendS nm b st).2) (fun _ => pdisk d (appendS nm b st).1 :: A)) := by
  subst hn
  refine Fun.ex (fun w h => pdisk_open h) ?_
  rintro ⟨m, l⟩ hl
  dsimp only at hl ⊢
  cases ho : st.off with
  | true =>
    have hk : appendS nm b st = (st, 20) := by unfold appendS; rw [if_pos ho]
    rw [hk]
    exact (disk_append_off ho).mono fun e w ⟨i, hi, he, hO⟩ => ⟨i, hi, he, pdisk_mk hl hO⟩
  | false =>
    have hno : ¬ st.off = true := by rw [ho]; decide
    by_cases hnm : okName nm
    · cases hf : st.files nm with
      | none =>
        have hk := appendS_eq ho hnm (b := b) (V := (b, 0)) (by unfold appendV; rw [hf]; rfl) rfl
        rw [hk]
        refine (disk_append_new (ca := ca) hl hf ho hs hnm hd hb).mono fun e w ⟨i, hi, he, hO⟩ => ⟨i, hi, ?_, ?_⟩
        · rw [he]; split <;> (try split) <;> rfl
        · dsimp only at hO; split <;> (try split) <;> simp_all only [if_true, if_false, not_true, not_false_eq_true]
      | some v =>
        obtain ⟨j, x, hj, rfl, rfl⟩ := hl.at hf
        have hk := appendS_eq ho hnm (b := b) (V := (x.bs ++ b, x.safe)) (n := x.bs.length + b.length) (by unfold appendV; rw [hf]; rfl) (by simp)
        rw [hk]
        refine (disk_append_old (ca := ca) hl hj ho hs hnm hd hb).mono fun e w ⟨i, hi, he, hO⟩ => ⟨i, hi, ?_, ?_⟩
        · rw [he]; split <;> (try split) <;> rfl
        · dsimp only at hO; split <;> (try split) <;> simp_all only [if_true, if_false, not_true, not_false_eq_true]
    · have hk : appendS nm b st = (st, 51) := by unfold appendS; rw [if_neg hno, if_pos hnm]
      rw [hk]
      exact (disk_append_name ho hs hnm).mono fun e w ⟨i, hi, he, hO⟩ => ⟨i, hi, he, pdisk_mk hl hO⟩
theorem madeB (k : Nat) : (madeCells (Value.int .u8 0).cells k).toList = List.replicate k (.int .u8 0) := made_rep rfl k
theorem disk_read_bad {w0 : World} {R : List HProp} {d m : Nat} {st : DSt} {nm : ByteArray} {l : List DF} (hr : Rep l st) (hne : findE nm st ≠ 0) :
    Fun Tryd.prog w0 33 [.pointer (some ⟨d, 0, none⟩), .string nm] (cel d (dcells m st) 60 :: mp .string m (ents l) :: R)
      (Ret w0 (fun _ : Unit => True) (fun _ => .tuple #[.slice none 0 0, .int .i64 (findE nm st)]) (fun _ => cel d (dcells m st) 60 :: mp .string m (ents l) :: R)) := by
  refine Fun.enter Tryd.func33 rfl Tryd.ntmps33 rfl ?_
  refine WC.seq <| WC.region <| sv (vaS rfl) <| sv (vaI rfl) <| WL.nil <| WX.thenN <| WC.seq <| WC.region <| sv (vmP rfl) <| sv (vmT rfl) <| cl (disk_find_bad hr hne) ct47 rfl fun u hu => sv vmv <| sv (vex rfl rfl) <| sv (vex rfl rfl) <| sv (vaP rfl) <| sv (vaI rfl) <| WL.nil <| WX.thenN <| WC.seq <| WC.seq <| WC.region <| sv (vmI rfl) <| sv (vne rfl rfl) <| WL.nil <| WX.thenN <| ?_
  refine WC.ite rfl (fun h1 => ?_) (fun h1 => ?_)
  · -- then
    exact WC.seq <| WC.region <| sv (vmI rfl) <| sv (vaS rfl) <| sv (vaI rfl) <| WL.nil <| WX.thenN <| WC.ret <| WX.thenR <| WX.ret2 rfl (()) (trivial) rfl (fun _ h => h)
  · -- else
    exact absurd h1 (by simpa using hne)
theorem disk_read_ok {w0 : World} {A : List HProp} {d m j : Nat} {st : DSt} {l : List DF} {x : DF} (hr : Rep l st) (hj : l[j]? = some x) (ho : st.off = false) :
    Fun Tryd.prog w0 33 [.pointer (some ⟨d, 0, none⟩), .string x.name] (cel d (dcells m st) 60 :: mp .string m (ents l) :: pfiles l :: A)
      (Ret w0 (fun _ : Nat => True) (fun g => .tuple #[.slice (some ⟨g, 0, none⟩) x.bs.length x.bs.length, .int .i64 0]) (fun g => row (some ⟨g, 0, none⟩) x.bs.length 1 5 (u8s x.bs) :: pdisk d st :: A)) := by
  have hxok := hr.ok x (List.mem_of_getElem? hj)
  refine Fun.enter Tryd.func33 rfl Tryd.ntmps33 rfl ?_
  refine WC.seq <| WC.region <| sv (vaS rfl) <| sv (vaI rfl) <| WL.nil <| WX.thenN <| WC.seq <| WC.region <| sv (vmP rfl) <| sv (vmT rfl) <| cl (disk_find ho hj) ct47 rfl fun u hu => sv vmv <| sv (vex rfl rfl) <| sv (vex rfl rfl) <| sv (vaP rfl) <| sv (vaI rfl) <| WL.nil <| WX.thenN <| WC.seq <| WC.seq <| WC.region <| sv (vmI rfl) <| sv (vne rfl rfl) <| WL.nil <| WX.thenN <| ?_
  refine WC.ite rfl (fun h1 => ?_) (fun h1 => ?_)
  · -- then
    exact absurd rfl h1
  · -- else
    refine cm (fun w h => pfiles_out hj h.pk2) ?_
    refine WC.ex (fun w h => pfile_open h) ?_
    rintro ⟨base, c⟩ hc
    dsimp only at hc ⊢
    refine WC.skip <| WX.thenN <| WC.seq <| WC.region <| sv (vmP rfl) <| sv (vnil rfl) <| sv (vfld fl96f0 rfl) <| sv (vldc pl25 rfl) <| sv (vlen Tryd.underlying25 rfl) <| mk Tryd.underlying25 zt5 rfl rfl (by omega) (by omega) (by omega) (by omega) fun b3 => ?_
    rw [madeB, show ((x.bs.length : Int)).toNat * 1 = x.bs.length by omega]
    refine sv (vaS rfl) <| WL.nil <| WX.thenN <| WC.seq <| WC.region <| sv (vmS rfl) <| sv (vmP rfl) <| sv (vnil rfl) <| sv (vfld fl96f0 rfl) <| sv (vldc pl25 rfl) <| cp sz5 Tryd.underlying25 rfl rfl (reads (vs := u8s x.bs)) (by simp) (u8s_one x.bs) (by simp) <| WL.nil <| WX.thenN <| WC.seq <| WC.region <| sv (vmS rfl) <| sv (vaS rfl) <| sv (vaI rfl) <| WL.nil <| WX.thenN <| WC.ret <| WX.ret2 rfl (b3) (trivial) rfl (fun w h => ?_)
    have e : splice (List.replicate x.bs.length (Value.int .u8 0)) 0 (u8s x.bs) = u8s x.bs := by simp [splice]
    rw [e] at h
    have h1 := pfile_mk hc (h.ix [1, 2, 3, 4, 5, 0])
    have h2 := pfiles_set (y := x) hj h1
    rw [set_same hj] at h2
    exact (pdisk_mk hr (h2.ix [1, 2, 0, 3])).pk1.cel_row (by simp) (by simp only [maxLen]; omega)
theorem readS_bad {nm : ByteArray} {st : DSt} (h : findE nm st ≠ 0) : readS nm st = ([], findE nm st) ∧ syncS nm st = (st, findE nm st) ∧ ∀ n, cutS nm n st = (st, findE nm st) := by
  unfold findE at h ⊢
  unfold readS syncS cutS
  cases ho : st.off with
  | true => simp
  | false =>
    cases hf : st.files nm with
    | none => simp
    | some v => simp [ho, hf] at h
theorem findE_ok {nm : ByteArray} {st : DSt} (h : findE nm st = 0) : st.off = false ∧ ∃ v, st.files nm = some v := by
  unfold findE at h
  cases ho : st.off with
  | true => simp [ho] at h
  | false =>
    cases hf : st.files nm with
    | none => simp [ho, hf] at h
    | some v => exact ⟨rfl, v, rfl⟩
theorem disk_read {w0 : World} {A : List HProp} {d : Nat} {st : DSt} {nm : ByteArray} :
    Fun Tryd.prog w0 33 [.pointer (some ⟨d, 0, none⟩), .string nm] (pdisk d st :: A)
      (Ret w0 (fun i : Option Addr × Nat => (readS nm st).1.length ≤ i.2) (fun i => .tuple #[.slice i.1 (readS nm st).1.length i.2, .int .i64 (readS nm st).2]) (fun i => row i.1 i.2 1 5 (u8s (readS nm st).1) :: pdisk d st :: A)) := by
  refine Fun.ex (fun w h => pdisk_open h) ?_
  rintro ⟨m, l⟩ hl
  dsimp only at hl ⊢
  by_cases hne : findE nm st = 0
  · obtain ⟨ho, v, hf⟩ := findE_ok hne
    obtain ⟨j, x, hj, rfl, rfl⟩ := hl.at hf
    have hk : readS x.name st = (x.bs, 0) := by unfold readS; rw [if_neg (by rw [ho]; decide), hf]
    rw [hk]
    exact (disk_read_ok hl hj ho).mono fun e w ⟨i, hi, he, hO⟩ => ⟨(some ⟨i, 0, none⟩, x.bs.length), Nat.le_refl _, he, hO⟩
  · rw [(readS_bad hne).1]
    exact (disk_read_bad hl hne).mono fun e w ⟨i, hi, he, hO⟩ => ⟨(none, 0), Nat.le_refl _, he, Own.intro_row_nil (pdisk_mk hl hO)⟩
end Go.Proofs.YthljpljbpbkkcaaDoor
