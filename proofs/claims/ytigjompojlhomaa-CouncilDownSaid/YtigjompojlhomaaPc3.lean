/-
  Texts one behind the other: DiskRead, DiskCut, DiskLawA, JournalSpecA, JournalSpecB, JournalOpen, JournalPureC, JournalLawA, JournalLawB, JournalLawC, JournalAllP, CouncilPure, RaftKeepB, RaftSpecA, RaftSpecB, RaftSpecC, RaftSpecD, RaftSpecE, RaftSpecF, RaftTick, RaftAsk.
-/
import Derived.Test.YtigjompojlhomaaPc2
section
set_option linter.unusedVariables false
set_option linter.unusedSimpArgs false
set_option maxRecDepth 4000
namespace Go.Proofs.Ytigjompojlhomaa
open Go.Sl Go.RowKit

def appendV (nm : ByteArray) (b : List UInt8) (f : ByteArray → Option (List UInt8 × Nat)) : List UInt8 × Nat := (((f nm).getD ([], 0)).1 ++ b, ((f nm).getD ([], 0)).2)
def appendS (nm : ByteArray) (b : List UInt8) (st : DSt) : DSt × Int :=
  if st.off then (st, 20) else if ¬ okName nm then (st, 51) else if 16777216 < (appendV nm b st.files).1.length then (st, 2)
  else deedS (fun f => putV nm (appendV nm b f) f) (fun f => putV nm (appendV nm b f) f) st
theorem appendS_eq {nm : ByteArray} {b : List UInt8} {st : DSt} {V : List UInt8 × Nat} {n : Nat} (ho : st.off = false) (hnm : okName nm) (hV : appendV nm b st.files = V) (hn : V.1.length = n) :
    appendS nm b st = if n ≤ 16777216 then (if st.fuse - 1 = 0 then (offS st.keep { st with deeds := st.deeds + 1, fuse := 0, files := putV nm V st.files }, 20) else ({ st with deeds := st.deeds + 1, fuse := max (st.fuse - 1) 0, files := putV nm V st.files }, 0)) else (st, 2) := by
  unfold appendS
  rw [if_neg (by rw [ho]; decide), if_neg (fun h => h hnm)]
  rw [hV, hn]
  by_cases h : n ≤ 16777216
  · rw [if_pos h, if_neg (by omega)]; unfold deedS; dsimp only; rw [hV]
  · rw [if_neg h, if_pos (by omega)]
theorem disk_append {w0 : World} {A : List HProp} {d n ca : Nat} {st : DSt} {nm : ByteArray} {ba : Option Addr} {b : List UInt8} [hR : Reads w0 A ba (u8s b)] (hs : nm.size ≤ 140737488351232) (hd : 0 ≤ st.deeds ∧ st.deeds + 1 ≤ 9223372036854775807) (hb : b.length ≤ 140737488351232) (hn : n = b.length) :
    Fun Try.prog w0 54 [.pointer (some ⟨d, 0, none⟩), .string nm, .slice ba n ca] (pdisk d st :: A)
      (Ret w0 (fun _ : Unit => True) (fun _ => .int .i64 (appendS nm b st).2) (fun _ => pdisk d (appendS nm b st).1 :: A)) := by
  subst hn
  refine Fun.ex (fun w h => pdisk_open h) ?_
  rintro ⟨m, l⟩ hl
  dsimp only at hl ⊢
  cases ho : st.off with
  | true =>
    have hk : appendS nm b st = (st, 20) := by unfold appendS; rw [if_pos ho]
    rw [hk]
    exact (disk_append_off ho).mono fun e w ⟨i, hi, he, hO⟩ => ⟨i, hi, he, pdisk_mk hl hO⟩
  | false =>
    have hno : ¬ st.off = true := by rw [ho]; decide
    by_cases hnm : okName nm
    · cases hf : st.files nm with
      | none =>
        have hk := appendS_eq ho hnm (b := b) (V := (b, 0)) (by unfold appendV; rw [hf]; rfl) rfl
        rw [hk]
        refine (disk_append_new (ca := ca) hl hf ho hs hnm hd hb).mono fun e w ⟨i, hi, he, hO⟩ => ⟨i, hi, ?_, ?_⟩
        · rw [he]; split <;> (try split) <;> rfl
        · dsimp only at hO; split <;> (try split) <;> simp_all only [if_true, if_false, not_true, not_false_eq_true]
      | some v =>
        obtain ⟨j, x, hj, rfl, rfl⟩ := hl.at hf
        have hk := appendS_eq ho hnm (b := b) (V := (x.bs ++ b, x.safe)) (n := x.bs.length + b.length) (by unfold appendV; rw [hf]; rfl) (by simp)
        rw [hk]
        refine (disk_append_old (ca := ca) hl hj ho hs hnm hd hb).mono fun e w ⟨i, hi, he, hO⟩ => ⟨i, hi, ?_, ?_⟩
        · rw [he]; split <;> (try split) <;> rfl
        · dsimp only at hO; split <;> (try split) <;> simp_all only [if_true, if_false, not_true, not_false_eq_true]
    · have hk : appendS nm b st = (st, 51) := by unfold appendS; rw [if_neg hno, if_pos hnm]
      rw [hk]
      exact (disk_append_name ho hs hnm).mono fun e w ⟨i, hi, he, hO⟩ => ⟨i, hi, he, pdisk_mk hl hO⟩
theorem madeB (k : Nat) : (madeCells (Value.int .u8 0).cells k).toList = List.replicate k (.int .u8 0) := made_rep rfl k
theorem disk_read_bad {w0 : World} {R : List HProp} {d m : Nat} {st : DSt} {nm : ByteArray} {l : List DF} (hr : Rep l st) (hne : findE nm st ≠ 0) :
    Fun Try.prog w0 49 [.pointer (some ⟨d, 0, none⟩), .string nm] (cel d (dcells m st) 90 :: mp .string m (ents l) :: R)
      (Ret w0 (fun _ : Unit => True) (fun _ => .tuple #[.slice none 0 0, .int .i64 (findE nm st)]) (fun _ => cel d (dcells m st) 90 :: mp .string m (ents l) :: R)) := by
  refine Fun.enter Try.func49 rfl Try.ntmps49 rfl ?_
  refine WC.seq <| WC.region <| sv (vaS rfl) <| sv (vaI rfl) <| WL.nil <| WX.thenN <| WC.seq <| WC.region <| sv (vmP rfl) <| sv (vmT rfl) <| cl (disk_find_bad hr hne) ct59 rfl fun u hu => sv vmv <| sv (vex rfl rfl) <| sv (vex rfl rfl) <| sv (vaP rfl) <| sv (vaI rfl) <| WL.nil <| WX.thenN <| WC.seq <| WC.seq <| WC.region <| sv (vmI rfl) <| sv (vne rfl rfl) <| WL.nil <| WX.thenN <| ?_
  refine WC.ite rfl (fun h1 => ?_) (fun h1 => ?_)
  · -- then
    exact WC.seq <| WC.region <| sv (vmI rfl) <| sv (vaS rfl) <| sv (vaI rfl) <| WL.nil <| WX.thenN <| WC.ret <| WX.thenR <| WX.ret2 rfl (()) (trivial) rfl (fun _ h => h)
  · -- else
    exact absurd h1 (by simpa using hne)
theorem disk_read_ok {w0 : World} {A : List HProp} {d m j : Nat} {st : DSt} {l : List DF} {x : DF} (hr : Rep l st) (hj : l[j]? = some x) (ho : st.off = false) :
    Fun Try.prog w0 49 [.pointer (some ⟨d, 0, none⟩), .string x.name] (cel d (dcells m st) 90 :: mp .string m (ents l) :: pfiles l :: A)
      (Ret w0 (fun _ : Nat => True) (fun g => .tuple #[.slice (some ⟨g, 0, none⟩) x.bs.length x.bs.length, .int .i64 0]) (fun g => row (some ⟨g, 0, none⟩) x.bs.length 1 5 (u8s x.bs) :: pdisk d st :: A)) := by
  have hxok := hr.ok x (List.mem_of_getElem? hj)
  refine Fun.enter Try.func49 rfl Try.ntmps49 rfl ?_
  refine WC.seq <| WC.region <| sv (vaS rfl) <| sv (vaI rfl) <| WL.nil <| WX.thenN <| WC.seq <| WC.region <| sv (vmP rfl) <| sv (vmT rfl) <| cl (disk_find ho hj) ct59 rfl fun u hu => sv vmv <| sv (vex rfl rfl) <| sv (vex rfl rfl) <| sv (vaP rfl) <| sv (vaI rfl) <| WL.nil <| WX.thenN <| WC.seq <| WC.seq <| WC.region <| sv (vmI rfl) <| sv (vne rfl rfl) <| WL.nil <| WX.thenN <| ?_
  refine WC.ite rfl (fun h1 => ?_) (fun h1 => ?_)
  · -- then
    exact absurd rfl h1
  · -- else
    refine cm (fun w h => pfiles_out hj h.pk2) ?_
    refine WC.ex (fun w h => pfile_open h) ?_
    rintro ⟨base, c⟩ hc
    dsimp only at hc ⊢
    refine WC.skip <| WX.thenN <| WC.seq <| WC.region <| sv (vmP rfl) <| sv (vnil rfl) <| sv (vfld fl112f0 rfl) <| sv (vldc pl94 rfl) <| sv (vlen Try.underlying94 rfl) <| mk Try.underlying94 zt5 rfl rfl (by omega) (by omega) (by omega) (by omega) fun b3 => ?_
    rw [madeB, show ((x.bs.length : Int)).toNat * 1 = x.bs.length by omega]
    refine sv (vaS rfl) <| WL.nil <| WX.thenN <| WC.seq <| WC.region <| sv (vmS rfl) <| sv (vmP rfl) <| sv (vnil rfl) <| sv (vfld fl112f0 rfl) <| sv (vldc pl94 rfl) <| cp sz5 Try.underlying94 rfl rfl (reads (vs := u8s x.bs)) (by simp) (u8s_one x.bs) (by simp) <| WL.nil <| WX.thenN <| WC.seq <| WC.region <| sv (vmS rfl) <| sv (vaS rfl) <| sv (vaI rfl) <| WL.nil <| WX.thenN <| WC.ret <| WX.ret2 rfl (b3) (trivial) rfl (fun w h => ?_)
    have e : splice (List.replicate x.bs.length (Value.int .u8 0)) 0 (u8s x.bs) = u8s x.bs := by simp [splice]
    rw [e] at h
    have h1 := pfile_mk hc (h.ix [1, 2, 3, 4, 5, 0])
    have h2 := pfiles_set (y := x) hj h1
    rw [set_same hj] at h2
    exact (pdisk_mk hr (h2.ix [1, 2, 0, 3])).pk1.cel_row (by simp) (by simp only [maxLen]; omega)
theorem readS_bad {nm : ByteArray} {st : DSt} (h : findE nm st ≠ 0) : readS nm st = ([], findE nm st) ∧ syncS nm st = (st, findE nm st) ∧ ∀ n, cutS nm n st = (st, findE nm st) := by
  unfold findE at h ⊢
  unfold readS syncS cutS
  cases ho : st.off with
  | true => simp
  | false =>
    cases hf : st.files nm with
    | none => simp
    | some v => simp [ho, hf] at h
theorem findE_ok {nm : ByteArray} {st : DSt} (h : findE nm st = 0) : st.off = false ∧ ∃ v, st.files nm = some v := by
  unfold findE at h
  cases ho : st.off with
  | true => simp [ho] at h
  | false =>
    cases hf : st.files nm with
    | none => simp [ho, hf] at h
    | some v => exact ⟨rfl, v, rfl⟩
theorem disk_read {w0 : World} {A : List HProp} {d : Nat} {st : DSt} {nm : ByteArray} :
    Fun Try.prog w0 49 [.pointer (some ⟨d, 0, none⟩), .string nm] (pdisk d st :: A)
      (Ret w0 (fun i : Option Addr × Nat => (readS nm st).1.length ≤ i.2) (fun i => .tuple #[.slice i.1 (readS nm st).1.length i.2, .int .i64 (readS nm st).2]) (fun i => row i.1 i.2 1 5 (u8s (readS nm st).1) :: pdisk d st :: A)) := by
  refine Fun.ex (fun w h => pdisk_open h) ?_
  rintro ⟨m, l⟩ hl
  dsimp only at hl ⊢
  by_cases hne : findE nm st = 0
  · obtain ⟨ho, v, hf⟩ := findE_ok hne
    obtain ⟨j, x, hj, rfl, rfl⟩ := hl.at hf
    have hk : readS x.name st = (x.bs, 0) := by unfold readS; rw [if_neg (by rw [ho]; decide), hf]
    rw [hk]
    exact (disk_read_ok hl hj ho).mono fun e w ⟨i, hi, he, hO⟩ => ⟨(some ⟨i, 0, none⟩, x.bs.length), Nat.le_refl _, he, hO⟩
  · rw [(readS_bad hne).1]
    exact (disk_read_bad hl hne).mono fun e w ⟨i, hi, he, hO⟩ => ⟨(none, 0), Nat.le_refl _, he, Own.intro_row_nil (pdisk_mk hl hO)⟩
end Go.Proofs.Ytigjompojlhomaa
end
section
set_option linter.unusedVariables false
set_option linter.unusedSimpArgs false
set_option maxRecDepth 4000
namespace Go.Proofs.Ytigjompojlhomaa
open Go.Sl Go.RowKit

theorem cut_put {w0 : World} {A : List HProp} {f v7 v5 c safe : Nat} {n : Nat} {base : Option Addr} {bs : List UInt8} (hc : bs.length ≤ c) (hn : n ≤ bs.length) (hb : bs.length ≤ 16777216) :
    Fun Try.prog w0 63 [.pointer (some ⟨v7, 0, none⟩), .pointer (some ⟨v5, 0, none⟩)] (cel f [.slice base bs.length c, .int .i64 safe] 112 :: cel v7 [.pointer (some ⟨f, 0, none⟩)] 110 :: cel v5 [.int .i64 n] 3 :: A)
      (Ret w0 (fun _ : Unit => True) (fun _ => .tuple #[]) (fun _ => cel f [.slice base n n, .int .i64 (min safe n : Nat)] 112 :: A)) := by
  refine Fun.enter Try.func63 rfl Try.ntmps63 rfl ?_
  refine WC.plan (.pre [0, 2, 3, 4, 5, 6, 7, 8, 9, 10, 11, 12, 15, 16] (.one [1, 13, 14] 17 (.bar [18, 19] 20 (.done [])))) rfl (by kernel_rfl) <| WPl.pre (trivial) <| dv (fun g => (vldc pl110 rfl)) <| dv (fun g => (vldc pl110 rfl)) <| dv (fun g => (vnil rfl)) <| dv (fun g => (vfld fl112f0 rfl)) <| dv (fun g => (vldc pl94 rfl)) <| dv (fun g => (vldc pl3 rfl)) <| dv (fun g => (vldc pl3 rfl)) <| dv (fun g => (vslHM Try.underlying94 sz5 rfl rfl rfl (by omega) (by omega) (by omega))) <| dv (fun g => (vldc pl110 rfl)) <| dv (fun g => (vnil rfl)) <| dv (fun g => (vfld fl112f1 rfl)) <| dv (fun g => (vldc pl3 rfl)) <| dv (fun g => (vnil rfl)) <| dv (fun g => (vfld fl112f0 rfl)) <| WD.nil <| WPl.one (fun g => g ++ cel v7 [.pointer (some ⟨f, 0, none⟩)] 110 :: cel v5 [.int .i64 n] 3 :: A) ([_]) (fun _ => trivial) (rfl) <| dv (fun g => (vldc pl110 rfl)) <| dv (fun g => (vldc pl3 rfl)) <| dv (fun g => (vmin rfl rfl)) <| WD.eff rfl <| stc (v := .slice _ _ _) pl94 sz94 rfl rfl rfl <| WL.nil <| WX.br <| WPl.bar (⟨[_], rfl⟩) <| dv (fun g => (vnil rfl)) <| dv (fun g => (vfld fl112f1 rfl)) <| WD.eff rfl <| stc (v := .int _ _) pl3 sz3 rfl rfl rfl <| WL.nil <| WX.brT <| WPl.fin (trivial) <| WD.nil <| WX.end0 rfl (()) (trivial) rfl (fun w h => ?_)
  have e : min (safe : Int) (n : Int) = ((min safe n : Nat) : Int) := by omega
  rw [Int.toNat_natCast, e] at h
  exact h.pk1.tail.pk1.tail
theorem cut_do {w0 : World} {A : List HProp} {d m v7 v5 j n : Nat} {st st' : DSt} {l : List DF} {x : DF} (hr : Rep l st) (hj : l[j]? = some x) (hn : n ≤ x.bs.length) (hu : 0 ≤ st'.fuse ∧ st'.fuse ≤ 9223372036854775807) (hf : st'.files = putV x.name (x.bs.take n, min x.safe n) st.files) :
    Fun Try.prog w0 63 [.pointer (some ⟨v7, 0, none⟩), .pointer (some ⟨v5, 0, none⟩)] (cel d (dcells m st') 90 :: cel v7 [.pointer (some ⟨x.ptr, 0, none⟩)] 110 :: cel v5 [.int .i64 n] 3 :: mp .string m (ents l) :: pfiles l :: A)
      (Ret w0 (fun _ : Unit => True) (fun _ => .tuple #[]) (fun _ => pdisk d st' :: A)) := by
  have hxok := hr.ok x (List.mem_of_getElem? hj)
  refine Fun.ex (fun w h => pfile_open (pfiles_out hj h.pk4)) ?_
  rintro ⟨base, c⟩ hc
  dsimp only at hc ⊢
  refine Fun.mono (Fun.perm (cut_put hc hn hxok.2) fun w h => h.ix [0, 4, 5, 1, 2, 3, 6]) fun e w ⟨i, hi, he, hO⟩ => ⟨i, hi, he, ?_⟩
  have h1 : Own w0 (row base n 1 5 ((u8s x.bs).take (n * 1)) :: cel x.ptr [.slice base n n, .int .i64 (min x.safe n : Nat)] 112 :: pfiles (l.eraseIdx j) :: cel d (dcells m st') 90 :: mp .string m (ents l) :: A) w :=
    Own.row_cut (k := n) (by omega) (by rw [u8s_length]; omega) (hO.ix [1, 0, 2, 3, 4])
  have hbl : (x.bs.take n).length = n := by rw [List.length_take]; omega
  rw [Nat.mul_one, u8s_take] at h1
  have h3 := pfile_mk (f := x.ptr) (bs := x.bs.take n) (safe := min x.safe n) (base := base) (c := n) (by omega) (by rw [hbl]; exact h1.pk1)
  have h2 := pfiles_set (y := ⟨x.name, x.ptr, x.bs.take n, min x.safe n⟩) hj h3
  refine pdisk_mk (m := m) (l := l.set j ⟨x.name, x.ptr, x.bs.take n, min x.safe n⟩) (hr.put hj rfl ⟨by dsimp only; omega, by dsimp only; omega⟩ hf hu) ?_
  rw [ents_set (y := ⟨x.name, x.ptr, x.bs.take n, min x.safe n⟩) hj rfl rfl]
  exact h2.ix [1, 2, 0]
theorem cut_off {w0 : World} {A : List HProp} {d m v v5 : Nat} {st : DSt} {l : List DF} {cs ds : List Value} (hr : Rep l st) :
    Fun Try.prog w0 32 [.pointer (some ⟨d, 0, none⟩), .int .i64 st.keep] (cel d (dcells m { st with deeds := st.deeds + 1, fuse := 0 }) 90 :: cel v cs 110 :: cel v5 ds 3 :: mp .string m (ents l) :: pfiles l :: A)
      (Ret w0 (fun _ : Unit => True) (fun _ => .tuple #[]) (fun _ => pdisk d (offS st.keep { st with deeds := st.deeds + 1, fuse := 0 }) :: A)) :=
  Fun.mono (Fun.perm (disk_off (A := cel v cs 110 :: cel v5 ds 3 :: A) (hr.same (st' := { st with deeds := st.deeds + 1, fuse := 0 }) rfl (by simp))) fun w h => h.ix [0, 3, 4, 1, 2]) fun e w ⟨i, hi, he, hO⟩ => ⟨i, hi, he, hO.pk1.tail.pk1.tail⟩
theorem cut_late {w0 : World} {A : List HProp} : Fun Try.prog w0 64 [] A (Ret w0 (fun _ : Unit => True) (fun _ => .tuple #[]) (fun _ => A)) := by
  refine Fun.enter Try.func64 rfl Try.ntmps64 rfl ?_
  exact WC.skip <| WX.end0 rfl (()) (trivial) rfl (fun _ h => h)
theorem disk_cut_bad {w0 : World} {R : List HProp} {d m : Nat} {st : DSt} {nm : ByteArray} {n : Int} {l : List DF} (hr : Rep l st) (hne : findE nm st ≠ 0) :
    Fun Try.prog w0 51 [.pointer (some ⟨d, 0, none⟩), .string nm, .int .i64 n] (cel d (dcells m st) 90 :: mp .string m (ents l) :: R)
      (Ret w0 (fun _ : Unit => True) (fun _ => .int .i64 (findE nm st)) (fun _ => cel d (dcells m st) 90 :: mp .string m (ents l) :: R)) := by
  refine Fun.enter Try.func51 rfl Try.ntmps51 rfl ?_
  refine WC.seq <| WC.region <| bxc (v := .int _ _) (cs := [.int _ _]) rfl rfl fun b1 => sv (vaI rfl) <| WL.nil <| WX.thenN <| WC.seq <| WC.region <| sv (vmP rfl) <| sv (vmT rfl) <| pm (fun _ h => h.pk2.pk2) <| cl (disk_find_bad hr hne) ct59 rfl fun u hu => sv vmv <| sv (vex rfl rfl) <| sv (vex rfl rfl) <| alz (cs := [.pointer none]) zt110 (by rfl) fun b3 => stc (v := .pointer _) pl110 sz110 rfl rfl rfl <| sv (vaI rfl) <| WL.nil <| WX.thenN <| WC.seq <| WC.seq <| WC.region <| sv (vmI rfl) <| sv (vne rfl rfl) <| WL.nil <| WX.thenN <| ?_
  refine WC.ite rfl (fun h1 => ?_) (fun h1 => ?_)
  · -- then
    exact WC.seq <| WC.region <| sv (vmI rfl) <| sv (vaI rfl) <| WL.nil <| WX.thenN <| WC.ret <| WX.thenR <| WX.ret1 rfl (()) (trivial) rfl (fun w h => h.tail.pk2.tail)
  · -- else
    exact absurd h1 (by simpa using hne)
theorem pm_cut {w0 w : World} {A : List HProp} {a b d m : HProp} {l : List DF} {j c : Nat} {x : DF} {base : Option Addr} (hj : l[j]? = some x) (hc : x.bs.length ≤ c)
    (h : Own w0 (a :: d :: m :: b :: cel x.ptr [.slice base x.bs.length c, .int .i64 x.safe] 112 :: row base c 1 5 (u8s x.bs) :: pfiles (l.eraseIdx j) :: A) w) : Own w0 (d :: a :: b :: m :: pfiles l :: A) w := by
  have h1 := pfile_mk hc (h.ix [4, 5, 6, 0, 1, 2, 3])
  have h2 := pfiles_set (y := x) hj h1
  rw [set_same hj] at h2
  exact h2.ix [2, 1, 4, 3, 0]
theorem disk_cut_ok {w0 : World} {A : List HProp} {d m j : Nat} {n : Int} {st : DSt} {l : List DF} {x : DF} (hr : Rep l st) (hj : l[j]? = some x) (ho : st.off = false) (hd : 0 ≤ st.deeds ∧ st.deeds + 1 ≤ 9223372036854775807) (hn : 0 ≤ n ∧ n ≤ x.bs.length) :
    Fun Try.prog w0 51 [.pointer (some ⟨d, 0, none⟩), .string x.name, .int .i64 n] (cel d (dcells m st) 90 :: mp .string m (ents l) :: pfiles l :: A)
      (Ret w0 (fun _ : Unit => True) (fun _ => .int .i64 (if st.fuse - 1 = 0 then 20 else 0)) (fun _ => if st.fuse - 1 = 0 then pdisk d (offS st.keep { st with deeds := st.deeds + 1, fuse := 0 }) :: A
        else pdisk d { st with deeds := st.deeds + 1, fuse := max (st.fuse - 1) 0, files := putV x.name (x.bs.take n.toNat, min x.safe n.toNat) st.files } :: A)) := by
  have hxok := hr.ok x (List.mem_of_getElem? hj)
  obtain ⟨n, rfl⟩ : ∃ k : Nat, n = k := ⟨n.toNat, by omega⟩
  rw [Int.toNat_natCast]
  refine Fun.ex (fun w h => pfile_open (pfiles_out hj h.pk2)) ?_
  rintro ⟨base, c⟩ hc
  dsimp only at hc ⊢
  refine Fun.enter Try.func51 rfl Try.ntmps51 rfl ?_
  refine WC.seq <| WC.region <| bxc (v := .int _ _) (cs := [.int _ _]) rfl rfl fun b1 => sv (vaI rfl) <| WL.nil <| WX.thenN <| WC.seq <| WC.region <| sv (vmP rfl) <| sv (vmT rfl) <| pm (fun _ h => h.pk5.pk5) <| cl (disk_find ho hj) ct59 rfl fun u hu => sv vmv <| sv (vex rfl rfl) <| sv (vex rfl rfl) <| alz (cs := [.pointer none]) zt110 (by rfl) fun b3 => stc (v := .pointer _) pl110 sz110 rfl rfl rfl <| sv (vaI rfl) <| WL.nil <| WX.thenN <| WC.seq <| WC.seq <| WC.region <| sv (vmI rfl) <| sv (vne rfl rfl) <| WL.nil <| WX.thenN <| ?_
  refine WC.ite rfl (fun h1 => ?_) (fun h1 => ?_)
  · -- then
    exact absurd rfl h1
  · -- else
    refine WC.skip <| WX.thenN <| WC.seq <| ?_
    refine WC.cut0 [(28, .bool (decide ((n : Int) < 0 ∨ (x.bs.length : Int) < n)))] [(0, .pointer _), (5, _), (7, _)] (cel b3 [.pointer (some ⟨x.ptr, 0, none⟩)] 110 :: cel d (dcells m st) 90 :: mp .string m (ents l) :: cel b1 [.int .i64 n] 3 :: cel x.ptr [.slice base x.bs.length c, .int .i64 x.safe] 112 :: row base c 1 5 (u8s x.bs) :: pfiles (l.eraseIdx j) :: A) ⟨rfl, rfl, rfl, trivial⟩ ?_ fun ρh => ?_
    · -- disk.go:106
      refine WC.draws rfl (by kernel_rfl) <| qv (vldc pl3 rfl) <| qvs (vlt rfl rfl) (fun q1 => ?_) (fun q1 => ?_)
      ·
        exact qv (vmB rfl) <| qng rfl <| qng rfl <| qng rfl <| qng rfl <| qng rfl <| qng rfl <| qng rfl <| qv (vpkt rfl) <| WQ.nil <| WX.mid () trivial ⟨bT (by first | omega | simp_all | grind), trivial⟩ ⟨rfl, rfl, rfl, trivial⟩ (fun _ h => h)
      ·
        exact qv (vmB rfl) <| qvg rfl (vldc pl3 rfl) <| qvg rfl (vldc pl110 rfl) <| qvg rfl (vnil rfl) <| qvg rfl (vfld fl112f0 rfl) <| qvg rfl (vldc pl94 rfl) <| qvg rfl (vlen Try.underlying94 rfl) <| qvg rfl (vgt rfl rfl) <| qv (vpkf rfl) <| WQ.nil <| WX.mid () trivial ⟨bI (by first | omega | simp_all | grind), trivial⟩ ⟨rfl, rfl, rfl, trivial⟩ (fun _ h => h)
    refine WC.ite rfl (fun h2 => ?_) (fun h2 => ?_)
    · -- then
      omega
    · -- else
      exact WC.skip <| WX.thenN <| WC.seq <| WC.region <| sv (vmP rfl) <| sv (vfn rfl) <| pm (fun _ h => (pm_cut hj hc h)) <| cl (disk_deed_any hr.fuse hd ct63 ct64 (fun _ => cut_do (st' := { st with deeds := st.deeds + 1, fuse := max (st.fuse - 1) 0, files := putV x.name (x.bs.take n, min x.safe n) st.files }) hr hj (by omega) (by have := hr.fuse; dsimp only; omega) rfl) (fun _ => cut_late) (fun _ => cut_off hr)) ct62 rfl fun u2 hu2 => sv (vaI rfl) <| WL.nil <| WX.thenN <| WC.ret <| WX.ret1 rfl (()) (trivial) rfl (fun _ h => h)
theorem disk_cut_arg {w0 : World} {A : List HProp} {d m j : Nat} {n : Int} {st : DSt} {l : List DF} {x : DF} (hr : Rep l st) (hj : l[j]? = some x) (ho : st.off = false) (hn : n < 0 ∨ x.bs.length < n) :
    Fun Try.prog w0 51 [.pointer (some ⟨d, 0, none⟩), .string x.name, .int .i64 n] (cel d (dcells m st) 90 :: mp .string m (ents l) :: pfiles l :: A)
      (Ret w0 (fun _ : Unit => True) (fun _ => .int .i64 1) (fun _ => pdisk d st :: A)) := by
  have hxok := hr.ok x (List.mem_of_getElem? hj)
  refine Fun.ex (fun w h => pfile_open (pfiles_out hj h.pk2)) ?_
  rintro ⟨base, c⟩ hc
  dsimp only at hc ⊢
  refine Fun.enter Try.func51 rfl Try.ntmps51 rfl ?_
  refine WC.seq <| WC.region <| bxc (v := .int _ _) (cs := [.int _ _]) rfl rfl fun b1 => sv (vaI rfl) <| WL.nil <| WX.thenN <| WC.seq <| WC.region <| sv (vmP rfl) <| sv (vmT rfl) <| pm (fun _ h => h.pk5.pk5) <| cl (disk_find ho hj) ct59 rfl fun u hu => sv vmv <| sv (vex rfl rfl) <| sv (vex rfl rfl) <| alz (cs := [.pointer none]) zt110 (by rfl) fun b3 => stc (v := .pointer _) pl110 sz110 rfl rfl rfl <| sv (vaI rfl) <| WL.nil <| WX.thenN <| WC.seq <| WC.seq <| WC.region <| sv (vmI rfl) <| sv (vne rfl rfl) <| WL.nil <| WX.thenN <| ?_
  refine WC.ite rfl (fun h1 => ?_) (fun h1 => ?_)
  · -- then
    exact absurd rfl h1
  · -- else
    refine WC.skip <| WX.thenN <| WC.seq <| ?_
    refine WC.cut0 [(28, .bool (decide (n < 0 ∨ (x.bs.length : Int) < n)))] [(0, .pointer _), (5, _), (7, _)] (cel b3 [.pointer (some ⟨x.ptr, 0, none⟩)] 110 :: cel d (dcells m st) 90 :: mp .string m (ents l) :: cel b1 [.int .i64 n] 3 :: cel x.ptr [.slice base x.bs.length c, .int .i64 x.safe] 112 :: row base c 1 5 (u8s x.bs) :: pfiles (l.eraseIdx j) :: A) ⟨rfl, rfl, rfl, trivial⟩ ?_ fun ρh => ?_
    · -- disk.go:106
      refine WC.draws rfl (by kernel_rfl) <| qv (vldc pl3 rfl) <| qvs (vlt rfl rfl) (fun q1 => ?_) (fun q1 => ?_)
      ·
        exact qv (vmB rfl) <| qng rfl <| qng rfl <| qng rfl <| qng rfl <| qng rfl <| qng rfl <| qng rfl <| qv (vpkt rfl) <| WQ.nil <| WX.mid () trivial ⟨bT (by first | omega | simp_all | grind), trivial⟩ ⟨rfl, rfl, rfl, trivial⟩ (fun _ h => h)
      ·
        exact qv (vmB rfl) <| qvg rfl (vldc pl3 rfl) <| qvg rfl (vldc pl110 rfl) <| qvg rfl (vnil rfl) <| qvg rfl (vfld fl112f0 rfl) <| qvg rfl (vldc pl94 rfl) <| qvg rfl (vlen Try.underlying94 rfl) <| qvg rfl (vgt rfl rfl) <| qv (vpkf rfl) <| WQ.nil <| WX.mid () trivial ⟨bI (by first | omega | simp_all | grind), trivial⟩ ⟨rfl, rfl, rfl, trivial⟩ (fun _ h => h)
    refine WC.ite rfl (fun h2 => ?_) (fun h2 => ?_)
    · -- then
      exact WC.seq <| WC.region <| sv (vaI rfl) <| WL.nil <| WX.thenN <| WC.ret <| WX.thenR <| WX.ret1 rfl (()) (trivial) rfl (fun w h => pdisk_mk hr ((pm_cut hj hc h).ix [0, 3, 4, 1, 2] |> fun h2 => h2.pk4.tail.pk3.tail))
    · -- else
      omega
theorem disk_cut {w0 : World} {A : List HProp} {d : Nat} {n : Int} {st : DSt} {nm : ByteArray} (hd : 0 ≤ st.deeds ∧ st.deeds + 1 ≤ 9223372036854775807) :
    Fun Try.prog w0 51 [.pointer (some ⟨d, 0, none⟩), .string nm, .int .i64 n] (pdisk d st :: A)
      (Ret w0 (fun _ : Unit => True) (fun _ => .int .i64 (cutS nm n st).2) (fun _ => pdisk d (cutS nm n st).1 :: A)) := by
  refine Fun.ex (fun w h => pdisk_open h) ?_
  rintro ⟨m, l⟩ hl
  dsimp only at hl ⊢
  by_cases hne : findE nm st = 0
  · obtain ⟨ho, v, hf⟩ := findE_ok hne
    obtain ⟨j, x, hj, rfl, rfl⟩ := hl.at hf
    by_cases hn : n < 0 ∨ (x.bs.length : Int) < n
    · have hk : cutS x.name n st = (st, 1) := by unfold cutS; rw [if_neg (by rw [ho]; decide), hf]; dsimp only; rw [if_pos hn]
      rw [hk]
      exact disk_cut_arg hl hj ho hn
    · have hk : cutS x.name n st = deedS (putV x.name (x.bs.take n.toNat, min x.safe n.toNat)) id st := by unfold cutS; rw [if_neg (by rw [ho]; decide), hf]; dsimp only; rw [if_neg hn]
      refine (disk_cut_ok hl hj ho hd (by omega)).mono fun e w ⟨i, hi, he, hO⟩ => ⟨i, hi, ?_, ?_⟩
      · rw [he, hk]; unfold deedS; split <;> rfl
      · rw [hk]; unfold deedS
        dsimp only at hO
        split at hO
        · rename_i h; rw [if_pos h]; exact hO
        · rename_i h; rw [if_neg h]; exact hO
  · rw [(readS_bad hne).2.2 n]
    exact (disk_cut_bad hl hne).mono fun e w ⟨i, hi, he, hO⟩ => ⟨i, hi, he, pdisk_mk hl hO⟩
end Go.Proofs.Ytigjompojlhomaa
end
section
set_option linter.unusedVariables false
set_option linter.unusedSimpArgs false
set_option maxRecDepth 4000
namespace Go.Proofs.Ytigjompojlhomaa
open Go.Sl Go.RowKit

section
variable {w0 : World} {A : List HProp} {d : Nat} {st st' : DSt} {nm : ByteArray} {e : Int}
theorem disk_append_at {n ca : Nat} {ba : Option Addr} {b : List UInt8} [hR : Reads w0 A ba (u8s b)] (hs : nm.size ≤ 140737488351232) (hd : 0 ≤ st.deeds ∧ st.deeds + 1 ≤ 9223372036854775807) (hb : b.length ≤ 140737488351232) (hn : n = b.length) (h : appendS nm b st = (st', e)) :
    Fun Try.prog w0 54 [.pointer (some ⟨d, 0, none⟩), .string nm, .slice ba n ca] (pdisk d st :: A) (Ret w0 (fun _ : Unit => True) (fun _ => .int .i64 e) (fun _ => pdisk d st' :: A)) := by
  have := disk_append (w0 := w0) (A := A) (d := d) (ca := ca) (hR := hR) hs hd hb hn
  rw [h] at this; exact this
theorem disk_sync_at (hd : 0 ≤ st.deeds ∧ st.deeds + 1 ≤ 9223372036854775807) (h : syncS nm st = (st', e)) :
    Fun Try.prog w0 56 [.pointer (some ⟨d, 0, none⟩), .string nm] (pdisk d st :: A) (Ret w0 (fun _ : Unit => True) (fun _ => .int .i64 e) (fun _ => pdisk d st' :: A)) := by
  have := disk_sync (w0 := w0) (A := A) (d := d) (nm := nm) hd
  rw [h] at this; exact this
theorem disk_cut_at {n : Int} (hd : 0 ≤ st.deeds ∧ st.deeds + 1 ≤ 9223372036854775807) (h : cutS nm n st = (st', e)) :
    Fun Try.prog w0 51 [.pointer (some ⟨d, 0, none⟩), .string nm, .int .i64 n] (pdisk d st :: A) (Ret w0 (fun _ : Unit => True) (fun _ => .int .i64 e) (fun _ => pdisk d st' :: A)) := by
  have := disk_cut (w0 := w0) (A := A) (d := d) (nm := nm) (n := n) hd
  rw [h] at this; exact this
theorem disk_read_at {bs : List UInt8} (h : readS nm st = (bs, e)) :
    Fun Try.prog w0 49 [.pointer (some ⟨d, 0, none⟩), .string nm] (pdisk d st :: A)
      (Ret w0 (fun i : Option Addr × Nat => bs.length ≤ i.2) (fun i => .tuple #[.slice i.1 bs.length i.2, .int .i64 e]) (fun i => row i.1 i.2 1 5 (u8s bs) :: pdisk d st :: A)) := by
  have := disk_read (w0 := w0) (A := A) (d := d) (nm := nm) (st := st)
  rw [h] at this; exact this
theorem disk_off_at {keep : Int} : Fun Try.prog w0 32 [.pointer (some ⟨d, 0, none⟩), .int .i64 keep] (pdisk d st :: A) (Ret w0 (fun _ : Unit => True) (fun _ => .tuple #[]) (fun _ => pdisk d (offS keep st) :: A)) := by
  refine Fun.ex (fun w h => pdisk_open h) ?_
  rintro ⟨m, l⟩ hl
  exact disk_off hl
theorem disk_up_at {b : Bool} (h : st.off = b) : Fun Try.prog w0 47 [.pointer (some ⟨d, 0, none⟩)] (pdisk d st :: A) (Ret w0 (fun _ : Unit => True) (fun _ => .bool (!b)) (fun _ => pdisk d st :: A)) := h ▸ disk_up
end
/-- one file of a disk that is on and was not armed -/
structure One (st : DSt) (nm : ByteArray) (all : List UInt8) (safe : Nat) (n : Int) : Prop where
  off : st.off = false
  fuse : st.fuse = 0
  deeds : st.deeds = n
  file : st.files nm = some (all, safe)
section
variable {st : DSt} {nm : ByteArray} {all b : List UInt8} {safe : Nat} {n : Int}
theorem One.append0 (ho : st.off = false) (hf : st.fuse = 0) (hd : st.deeds = n) (hV : (st.files nm).getD ([], 0) = (all, safe)) (hn : okName nm) (hb : all.length + b.length ≤ 16777216) :
    ∃ st', appendS nm b st = (st', 0) ∧ One st' nm (all ++ b) safe (n + 1) := by
  have hk := appendS_eq (b := b) ho hn (V := (all ++ b, safe)) (n := all.length + b.length) (by unfold appendV; rw [hV]) (by simp)
  rw [if_pos hb, if_neg (by rw [hf]; decide)] at hk
  exact ⟨_, hk, ho, by dsimp only; rw [hf]; rfl, by dsimp only; rw [hd], by simp [putV]⟩
theorem One.append (h : One st nm all safe n) (hn : okName nm) (hb : all.length + b.length ≤ 16777216) : ∃ st', appendS nm b st = (st', 0) ∧ One st' nm (all ++ b) safe (n + 1) :=
  One.append0 h.off h.fuse h.deeds (by rw [h.file]; rfl) hn hb
theorem One.sync (h : One st nm all safe n) : ∃ st', syncS nm st = (st', 0) ∧ One st' nm all all.length (n + 1) := by
  have := h.deeds
  have hk : syncS nm st = deedS (putV nm (all, all.length)) id st := by unfold syncS; rw [if_neg (by rw [h.off]; decide), h.file]
  unfold deedS at hk
  rw [if_neg (by rw [h.fuse]; decide)] at hk
  exact ⟨_, hk, h.off, by dsimp only; rw [h.fuse]; rfl, by dsimp only; rw [h.deeds], by simp [putV]⟩
theorem One.offon (h : One st nm all safe n) (keep : Int) : readS nm (offS keep st) = ([], 20) ∧ One { offS keep st with off := false } nm (all.take (keptOf keep (all, safe))) (keptOf keep (all, safe)) n := by
  have ho : ¬ st.off = true := by rw [h.off]; decide
  constructor
  · unfold readS offS; rw [if_neg ho]; simp
  · unfold offS; rw [if_neg ho]
    refine ⟨rfl, h.fuse, h.deeds, ?_⟩
    dsimp only
    rw [h.file]; rfl
/-- armed for the second deed from now on -/
theorem One.armed (h : One st nm all safe n) (hn : okName nm) (hb : all.length + b.length ≤ 16777216) : ∃ st1 st2, appendS nm b { st with fuse := max 2 0, keep := 0 } = (st1, 0) ∧ st1.deeds = n + 1 ∧ syncS nm st1 = (st2, 20) ∧ st2.off = true ∧ st2.deeds = n + 2 := by
  have hk := appendS_eq (b := b) (st := { st with fuse := max 2 0, keep := 0 }) h.off hn (V := (all ++ b, safe)) (n := all.length + b.length) (by unfold appendV; dsimp only; rw [h.file]; rfl) (by simp)
  rw [if_pos hb, if_neg (by dsimp only; decide)] at hk
  have ho : ¬ st.off = true := by rw [h.off]; decide
  obtain ⟨st1, hst⟩ : ∃ st1, st1 = ({ st with fuse := 1, keep := 0, deeds := st.deeds + 1, files := putV nm (all ++ b, safe) st.files } : DSt) := ⟨_, rfl⟩
  have hk' : appendS nm b { st with fuse := max 2 0, keep := 0 } = (st1, 0) := by rw [hk, hst]; rfl
  have hs : syncS nm st1 = deedS (putV nm (all ++ b, (all ++ b).length)) id st1 := by unfold syncS; rw [if_neg (by rw [hst]; exact ho)]; rw [hst]; simp [putV]
  unfold deedS at hs
  rw [if_pos (by rw [hst]; rfl)] at hs
  refine ⟨_, _, hk', by rw [hst]; dsimp only; rw [h.deeds], hs, ?_, ?_⟩
  · unfold offS; rw [if_neg (by dsimp only; rw [hst]; exact ho)]
  · unfold offS; rw [if_neg (by dsimp only; rw [hst]; exact ho)]; dsimp only; rw [hst]; dsimp only; rw [h.deeds]; omega
theorem One.read (h : One st nm all safe n) : readS nm st = (all, 0) := by
  unfold readS; rw [if_neg (by rw [h.off]; decide), h.file]
end
end Go.Proofs.Ytigjompojlhomaa
end
section
set_option linter.unusedVariables false
set_option linter.unusedSimpArgs false
set_option maxRecDepth 4000
namespace Go.Proofs.Ytigjompojlhomaa
open Go.Sl Go.RowKit Go.Pack Go.Journal

theorem journal_low {w0 : World} {A : List HProp} {base : Option Addr} {c k n : Nat} {bs : List UInt8} (hk : k = bs.length) (hb : bs.length ≤ 1099511627776) :
    Fun Try.prog w0 67 [.slice base k c, .int .u32 n] (row base c 1 5 (u8s bs) :: A)
      (Ret w0 (fun i : Option Addr × Nat => k + 4 ≤ i.2) (fun i => .slice i.1 (k + 4) i.2) (fun i => row i.1 i.2 1 5 (u8s (bs ++ le4 n)) :: A)) := by
  refine Fun.enter Try.func67 rfl Try.ntmps67 rfl ?_
  exact WC.seq <| WC.region <| sv (vaS rfl) <| WL.nil <| WX.thenN <| WC.seq <| WC.region <| sv (vmS rfl) <| sv (vmI rfl) <| sv (vcv is133 Try.underlying5 rfl) <| sv (vmI rfl) <| sv (vshr rfl rfl (by omega)) <| sv (vcv is133 Try.underlying5 rfl) <| sv (vmI rfl) <| sv (vshr rfl rfl (by omega)) <| sv (vcv is133 Try.underlying5 rfl) <| sv (vmI rfl) <| sv (vshr rfl rfl (by omega)) <| sv (vcv is133 Try.underlying5 rfl) <| bsln [.int _ _, .int _ _, .int _ _, .int _ _] Try.underlying94 zt5 rfl rfl (by intro v hv; simp only [List.mem_cons, List.not_mem_nil, or_false] at hv; rcases hv with rfl | rfl | rfl | rfl <;> rfl) (by simp) fun b8 => pm (fun _ h => (cel_eq (low_vals n) h).pk1) <| apb Try.underlying94 zt5 rfl rfl hk rfl reads (by omega) fun base9 c9 hc9 =>sv (vaS rfl) <| WL.nil <| WX.thenN <| WC.ret <| WX.ret1 rfl ((base9, c9)) (hc9) rfl (fun w h => h.pk1.tail)
theorem u8s_at0 {bs : List UInt8} {i : Nat} (h : i < bs.length) : (u8s bs)[((i : Int)).toNat]? = some (.int .u8 ((bs.getD i 0).toNat : Int)) := by
  have : ((i : Int)).toNat = i := by omega
  rw [this, u8s_at h, List.getD_eq_getElem?_getD, List.getElem?_eq_getElem h]; rfl
theorem journal_number {w0 : World} {A : List HProp} {base : Option Addr} {c k : Nat} {bs : List UInt8} (hR : RdC w0 A base (u8s bs)) (hk : k = bs.length) (h4 : 4 ≤ bs.length) :
    Fun Try.prog w0 60 [.slice base k c] A (Ret w0 (fun _ : Unit => True) (fun _ => .int .u32 (num4 bs : Nat)) (fun _ => A)) := by
  refine Fun.enter Try.func60 rfl Try.ntmps60 rfl ?_
  exact WC.seq <| WC.region <| sv (vaI rfl) <| WL.nil <| WX.thenN <| WC.seq <| WC.draws rfl (by kernel_rfl) <| qv (vmS rfl) <| qv (vix1 Try.underlying94 sz5 rfl rfl (by omega) (by omega) hR (by simp; omega)) <| qv (vldo pl5 rfl hR (u8s_at0 (i := 0) (by omega))) <| qv (vcv is5 Try.underlying133 rfl) <| qv (vmS rfl) <| qv (vix1 Try.underlying94 sz5 rfl rfl (by omega) (by omega) hR (by simp; omega)) <| qv (vldo pl5 rfl hR (u8s_at0 (i := 1) (by omega))) <| qv (vcv is5 Try.underlying133 rfl) <| qv (vshl rfl rfl (by omega)) <| qv (vor rfl rfl) <| qv (vmS rfl) <| qv (vix1 Try.underlying94 sz5 rfl rfl (by omega) (by omega) hR (by simp; omega)) <| qv (vldo pl5 rfl hR (u8s_at0 (i := 2) (by omega))) <| qv (vcv is5 Try.underlying133 rfl) <| qv (vshl rfl rfl (by omega)) <| qv (vor rfl rfl) <| qv (vmS rfl) <| qv (vix1 Try.underlying94 sz5 rfl rfl (by omega) (by omega) hR (by simp; omega)) <| qv (vldo pl5 rfl hR (u8s_at0 (i := 3) (by omega))) <| qv (vcv is5 Try.underlying133 rfl) <| qv (vshl rfl rfl (by omega)) <| qv (vor rfl rfl) <| qv (vaI rfl) <| WQ.nil <| WX.thenN <| WC.ret <| WX.ret1 rfl (()) (trivial) (iv (number_raw bs)) (fun _ h => h)
theorem w32 {n : Nat} (h : n < 4294967296) : IntKind.u32.wrap (n : Int) = (n : Int) := by rw [IntKind.wrap_u32]; omega
theorem w64 {n : Nat} (h : n < 4294967296) : IntKind.i64.wrap (n : Int) = (n : Int) := by
  rw [IntKind.wrap_i64]; omega
theorem sum_lt (bs : List UInt8) : sum bs < 4294967296 := (~~~ (crc (BitVec.allOnes 32) bs)).isLt
theorem frameB_len (bs : List UInt8) : (frameB bs).length = bs.length + 8 := by simp [frameB, le4]
theorem pack_sum_k {w0 : World} {A : List HProp} {base : Option Addr} {c k : Nat} {bs : List UInt8} (hR : RdC w0 A base (u8s bs)) (hk : k = bs.length) (hb : bs.length ≤ 140737488355328) :
    Fun Try.prog w0 61 [.slice base k c] A (Ret w0 (fun _ : Unit => True) (fun _ => .int .u32 (sum bs)) (fun _ => A)) := hk ▸ pack_sum (hR := ⟨hR⟩) hb
theorem journal_frame {w0 : World} {A : List HProp} {base : Option Addr} {c k : Nat} {bs : List UInt8} (hR : RdC w0 A base (u8s bs)) (hk : k = bs.length) (hb : bs.length ≤ 1048576) :
    Fun Try.prog w0 55 [.slice base k c] A (Ret w0 (fun i : Option Addr × Nat => (frameB bs).length ≤ i.2) (fun i => .slice i.1 (frameB bs).length i.2) (fun i => row i.1 i.2 1 5 (u8s (frameB bs)) :: A)) := by
  refine Fun.enter Try.func55 rfl Try.ntmps55 rfl ?_
  refine WC.seq <| WC.region <| sv (vaS rfl) <| WL.nil <| WX.thenN <| WC.seq <| WC.region <| sv (vmS rfl) <| sv (vlen Try.underlying94 rfl) <| sv (vadd rfl rfl (by omega)) <| mk Try.underlying94 zt5 rfl rfl (by omega) (by omega) (by omega) (by omega) fun b2 => sv (vmS rfl) <| sv (vlen Try.underlying94 rfl) <| sv (vcw is3 Try.underlying133 rfl (w32 (by omega))) <| pm (fun _ h => made_row (by simp only [maxLen]; omega) h) <| cl (journal_low (bs := []) rfl (by simp)) ct67 rfl fun r4 hr4 => sv (vaS rfl) <| WL.nil <| WX.thenN <| WC.seq <| WC.region <| sv (vmS rfl) <| sv (vmS rfl) <| sv (vslHM Try.underlying94 sz5 rfl rfl rfl (by omega) (by omega) (by omega)) <| sv (vmS rfl) <| apf Try.underlying94 zt5 rfl rfl reads rfl hR.cons hk (by omega) fun base6 c6 X hc6 hX =>cl (pack_sum_k hX (by simp [le4, hk]; omega) (by simp [le4]; omega)) ct61 rfl fun _ _ => pm (fun _ h => h.pk1) <| cl (journal_low (bs := [] ++ le4 k) (n := sum ([] ++ le4 k ++ bs)) (by simp [le4]) (by simp [le4])) ct67 rfl fun r8 hr8 => sv (vaS rfl) <| WL.nil <| WX.thenN <| WC.seq <| WC.region <| sv (vmS rfl) <| sv (vmS rfl) <| apb Try.underlying94 zt5 rfl rfl (by simp [le4]) hk hR.cons.cons (by simp [le4]; omega) fun base9 c9 hc9 =>sv (vaS rfl) <| WL.nil <| WX.thenN <| WC.ret <| WX.ret1 rfl ((base9, c9)) (by rw [frameB_len]; omega) ?_ (fun w h => ?_)
  · show Value.slice _ _ _ = Value.slice _ _ _
    rw [frameB_len]
    congr 1
    rw [List.length_nil]; omega
  · have e : u8s (frameB bs) = u8s ([] ++ le4 k ++ le4 (sum ([] ++ le4 k ++ bs)) ++ bs) := by rw [hk]; rfl
    rw [e]
    exact h.pk1.tail
theorem nat8 (n : Nat) : ((8 : Int) + (n : Int)).toNat = 8 + n := by omega
theorem next_val {b1 b1' b2 b2' : Option Addr} {a1 a1' a2 a2' a3 a3' a4 a4' : Nat} (e0 : b1 = b1') (f0 : b2 = b2') (e1 : a1 = a1') (e2 : a2 = a2') (e3 : a3 = a3') (e4 : a4 = a4') : Value.tuple #[.slice b1 a1 a2, .slice b2 a3 a4, .bool true] = .tuple #[.slice b1' a1' a2', .slice b2' a3' a4', .bool true] := by rw [e0, f0, e1, e2, e3, e4]
theorem journal_next_none {w0 : World} {A : List HProp} {base : Option Addr} {c k : Nat} {bs : List UInt8} (hR : RdC w0 A base (u8s bs)) (hk : k = bs.length) (hc : bs.length ≤ c) (hb : bs.length ≤ 1099511627776) (hn : nextB bs = none) :
    Fun Try.prog w0 50 [.slice base k c] A (Ret w0 (fun _ : Unit => True) (fun _ => .tuple #[.slice none 0 0, .slice base k c, .bool false]) (fun _ => A)) := by
  have hlt := num4_lt bs
  have hlt2 := num4_lt (bs.drop 4)
  unfold nextB at hn
  refine Fun.enter Try.func50 rfl Try.ntmps50 rfl ?_
  refine WC.seq <| WC.region <| sv (vaS rfl) <| sv (vaS rfl) <| sv (vaB rfl) <| WL.nil <| WX.thenN <| WC.seq <| WC.seq <| WC.region <| sv (vmS rfl) <| sv (vlen Try.underlying94 rfl) <| sv (vlt rfl rfl) <| WL.nil <| WX.thenN <| ?_
  refine WC.ite rfl (fun h1 => ?_) (fun h1 => ?_)
  · -- then
    exact WC.seq <| WC.region <| sv (vmS rfl) <| sv (vaS rfl) <| sv (vaS rfl) <| sv (vaB rfl) <| WL.nil <| WX.thenN <| WC.ret <| WX.thenR <| WX.ret3 rfl (()) (trivial) rfl (fun _ h => h)
  · -- else
    rw [if_neg (by omega)] at hn
    refine WC.skip <| WX.thenN <| WC.seq <| WC.region <| sv (vmS rfl) <| cl (journal_number hR hk (by omega)) ct60 rfl fun _ _ => sv (vaI rfl) <| WL.nil <| WX.thenN <| WC.seq <| ?_
    refine WC.cut0 [(22, .bool (decide ((1048576 : Int) < (num4 bs : Nat) ∨ (bs.length : Int) - 8 < (num4 bs : Nat))))] [(0, .slice _ _ _), (5, .int _ _)] (A) ⟨rfl, rfl, trivial⟩ ?_ fun ρh => ?_
    · -- journal.go:39
      refine WC.region <| sv (vmI rfl) <| svs (vgt rfl rfl) (fun q1 => ?_) (fun q1 => ?_)
      ·
        exact sv (vmB rfl) <| sng rfl <| sng rfl <| sng rfl <| sng rfl <| sng rfl <| sng rfl <| sv (vpkt rfl) <| WL.nil <| WX.mid () trivial ⟨bT (by first | omega | simp_all | grind), trivial⟩ ⟨rfl, rfl, trivial⟩ (fun _ h => h)
      ·
        exact sv (vmB rfl) <| svg rfl (vmI rfl) <| svg rfl (vcw is133 Try.underlying3 rfl (w64 hlt)) <| svg rfl (vmS rfl) <| svg rfl (vlen Try.underlying94 rfl) <| svg rfl (vsub rfl rfl (by omega)) <| svg rfl (vgt rfl rfl) <| sv (vpkf rfl) <| WL.nil <| WX.mid () trivial ⟨bI (by first | omega | simp_all | grind), trivial⟩ ⟨rfl, rfl, trivial⟩ (fun _ h => h)
    refine WC.ite rfl (fun h2 => ?_) (fun h2 => ?_)
    · -- then
      exact WC.seq <| WC.region <| sv (vmS rfl) <| sv (vaS rfl) <| sv (vaS rfl) <| sv (vaB rfl) <| WL.nil <| WX.thenN <| WC.ret <| WX.thenR <| WX.ret3 rfl (()) (trivial) rfl (fun _ h => h)
    · -- else
      rw [if_neg (by omega)] at hn
      refine WC.skip <| WX.thenN <| WC.seq <| WC.region <| sv (vmI rfl) <| sv (vcw is133 Try.underlying3 rfl (w64 hlt)) <| sv (vadd rfl rfl (by omega)) <| sv (vaI rfl) <| WL.nil <| WX.thenN <| WC.seq <| WC.region <| sv (vmS rfl) <| sv (vmI rfl) <| sv (vmI rfl) <| sv (vslLHM Try.underlying94 sz5 rfl rfl rfl rfl (by omega) (by omega) (by omega) (by omega)) <| sv (vaS rfl) <| WL.nil <| WX.thenN <| WC.seq <| WC.seq <| WC.plan (.pre [0, 1, 2] (.one [5, 6] 3 (.done [4, 7, 8]))) rfl (by kernel_rfl) <| WPl.pre (trivial) <| dv (fun g => (vmS rfl)) <| dv (fun g => (vslHM Try.underlying94 sz5 rfl rfl rfl (by omega) (by omega) (by omega))) <| dv (fun g => (vmS rfl)) <| WD.nil <| WPl.one (fun g => g ++ A) ([]) (fun _ => trivial) (rfl) <| dv (fun g => (vmS rfl)) <| dv (fun g => (vslL Try.underlying94 sz5 rfl rfl (by omega) (by omega))) <| WD.eff rfl <| apf Try.underlying94 zt5 rfl rfl (rdbT hR 4) (by rw [List.length_take]; omega) (rdb hR 8 (8 + num4 bs) (num4 bs) (by omega)) (by rw [List.length_take, List.length_drop]; omega) (by omega) fun base8 c8 X hc8 hX =>WL.nil <| WX.br <| WPl.fin (⟨[_], rfl⟩) <| dcl (fun g => Fun.quiet (pack_sum_k hX (by rw [List.length_append, List.length_take, List.length_take, List.length_drop]; omega) (by rw [List.length_append, List.length_take, List.length_take, List.length_drop]; omega))) ct61 rfl <| dcl (fun g => Fun.quiet (journal_number (rdbL hR.cons 4 c hc) (by rw [List.length_drop]; omega) (by rw [List.length_drop]; omega))) ct60 rfl <| dv (fun g => (vne rfl rfl)) <| WD.nil <| WX.thenN <| ?_
      refine WC.ite rfl (fun h3 => ?_) (fun h3 => ?_)
      · -- then
        exact WC.seq <| WC.region <| sv (vmS rfl) <| sv (vaS rfl) <| sv (vaS rfl) <| sv (vaB rfl) <| WL.nil <| WX.thenN <| WC.ret <| WX.thenR <| WX.ret3 rfl (()) (trivial) rfl (fun w h => h.tail)
      · -- else
        exact absurd hn (by rw [if_neg (by omega)]; simp)
theorem journal_next_some {w0 : World} {A : List HProp} {base : Option Addr} {c k m : Nat} {bs : List UInt8} (hR : RdC w0 A base (u8s bs)) (hk : k = bs.length) (hc : bs.length ≤ c) (hb : bs.length ≤ 1099511627776) (hn : nextB bs = some m) :
    Fun Try.prog w0 50 [.slice base k c] A (Ret w0 (fun _ : Unit => True)
      (fun _ => .tuple #[.slice (slB base 8 (8 + m) 1) m m, .slice (slB base (8 + m) c 1) (bs.drop (8 + m)).length (c - (8 + m)), .bool true]) (fun _ => A)) := by
  have hlt := num4_lt bs
  have hlt2 := num4_lt (bs.drop 4)
  have hle := nextB_le hn
  unfold nextB at hn
  refine Fun.enter Try.func50 rfl Try.ntmps50 rfl ?_
  refine WC.seq <| WC.region <| sv (vaS rfl) <| sv (vaS rfl) <| sv (vaB rfl) <| WL.nil <| WX.thenN <| WC.seq <| WC.seq <| WC.region <| sv (vmS rfl) <| sv (vlen Try.underlying94 rfl) <| sv (vlt rfl rfl) <| WL.nil <| WX.thenN <| ?_
  refine WC.ite rfl (fun h1 => ?_) (fun h1 => ?_)
  · -- then
    exact absurd hn (by rw [if_pos (by omega)]; simp)
  · -- else
    rw [if_neg (by omega)] at hn
    refine WC.skip <| WX.thenN <| WC.seq <| WC.region <| sv (vmS rfl) <| cl (journal_number hR hk (by omega)) ct60 rfl fun _ _ => sv (vaI rfl) <| WL.nil <| WX.thenN <| WC.seq <| ?_
    refine WC.cut0 [(22, .bool (decide ((1048576 : Int) < (num4 bs : Nat) ∨ (bs.length : Int) - 8 < (num4 bs : Nat))))] [(0, .slice _ _ _), (5, .int _ _)] (A) ⟨rfl, rfl, trivial⟩ ?_ fun ρh => ?_
    · -- journal.go:39
      refine WC.region <| sv (vmI rfl) <| svs (vgt rfl rfl) (fun q1 => ?_) (fun q1 => ?_)
      ·
        exact sv (vmB rfl) <| sng rfl <| sng rfl <| sng rfl <| sng rfl <| sng rfl <| sng rfl <| sv (vpkt rfl) <| WL.nil <| WX.mid () trivial ⟨bT (by first | omega | simp_all | grind), trivial⟩ ⟨rfl, rfl, trivial⟩ (fun _ h => h)
      ·
        exact sv (vmB rfl) <| svg rfl (vmI rfl) <| svg rfl (vcw is133 Try.underlying3 rfl (w64 hlt)) <| svg rfl (vmS rfl) <| svg rfl (vlen Try.underlying94 rfl) <| svg rfl (vsub rfl rfl (by omega)) <| svg rfl (vgt rfl rfl) <| sv (vpkf rfl) <| WL.nil <| WX.mid () trivial ⟨bI (by first | omega | simp_all | grind), trivial⟩ ⟨rfl, rfl, trivial⟩ (fun _ h => h)
    refine WC.ite rfl (fun h2 => ?_) (fun h2 => ?_)
    · -- then
      exact absurd hn (by rw [if_pos (by omega)]; simp)
    · -- else
      rw [if_neg (by omega)] at hn
      have hm : m = num4 bs := by split at hn <;> simp at hn; exact hn.symm
      rw [hm] at hle ⊢
      refine WC.skip <| WX.thenN <| WC.seq <| WC.region <| sv (vmI rfl) <| sv (vcw is133 Try.underlying3 rfl (w64 hlt)) <| sv (vadd rfl rfl (by omega)) <| sv (vaI rfl) <| WL.nil <| WX.thenN <| WC.seq <| WC.region <| sv (vmS rfl) <| sv (vmI rfl) <| sv (vmI rfl) <| sv (vslLHM Try.underlying94 sz5 rfl rfl rfl rfl (by omega) (by omega) (by omega) (by omega)) <| sv (vaS rfl) <| WL.nil <| WX.thenN <| WC.seq <| WC.seq <| WC.plan (.pre [0, 1, 2] (.one [5, 6] 3 (.done [4, 7, 8]))) rfl (by kernel_rfl) <| WPl.pre (trivial) <| dv (fun g => (vmS rfl)) <| dv (fun g => (vslHM Try.underlying94 sz5 rfl rfl rfl (by omega) (by omega) (by omega))) <| dv (fun g => (vmS rfl)) <| WD.nil <| WPl.one (fun g => g ++ A) ([]) (fun _ => trivial) (rfl) <| dv (fun g => (vmS rfl)) <| dv (fun g => (vslL Try.underlying94 sz5 rfl rfl (by omega) (by omega))) <| WD.eff rfl <| apf Try.underlying94 zt5 rfl rfl (rdbT hR 4) (by rw [List.length_take]; omega) (rdb hR 8 (8 + num4 bs) (num4 bs) (by omega)) (by rw [List.length_take, List.length_drop]; omega) (by omega) fun base8 c8 X hc8 hX =>WL.nil <| WX.br <| WPl.fin (⟨[_], rfl⟩) <| dcl (fun g => Fun.quiet (pack_sum_k hX (by rw [List.length_append, List.length_take, List.length_take, List.length_drop]; omega) (by rw [List.length_append, List.length_take, List.length_take, List.length_drop]; omega))) ct61 rfl <| dcl (fun g => Fun.quiet (journal_number (rdbL hR.cons 4 c hc) (by rw [List.length_drop]; omega) (by rw [List.length_drop]; omega))) ct60 rfl <| dv (fun g => (vne rfl rfl)) <| WD.nil <| WX.thenN <| ?_
      refine WC.ite rfl (fun h3 => ?_) (fun h3 => ?_)
      · -- then
        exact absurd hn (by rw [if_pos (by omega)]; simp)
      · -- else
        exact WC.skip <| WX.thenN <| WC.seq <| WC.draws rfl (by kernel_rfl) <| qv (vmS rfl) <| qv (vmS rfl) <| qv (vmI rfl) <| qv (vslL Try.underlying94 sz5 rfl rfl (by omega) (by omega)) <| qv (vaS rfl) <| qv (vaS rfl) <| qv (vaB rfl) <| WQ.nil <| WX.thenN <| WC.ret <| WX.ret3 rfl (()) (trivial) (next_val (by rw [nat8]; rfl) (by rw [nat8]) (by rw [nat8]; show 8 + num4 bs - 8 = _; omega) (by rw [nat8]; show 8 + num4 bs - 8 = _; omega) (by rw [nat8, List.length_drop]; omega) (by rw [nat8])) (fun w h => h.tail)
end Go.Proofs.Ytigjompojlhomaa
end
section
set_option linter.unusedVariables false
set_option linter.unusedSimpArgs false
set_option maxRecDepth 4000
namespace Go.Proofs.Ytigjompojlhomaa
open Go.Sl Go.RowKit Go.Pack Go.Journal

theorem getD_lt {α : Type} {l : List α} {k : Nat} {d : α} (h : k < l.length) : l.getD k d = l[k] := by rw [List.getD_eq_getElem?_getD, List.getElem?_eq_getElem h]; rfl
theorem str_at {s : ByteArray} {i : Nat} (h : i < s.size) : s[((i : Int)).toNat]? = some (s.data.toList.getD i 0) := by
  have e : ((i : Int)).toNat = i := by omega
  have h2 : i < s.data.toList.length := by simpa using h
  rw [e, List.getD_eq_getElem?_getD, List.getElem?_eq_getElem h2, getElem?_pos s i h]
  rfl
theorem okName_at {s : ByteArray} (h : okName s) {i : Nat} (hi : i < s.size) : okByte (s.data.toList.getD i 0) := by
  have h2 : i < s.data.toList.length := by simpa using hi
  rw [getD_lt h2]
  exact h.1 _ (List.getElem_mem h2)
theorem okName_of {s : ByteArray} (h0 : s.size ≠ 0) (h16 : s.size ≤ 16) (h : ∀ j, j < s.size → okByte (s.data.toList.getD j 0)) : okName s := by
  refine ⟨fun c hc => ?_, h0, h16⟩
  obtain ⟨j, hj⟩ := List.mem_iff_getElem?.1 hc
  obtain ⟨hl, rfl⟩ := List.getElem?_eq_some_iff.1 hj
  have := h j (by simpa using hl)
  rwa [getD_lt hl] at this
theorem journal_may {w0 : World} {A : List HProp} {s : ByteArray} : Fun Try.prog w0 48 [.string s] A (Ret w0 (fun _ : Unit => True) (fun _ => .bool (decide (okName s))) (fun _ => A)) := by
  refine Fun.enter Try.func48 rfl Try.ntmps48 rfl ?_
  refine WC.seq <| WC.region <| sv (vaB rfl) <| WL.nil <| WX.thenN <| WC.seq <| ?_
  refine WC.cut0 [(11, .bool (decide (¬ (s.size ≠ 0 ∧ s.size ≤ 16))))] [(0, .string _)] (A) ⟨rfl, trivial⟩ ?_ fun ρh => ?_
  · -- journal.go:83
    refine WC.region <| sv (vmT rfl) <| svs (veqs rfl rfl) (fun q1 => ?_) (fun q1 => ?_)
    ·
      exact sv (vmB rfl) <| sng rfl <| sng rfl <| sng rfl <| sv (vpkt rfl) <| WL.nil <| WX.mid () trivial ⟨bT (fun h => h.1 (by rw [q1]; rfl)), trivial⟩ ⟨rfl, trivial⟩ (fun _ h => h)
    ·
      exact sv (vmB rfl) <| svg rfl (vmT rfl) <| svg rfl (vlens Try.underlying9 rfl) <| svg rfl (vgt rfl rfl) <| sv (vpkf rfl) <| WL.nil <| WX.mid () trivial ⟨bI ⟨fun h => by omega, fun h => by have : s.size ≠ 0 := size_ne.1 q1; omega⟩, trivial⟩ ⟨rfl, trivial⟩ (fun _ h => h)
  refine WC.ite rfl (fun h1 => ?_) (fun h1 => ?_)
  · -- then
    exact WC.seq <| WC.region <| sv (vaB rfl) <| WL.nil <| WX.thenN <| WC.ret <| WX.thenR <| WX.ret1 rfl (()) (trivial) (bF (fun h => h1 h.2)) (fun _ h => h)
  · -- else
    refine WC.skip <| WX.thenN <| WC.seq <| WC.seq <| WC.region <| sv (vmT rfl) <| sv (vlens Try.underlying9 rfl) <| sv (vmI rfl) <| WL.nil <| WX.thenN <| WC.block <| ?_
    refine WC.loop (ι := Nat) (fun i => [(14, .int .i64 i)]) [(0, .string _), (13, .int _ _)] (fun i => A) (fun i => i ≤ s.size ∧ ∀ j, j < i → okByte (s.data.toList.getD j 0)) (fun i => s.size - i) (0) (⟨Nat.zero_le _, fun j h => by omega⟩) ⟨rfl, trivial⟩ ⟨rfl, rfl, trivial⟩ (fun _ h => h) ?_
    intro i hi ρh
    refine WC.seq <| WC.region <| sv (vlt rfl rfl) <| WL.nil <| WX.thenN <| WC.seq <| ?_
    refine WC.ite rfl (fun h2 => ?_) (fun h2 => ?_)
    · -- then
      obtain ⟨c, hc⟩ : ∃ c, c = s.data.toList.getD i 0 := ⟨_, rfl⟩
      have hat := str_at (s := s) (i := i) (by omega)
      rw [← hc] at hat
      refine WC.skip <| WX.thenN <| WC.seq <| WC.block <| WC.seq <| WC.region <| sv (vmI rfl) <| sv (vaI rfl) <| WL.nil <| WX.thenN <| WC.seq <| WC.region <| sv (vmT rfl) <| sv (vmI rfl) <| sv (vixs Try.underlying9 rfl rfl (by omega) hat) <| sv (vaI rfl) <| WL.nil <| WX.thenN <| WC.block <| ?_
      refine WC.cutv (ι := Unit) (fun i => [(20, .bool (decide (okByte c)))]) [(0, .string _), (13, .int _ _), (14, .int _ _)] (fun i => A) (fun i => True) ⟨rfl, rfl, rfl, trivial⟩ ?_ ?_
      · -- up to the join
        refine WC.cut0 [(20, .bool (decide ((97 : Int) ≤ c.toNat ∧ (c.toNat : Int) ≤ 122)))] [(0, .string _), (4, .int _ _), (13, .int _ _), (14, .int _ _)] (A) ⟨rfl, rfl, rfl, rfl, trivial⟩ ?_ fun ρh => ?_
        · -- journal.go:88
          refine WC.region <| sv (vmI rfl) <| svs (vle rfl rfl) (fun q2 => ?_) (fun q2 => ?_)
          ·
            exact sv (vmB rfl) <| svg rfl (vmI rfl) <| svg rfl (vle rfl rfl) <| sv (vpkt rfl) <| sv (vaB rfl) <| WL.nil <| WX.mid () trivial ⟨bI (by first | omega | simp_all | grind), trivial⟩ ⟨rfl, rfl, rfl, rfl, trivial⟩ (fun _ h => h)
          ·
            exact sv (vmB rfl) <| sng rfl <| sng rfl <| sv (vpkf rfl) <| sv (vaB rfl) <| WL.nil <| WX.mid () trivial ⟨bF (by first | omega | simp_all | grind), trivial⟩ ⟨rfl, rfl, rfl, rfl, trivial⟩ (fun _ h => h)
        refine WC.ite rfl (fun h3 => ?_) (fun h3 => ?_)
        · -- then
          exact WC.skip <| WX.mid (()) (trivial) ⟨bI (by unfold okByte; omega), trivial⟩ ⟨rfl, rfl, rfl, trivial⟩ (fun _ h => h)
        · -- else
          refine WC.cut0 [(20, .bool (decide ((48 : Int) ≤ c.toNat ∧ (c.toNat : Int) ≤ 57)))] [(0, .string _), (4, .int _ _), (13, .int _ _), (14, .int _ _)] (A) ⟨rfl, rfl, rfl, rfl, trivial⟩ ?_ fun ρh => ?_
          · -- journal.go:88
            refine WC.region <| sv (vmI rfl) <| svs (vle rfl rfl) (fun q3 => ?_) (fun q3 => ?_)
            ·
              exact sv (vmB rfl) <| svg rfl (vmI rfl) <| svg rfl (vle rfl rfl) <| sv (vpkt rfl) <| sv (vaB rfl) <| WL.nil <| WX.mid () trivial ⟨bI (by first | omega | simp_all | grind), trivial⟩ ⟨rfl, rfl, rfl, rfl, trivial⟩ (fun _ h => h)
            ·
              exact sv (vmB rfl) <| sng rfl <| sng rfl <| sv (vpkf rfl) <| sv (vaB rfl) <| WL.nil <| WX.mid () trivial ⟨bF (by first | omega | simp_all | grind), trivial⟩ ⟨rfl, rfl, rfl, rfl, trivial⟩ (fun _ h => h)
          refine WC.ite rfl (fun h4 => ?_) (fun h4 => ?_)
          · -- then
            exact WC.skip <| WX.mid (()) (trivial) ⟨bI (by unfold okByte; omega), trivial⟩ ⟨rfl, rfl, rfl, trivial⟩ (fun _ h => h)
          · -- else
            refine WC.seq <| WC.region <| sv (vmI rfl) <| sv (veq rfl rfl) <| sv (vaB rfl) <| WL.nil <| WX.thenN <| ?_
            refine WC.ite rfl (fun h5 => ?_) (fun h5 => ?_)
            · -- then
              exact WC.skip <| WX.mid (()) (trivial) ⟨bI (by unfold okByte; omega), trivial⟩ ⟨rfl, rfl, rfl, trivial⟩ (fun _ h => h)
            · -- else
              exact WC.region <| sv (vmI rfl) <| sv (veq rfl rfl) <| sv (vaB rfl) <| WL.nil <| WX.mid (()) (trivial) ⟨bI (by unfold okByte; omega), trivial⟩ ⟨rfl, rfl, rfl, trivial⟩ (fun _ h => h)
      · -- behind the join
        intro _ _ ρh
        refine WC.ite rfl (fun h6 => ?_) (fun h6 => ?_)
        · -- then
          exact WC.skip <| WX.blockN <| WX.blockN <| WX.thenN <| WC.region <| sv (vadd rfl rfl (by omega)) <| sv (vmI rfl) <| WL.nil <| WX.again (i + 1) (⟨by omega, fun j hj => by rcases Nat.lt_succ_iff_lt_or_eq.1 hj with h | rfl; exact hi.2 j h; rw [← hc]; exact h6⟩) (by omega) ⟨rfl, trivial⟩ ⟨rfl, rfl, trivial⟩ (fun _ h => h)
        · -- else
          exact WC.seq <| WC.region <| sv (vaB rfl) <| WL.nil <| WX.thenN <| WC.ret <| WX.blockR <| WX.blockR <| WX.thenR <| WX.thenR <| WX.blockR <| WX.thenR <| WX.ret1 rfl (()) (trivial) (bF (fun h => h6 (by rw [hc]; exact okName_at h (by omega)))) (fun _ h => h)
    · -- else
      exact WC.exit <| WX.thenE <| WX.thenE <| WX.blockH <| WX.thenN <| WC.seq <| WC.region <| sv (vaB rfl) <| WL.nil <| WX.thenN <| WC.ret <| WX.ret1 rfl (()) (trivial) (bT (okName_of (by omega) (by omega) (fun j hj => hi.2 j (by omega)))) (fun _ h => h)
/-- a record added to a file: the disk, and the answer -/
def addP (nm : ByteArray) (rec : List UInt8) (st : DSt) : DSt × Int :=
  if (appendS nm (frameB rec) st).2 = 0 then syncS nm (appendS nm (frameB rec) st).1 else appendS nm (frameB rec) st
abbrev jcells (d : Nat) (nm : ByteArray) (n : Int) (sick : Bool) : List Value := [.pointer (some ⟨d, 0, none⟩), .string nm, .int .i64 n, .bool sick]
theorem offS_deeds (keep : Int) (st : DSt) : (offS keep st).deeds = st.deeds := by unfold offS; split <;> rfl
theorem deedS_deeds (f g) (st : DSt) : (deedS f g st).1.deeds = st.deeds + 1 := by unfold deedS; split; rw [offS_deeds]; rfl
theorem appendS_deeds (nm : ByteArray) (b : List UInt8) (st : DSt) : st.deeds ≤ (appendS nm b st).1.deeds ∧ (appendS nm b st).1.deeds ≤ st.deeds + 1 := by
  unfold appendS
  split
  · dsimp only; omega
  · split
    · dsimp only; omega
    · split
      · dsimp only; omega
      · rw [deedS_deeds]; omega
theorem journal_add_sick {w0 : World} {A : List HProp} {j d k c : Nat} {nm : ByteArray} {n : Int} {base : Option Addr} :
    Fun Try.prog w0 45 [.pointer (some ⟨j, 0, none⟩), .slice base k c] (cel j (jcells d nm n true) 120 :: A) (Ret w0 (fun _ : Unit => True) (fun _ => .int .i64 20) (fun _ => cel j (jcells d nm n true) 120 :: A)) := by
  refine Fun.enter Try.func45 rfl Try.ntmps45 rfl ?_
  refine WC.seq <| WC.region <| sv (vaI rfl) <| WL.nil <| WX.thenN <| WC.seq <| WC.block <| WC.seq <| WC.region <| sv (vmP rfl) <| sv (vpeqF Try.underlying63 rfl rfl) <| sv (vaB rfl) <| WL.nil <| WX.thenN <| ?_
  refine WC.ff rfl ?_
  refine WC.seq <| WC.region <| sv (vmP rfl) <| sv (vnil rfl) <| sv (vfld fl120f3 rfl) <| sv (vldc pl4 rfl) <| sv (vaB rfl) <| WL.nil <| WX.thenN <| ?_
  refine WC.tt rfl ?_
  exact WC.seq <| WC.region <| sv (vaI rfl) <| WL.nil <| WX.thenN <| WC.ret <| WX.blockR <| WX.thenR <| WX.ret1 rfl (()) (trivial) rfl (fun _ h => h)
theorem journal_add_long {w0 : World} {A : List HProp} {j d k c : Nat} {nm : ByteArray} {n : Int} {base : Option Addr} (hk : 1048576 < k) :
    Fun Try.prog w0 45 [.pointer (some ⟨j, 0, none⟩), .slice base k c] (cel j (jcells d nm n false) 120 :: A) (Ret w0 (fun _ : Unit => True) (fun _ => .int .i64 2) (fun _ => cel j (jcells d nm n false) 120 :: A)) := by
  refine Fun.enter Try.func45 rfl Try.ntmps45 rfl ?_
  refine WC.seq <| WC.region <| sv (vaI rfl) <| WL.nil <| WX.thenN <| WC.seq <| WC.block <| WC.seq <| WC.region <| sv (vmP rfl) <| sv (vpeqF Try.underlying63 rfl rfl) <| sv (vaB rfl) <| WL.nil <| WX.thenN <| ?_
  refine WC.ff rfl ?_
  refine WC.seq <| WC.region <| sv (vmP rfl) <| sv (vnil rfl) <| sv (vfld fl120f3 rfl) <| sv (vldc pl4 rfl) <| sv (vaB rfl) <| WL.nil <| WX.thenN <| ?_
  refine WC.ff rfl ?_
  refine WC.seq <| WC.region <| sv (vmS rfl) <| sv (vlen Try.underlying94 rfl) <| sv (vgt rfl rfl) <| sv (vaB rfl) <| WL.nil <| WX.thenN <| ?_
  refine WC.ite rfl (fun h3 => ?_) (fun h3 => ?_)
  · -- then
    exact WC.seq <| WC.region <| sv (vaI rfl) <| WL.nil <| WX.thenN <| WC.ret <| WX.blockR <| WX.thenR <| WX.ret1 rfl (()) (trivial) rfl (fun _ h => h)
  · -- else
    omega
theorem journal_add_ok {w0 : World} {A : List HProp} {j d k c : Nat} {nm : ByteArray} {n : Int} {base : Option Addr} {rec : List UInt8} {st : DSt} (hR : RdC w0 A base (u8s rec)) (hk : k = rec.length) (hl : rec.length ≤ 1048576) (hs : nm.size ≤ 140737488351232) (hd : 0 ≤ st.deeds ∧ st.deeds + 2 ≤ 9223372036854775807) (hn : 0 ≤ n ∧ n + 1 ≤ 9223372036854775807) :
    Fun Try.prog w0 45 [.pointer (some ⟨j, 0, none⟩), .slice base k c] (cel j (jcells d nm n false) 120 :: pdisk d st :: A)
      (Ret w0 (fun _ : Unit => True) (fun _ => .int .i64 (addP nm rec st).2) (fun _ => cel j (jcells d nm (if (addP nm rec st).2 = 0 then n + 1 else n) (decide ((addP nm rec st).2 = 20))) 120 :: pdisk d (addP nm rec st).1 :: A)) := by
  have hap := appendS_deeds nm (frameB rec) st
  refine Fun.enter Try.func45 rfl Try.ntmps45 rfl ?_
  refine WC.seq <| WC.region <| sv (vaI rfl) <| WL.nil <| WX.thenN <| WC.seq <| WC.block <| WC.seq <| WC.region <| sv (vmP rfl) <| sv (vpeqF Try.underlying63 rfl rfl) <| sv (vaB rfl) <| WL.nil <| WX.thenN <| ?_
  refine WC.ff rfl ?_
  refine WC.seq <| WC.region <| sv (vmP rfl) <| sv (vnil rfl) <| sv (vfld fl120f3 rfl) <| sv (vldc pl4 rfl) <| sv (vaB rfl) <| WL.nil <| WX.thenN <| ?_
  refine WC.ff rfl ?_
  refine WC.seq <| WC.region <| sv (vmS rfl) <| sv (vlen Try.underlying94 rfl) <| sv (vgt rfl rfl) <| sv (vaB rfl) <| WL.nil <| WX.thenN <| ?_
  refine WC.ite rfl (fun h3 => ?_) (fun h3 => ?_)
  · -- then
    omega
  · -- else
    refine WC.skip <| WX.blockN <| WX.thenN <| WC.seq <| WC.plan (.pre [8] (.one [0, 1, 2, 3, 4, 5, 6, 7] 9 (.bar [] 10 (.done [11])))) rfl (by kernel_rfl) <| WPl.pre (trivial) <| dv (fun g => (vmS rfl)) <| WD.nil <| WPl.one (fun g => g ++ cel j (jcells d nm n false) 120 :: pdisk d st :: A) ([]) (fun _ => trivial) (rfl) <| dv (fun g => (vmP rfl)) <| dv (fun g => (vnil rfl)) <| dv (fun g => (vfld fl120f0 rfl)) <| dv (fun g => (vldc pl60 rfl)) <| dv (fun g => (vmP rfl)) <| dv (fun g => (vnil rfl)) <| dv (fun g => (vfld fl120f1 rfl)) <| dv (fun g => (vldc pl9 rfl)) <| WD.eff rfl <| cl (journal_frame hR.cons.cons hk hl) ct55 rfl fun r5 hr5 => WL.nil <| WX.br <| WPl.bar (⟨[_], rfl⟩) <| WD.eff rfl <| pm (fun _ h => h.pk2) <| cl (disk_append (nm := nm) (b := frameB rec) hs (by omega) (by rw [frameB_len]; omega) rfl) ct54 rfl fun _ _ => WL.nil <| WX.brT <| WPl.fin (trivial) <| dv (fun g => (vaI rfl)) <| WD.nil <| WX.thenN <| ?_
    refine WC.cutv (ι := Unit) (fun i => [(5, .int .i64 (addP nm rec st).2)]) [(0, .pointer _)] (fun i => pdisk d (addP nm rec st).1 :: cel j (jcells d nm n false) 120 :: A) (fun i => True) ⟨rfl, trivial⟩ ?_ ?_
    · -- up to the join
      refine WC.seq <| WC.region <| sv (vmI rfl) <| sv (veq rfl rfl) <| WL.nil <| WX.thenN <| ?_
      refine WC.ite rfl (fun h4 => ?_) (fun h4 => ?_)
      · -- then
        refine WC.plan (.bar [0, 1, 2, 3, 4, 5, 6, 7] 8 (.done [9])) rfl (by kernel_rfl) <| WPl.bar (trivial) <| dv (fun g => (vmP rfl)) <| dv (fun g => (vnil rfl)) <| dv (fun g => (vfld fl120f0 rfl)) <| dv (fun g => (vldc pl60 rfl)) <| dv (fun g => (vmP rfl)) <| dv (fun g => (vnil rfl)) <| dv (fun g => (vfld fl120f1 rfl)) <| dv (fun g => (vldc pl9 rfl)) <| WD.eff rfl <| cl (disk_sync (nm := nm) (by omega)) ct56 rfl fun _ _ => WL.nil <| WX.brT <| WPl.fin (trivial) <| dv (fun g => (vaI rfl)) <| WD.nil <| WX.mid (()) (trivial) ⟨by show Value.int _ _ = Value.int _ _; unfold addP; rw [if_pos h4], trivial⟩ ⟨rfl, trivial⟩ (fun w h => ?_)
        unfold addP; rw [if_pos h4]
        exact h.pk1.tail
      · -- else
        refine WC.skip <| WX.mid (()) (trivial) ⟨by show Value.int _ _ = Value.int _ _; unfold addP; rw [if_neg h4], trivial⟩ ⟨rfl, trivial⟩ (fun w h => ?_)
        unfold addP; rw [if_neg h4]
        exact h.pk1.tail
    · -- behind the join
      intro _ _ ρh
      refine WC.seq <| WC.seq <| WC.region <| sv (vmI rfl) <| WL.nil <| WX.thenN <| WC.block <| WC.seq <| WC.region <| sv (veq rfl rfl) <| sv (vaB rfl) <| WL.nil <| WX.thenN <| ?_
      refine WC.ite rfl (fun h5 => ?_) (fun h5 => ?_)
      · -- then
        refine WC.region <| sv (vmP rfl) <| sv (vnil rfl) <| sv (vfld fl120f2 rfl) <| sv (vldc pl3 rfl) <| sv (vadd rfl rfl (by omega)) <| sv (vnil rfl) <| sv (vfld fl120f2 rfl) <| pm (fun _ h => h.pk1) <| stc (v := .int _ _) pl3 sz3 rfl rfl rfl <| WL.nil <| WX.blockN <| WX.thenN <| WC.seq <| WC.region <| sv (vmI rfl) <| sv (vaI rfl) <| WL.nil <| WX.thenN <| WC.ret <| WX.ret1 rfl (()) (trivial) rfl (fun w h => ?_)
        rw [if_pos h5, decide_eq_false (by omega)]; exact h
      · -- else
        refine WC.seq <| WC.region <| sv (veq rfl rfl) <| sv (vaB rfl) <| WL.nil <| WX.thenN <| ?_
        refine WC.ite rfl (fun h6 => ?_) (fun h6 => ?_)
        · -- then
          refine WC.region <| sv (vmP rfl) <| sv (vnil rfl) <| sv (vfld fl120f3 rfl) <| pm (fun _ h => h.pk1) <| stc (v := .bool _) pl4 sz4 rfl rfl rfl <| WL.nil <| WX.blockN <| WX.thenN <| WC.seq <| WC.region <| sv (vmI rfl) <| sv (vaI rfl) <| WL.nil <| WX.thenN <| WC.ret <| WX.ret1 rfl (()) (trivial) rfl (fun w h => ?_)
          rw [if_neg (by omega), decide_eq_true h6]; exact h
        · -- else
          refine WC.skip <| WX.blockN <| WX.thenN <| WC.seq <| WC.region <| sv (vmI rfl) <| sv (vaI rfl) <| WL.nil <| WX.thenN <| WC.ret <| WX.ret1 rfl (()) (trivial) rfl (fun w h => ?_)
          rw [if_neg h5, decide_eq_false h6]; exact h.pk1
end Go.Proofs.Ytigjompojlhomaa
end
section
set_option linter.unusedVariables false
set_option linter.unusedSimpArgs false
set_option maxRecDepth 4000
namespace Go.Proofs.Ytigjompojlhomaa
open Go.Sl Go.RowKit Go.Pack Go.Journal

/-- what is left behind the records is cut off -/
def openS (nm : ByteArray) (st : DSt) : DSt × Int :=
  if st.off then (st, 20) else if ¬ okName nm then (st, 51) else
  if (recsB (readS nm st).1).2 = [] then (st, 0) else cutS nm ((readS nm st).1.length - (recsB (readS nm st).1).2.length) st
theorem journal_open_nil {w0 : World} {A : List HProp} {nm : ByteArray} :
    Fun Try.prog w0 38 [.pointer none, .string nm] A (Ret w0 (fun _ : Unit => True) (fun _ => .tuple #[.pointer none, .slice none 0 0, .int .i64 3]) (fun _ => A)) := by
  refine Fun.enter Try.func38 rfl Try.ntmps38 rfl ?_
  refine WC.seq <| WC.region <| sv (vaP rfl) <| sv (vaS rfl) <| sv (vaI rfl) <| WL.nil <| WX.thenN <| WC.seq <| WC.seq <| WC.region <| sv (vmP rfl) <| sv (vpeqT Try.underlying60 rfl rfl) <| WL.nil <| WX.thenN <| ?_
  refine WC.tt rfl ?_
  exact WC.seq <| WC.region <| sv (vaP rfl) <| sv (vaS rfl) <| sv (vaI rfl) <| WL.nil <| WX.thenN <| WC.ret <| WX.thenR <| WX.ret3 rfl (()) (trivial) rfl (fun _ h => h)
theorem journal_add_nil {w0 : World} {A : List HProp} {b : Option Addr} {n c : Nat} :
    Fun Try.prog w0 45 [.pointer none, .slice b n c] A (Ret w0 (fun _ : Unit => True) (fun _ => .int .i64 3) (fun _ => A)) := by
  refine Fun.enter Try.func45 rfl Try.ntmps45 rfl ?_
  refine WC.seq <| WC.region <| sv (vaI rfl) <| WL.nil <| WX.thenN <| WC.seq <| WC.block <| WC.seq <| WC.region <| sv (vmP rfl) <| sv (vpeqT Try.underlying63 rfl rfl) <| sv (vaB rfl) <| WL.nil <| WX.thenN <| ?_
  refine WC.tt rfl ?_
  exact WC.seq <| WC.region <| sv (vaI rfl) <| WL.nil <| WX.thenN <| WC.ret <| WX.blockR <| WX.thenR <| WX.ret1 rfl (()) (trivial) rfl (fun _ h => h)
theorem journal_open_off {w0 : World} {A : List HProp} {d : Nat} {nm : ByteArray} {st : DSt} (ho : st.off = true) :
    Fun Try.prog w0 38 [.pointer (some ⟨d, 0, none⟩), .string nm] (pdisk d st :: A) (Ret w0 (fun _ : Unit => True) (fun _ => .tuple #[.pointer none, .slice none 0 0, .int .i64 20]) (fun _ => pdisk d st :: A)) := by
  refine Fun.enter Try.func38 rfl Try.ntmps38 rfl ?_
  refine WC.seq <| WC.region <| sv (vaP rfl) <| sv (vaS rfl) <| sv (vaI rfl) <| WL.nil <| WX.thenN <| WC.seq <| WC.seq <| WC.region <| sv (vmP rfl) <| sv (vpeqF Try.underlying60 rfl rfl) <| WL.nil <| WX.thenN <| ?_
  refine WC.ff rfl ?_
  refine WC.skip <| WX.thenN <| WC.seq <| WC.seq <| WC.region <| sv (vmP rfl) <| cl (disk_up_at ho) ct47 rfl fun _ _ => sv (vnot rfl) <| WL.nil <| WX.thenN <| ?_
  refine WC.tt rfl ?_
  exact WC.seq <| WC.region <| sv (vaP rfl) <| sv (vaS rfl) <| sv (vaI rfl) <| WL.nil <| WX.thenN <| WC.ret <| WX.thenR <| WX.ret3 rfl (()) (trivial) rfl (fun _ h => h)
theorem journal_open_name {w0 : World} {A : List HProp} {d : Nat} {nm : ByteArray} {st : DSt} (ho : st.off = false) (hn : ¬ okName nm) :
    Fun Try.prog w0 38 [.pointer (some ⟨d, 0, none⟩), .string nm] (pdisk d st :: A) (Ret w0 (fun _ : Unit => True) (fun _ => .tuple #[.pointer none, .slice none 0 0, .int .i64 51]) (fun _ => pdisk d st :: A)) := by
  have hd : decide (okName nm) = false := by simpa using hn
  refine Fun.enter Try.func38 rfl Try.ntmps38 rfl ?_
  refine WC.seq <| WC.region <| sv (vaP rfl) <| sv (vaS rfl) <| sv (vaI rfl) <| WL.nil <| WX.thenN <| WC.seq <| WC.seq <| WC.region <| sv (vmP rfl) <| sv (vpeqF Try.underlying60 rfl rfl) <| WL.nil <| WX.thenN <| ?_
  refine WC.ff rfl ?_
  refine WC.skip <| WX.thenN <| WC.seq <| WC.seq <| WC.region <| sv (vmP rfl) <| cl (disk_up_at ho) ct47 rfl fun _ _ => sv (vnot rfl) <| WL.nil <| WX.thenN <| ?_
  refine WC.ff rfl ?_
  refine WC.skip <| WX.thenN <| WC.seq <| WC.seq <| WC.region <| sv (vmT rfl) <| cl (hd ▸ journal_may) ct48 rfl fun _ _ => sv (vnot rfl) <| WL.nil <| WX.thenN <| ?_
  refine WC.tt rfl ?_
  exact WC.seq <| WC.region <| sv (vaP rfl) <| sv (vaS rfl) <| sv (vaI rfl) <| WL.nil <| WX.thenN <| WC.ret <| WX.thenR <| WX.ret3 rfl (()) (trivial) rfl (fun _ h => h)
theorem pdisk_len {w0 w : World} {d : Nat} {st : DSt} {A : List HProp} {nm : ByteArray} (h : Own w0 (pdisk d st :: A) w) : (readS nm st).1.length ≤ 16777216 := by
  obtain ⟨⟨m, l⟩, hr, _⟩ := pdisk_open h
  unfold readS
  split
  · simp
  · cases hf : st.files nm with
    | none => simp
    | some v =>
      obtain ⟨j, x, hj, rfl, rfl⟩ := hr.at hf
      exact (hr.ok x (List.mem_of_getElem? hj)).2
theorem open_row {w0 w : World} {R : List HProp} {b m : Nat} {rec : List UInt8} (hm : rec.length = m) (hx : m ≤ maxLen) (h : Own w0 (cel b (splice (List.replicate m (Value.int .u8 0)) 0 (u8s rec)) 5 :: R) w) : Own w0 (row (some ⟨b, 0, none⟩) m 1 5 (u8s rec) :: R) w := by
  have e : splice (List.replicate m (Value.int .u8 0)) 0 (u8s rec) = u8s rec := by subst hm; simp [splice]
  rw [e] at h
  exact h.cel_row (by simp [hm]) hx
structure OpI where
  done : List (Sla UInt8)
  rb : Option Addr
  rc : Nat
  rest : List UInt8
  qb : Option Addr
  qc : Nat
structure OpR (w0 : World) (B : List HProp) (b : List UInt8) (i : OpI) : Prop where
  rd : RdC w0 B i.rb (u8s i.rest)
  cap : i.rest.length ≤ i.rc
  recs : i.done.map (·.xs) ++ (recsB i.rest).1 = (recsB b).1
  left : (recsB i.rest).2 = (recsB b).2
  len : i.done.length + i.rest.length ≤ b.length
  caps : ∀ x ∈ i.done, x.xs.length ≤ x.cap
  qcap : i.done.length ≤ i.qc
theorem journal_open_ok {w0 : World} {A : List HProp} {d : Nat} {nm : ByteArray} {st st' : DSt} (hd : 0 ≤ st.deeds ∧ st.deeds + 1 ≤ 9223372036854775807) (ho : openS nm st = (st', 0)) :
    Fun Try.prog w0 38 [.pointer (some ⟨d, 0, none⟩), .string nm] (pdisk d st :: A)
      (Ret w0 (fun i : Nat × Option Addr × Nat × List (Sla UInt8) => i.2.2.2.map (·.xs) = (recsB (readS nm st).1).1 ∧ i.2.2.2.length ≤ i.2.2.1)
        (fun i => .tuple #[.pointer (some ⟨i.1, 0, none⟩), .slice i.2.1 i.2.2.2.length i.2.2.1, .int .i64 0])
        (fun i => cel i.1 (jcells d nm i.2.2.2.length false) 120 :: pdisk d st' :: row i.2.1 i.2.2.1 1 94 (bss i.2.2.2) :: rows 5 i.2.2.2 :: A)) := by
  refine Fun.known (fun w h => pdisk_len (nm := nm) h) fun hlen => ?_
  have h1 : st.off = false := by
    cases h : st.off with
    | false => rfl
    | true => unfold openS at ho; rw [if_pos h] at ho; cases ho
  have hno : ¬ st.off = true := by rw [h1]; decide
  have h2 : decide (okName nm) = true := by
    by_cases h : okName nm
    · simpa using h
    · unfold openS at ho; rw [if_neg hno, if_pos h] at ho; cases ho
  unfold openS at ho
  rw [if_neg hno, if_neg (by simpa using h2)] at ho
  obtain ⟨b, hb⟩ : ∃ b, b = (readS nm st).1 := ⟨_, rfl⟩
  obtain ⟨e, he⟩ : ∃ e, e = (readS nm st).2 := ⟨_, rfl⟩
  have hrd : readS nm st = (b, e) := by rw [hb, he]
  rw [← hb] at ho hlen ⊢
  refine Fun.enter Try.func38 rfl Try.ntmps38 rfl ?_
  refine WC.seq <| WC.region <| sv (vaP rfl) <| sv (vaS rfl) <| sv (vaI rfl) <| WL.nil <| WX.thenN <| WC.seq <| WC.seq <| WC.region <| sv (vmP rfl) <| sv (vpeqF Try.underlying60 rfl rfl) <| WL.nil <| WX.thenN <| ?_
  refine WC.ff rfl ?_
  refine WC.skip <| WX.thenN <| WC.seq <| WC.seq <| WC.region <| sv (vmP rfl) <| cl (disk_up_at h1) ct47 rfl fun _ _ => sv (vnot rfl) <| WL.nil <| WX.thenN <| ?_
  refine WC.ff rfl ?_
  refine WC.skip <| WX.thenN <| WC.seq <| WC.seq <| WC.region <| sv (vmT rfl) <| cl (h2 ▸ journal_may) ct48 rfl fun _ _ => sv (vnot rfl) <| WL.nil <| WX.thenN <| ?_
  refine WC.ff rfl ?_
  refine WC.skip <| WX.thenN <| WC.seq <| WC.region <| sv (vmP rfl) <| sv (vmT rfl) <| cl (disk_read_at hrd) ct49 rfl fun r4 hr4 => sv vmv <| sv (vex rfl rfl) <| sv (vex rfl rfl) <| sv (vaS rfl) <| sv (vaI rfl) <| WL.nil <| WX.thenN <| WC.seq <| WC.region <| sv (vmS rfl) <| sv (vaS rfl) <| WL.nil <| WX.thenN <| WC.seq <| WC.region <| sv (vaS rfl) <| WL.nil <| WX.thenN <| WC.seq <| WC.block <| ?_
  refine WC.loop (ι := OpI) (fun i => [(9, .slice i.rb i.rest.length i.rc), (10, .slice i.qb i.done.length i.qc)]) [(0, .pointer _), (1, .string _), (7, .slice _ _ _)] (fun i => row i.qb i.qc 1 94 (bss i.done) :: rows 5 i.done :: pdisk d st :: row r4.1 r4.2 1 5 (u8s b) :: A) (fun i => OpR w0 (row r4.1 r4.2 1 5 (u8s b) :: A) b i) (fun i => i.rest.length) (⟨[], r4.1, r4.2, b, none, 0⟩) (⟨reads, hr4, by simp, rfl, by simp, by simp, by simp⟩) ⟨rfl, rfl, trivial⟩ ⟨rfl, rfl, rfl, trivial⟩ (fun w h => Own.intro_row_nil (Own.intro_emp h.pk1)) ?_
  rintro ⟨done, rb, rc, rest, qb, qc⟩ ⟨u1, u2, u3, u4, u5, u6, u7⟩ ρh
  dsimp only at u1 u2 u3 u4 u5 u6 u7 ⊢
  rcases hn : nextB rest with _ | m
  · -- none
    have hrs := recsB_none hn
    rw [hrs] at u3 u4
    dsimp only at u3 u4
    rw [List.append_nil] at u3
    refine WC.block <| WC.seq <| WC.region <| sv (vmS rfl) <| cl (journal_next_none u1.cons.cons.cons rfl u2 (by omega) hn) ct50 rfl fun _ _ => sv vmv <| sv (vex rfl rfl) <| sv (vex rfl rfl) <| sv (vex rfl rfl) <| sv (vaS rfl) <| sv (vaS rfl) <| sv (vaB rfl) <| WL.nil <| WX.thenN <| WC.seq <| WC.seq <| WC.region <| sv (vmB rfl) <| sv (vnot rfl) <| WL.nil <| WX.thenN <| ?_
    refine WC.tt rfl ?_
    refine WC.exit <| WX.thenE <| WX.blockE rfl <| WX.thenE <| WX.blockH <| WX.thenN <| WC.seq <| WC.seq <| WC.region <| sv (vmS rfl) <| sv (vlen Try.underlying94 rfl) <| sv (vgt rfl rfl) <| WL.nil <| WX.thenN <| ?_
    refine WC.ite rfl (fun h5 => ?_) (fun h5 => ?_)
    · -- then
      rw [if_neg (by rw [← u4]; intro h; rw [h] at h5; simp at h5), ← u4] at ho
      refine WC.seq <| WC.region <| sv (vmP rfl) <| sv (vmT rfl) <| sv (vmS rfl) <| sv (vlen Try.underlying94 rfl) <| sv (vmS rfl) <| sv (vlen Try.underlying94 rfl) <| sv (vsub rfl rfl (by omega)) <| pm (fun _ h => h.pk2) <| cl (disk_cut_at (nm := nm) hd ho) ct51 rfl fun _ _ => sv (vaI rfl) <| WL.nil <| WX.thenN <| WC.seq <| WC.region <| sv (vmI rfl) <| sv (vne rfl rfl) <| WL.nil <| WX.thenN <| ?_
      refine WC.ite rfl (fun h6 => ?_) (fun h6 => ?_)
      · -- then
        exact absurd rfl h6
      · -- else
        exact WC.skip <| WX.thenN <| WC.seq <| WC.region <| sv (vmP rfl) <| sv (vmT rfl) <| sv (vmS rfl) <| sv (vlen Try.underlying91 rfl) <| sv (vbd (ps := [(0, .pointer _), (1, .string _), (2, .int _ _)]) (cs := [_, _, _, _]) bt120 zt120 rfl (by rfl)) <| bxc (v := .agg _) (cs := [.pointer _, .string _, .int _ _, .bool _]) rfl rfl fun b13 => sv (vmS rfl) <| sv (vaP rfl) <| sv (vaS rfl) <| sv (vaI rfl) <| WL.nil <| WX.thenN <| WC.ret <| WX.ret3 rfl ((b13, qb, qc, done)) (⟨u3, u7⟩) rfl (fun w h => h.pk4.tail)
    · -- else
      have hr0 : rest = [] := List.eq_nil_of_length_eq_zero (by omega)
      rw [if_pos (by rw [← u4]; exact hr0)] at ho
      obtain rfl : st = st' := by cases ho; rfl
      exact WC.skip <| WX.thenN <| WC.seq <| WC.region <| sv (vmP rfl) <| sv (vmT rfl) <| sv (vmS rfl) <| sv (vlen Try.underlying91 rfl) <| sv (vbd (ps := [(0, .pointer _), (1, .string _), (2, .int _ _)]) (cs := [_, _, _, _]) bt120 zt120 rfl (by rfl)) <| bxc (v := .agg _) (cs := [.pointer _, .string _, .int _ _, .bool _]) rfl rfl fun b13 => sv (vmS rfl) <| sv (vaP rfl) <| sv (vaS rfl) <| sv (vaI rfl) <| WL.nil <| WX.thenN <| WC.ret <| WX.ret3 rfl ((b13, qb, qc, done)) (⟨u3, u7⟩) rfl (fun w h => h.pk4.tail.pk3.pk1)
  · -- some
    have hle := nextB_le hn
    have hrs := recsB_some hn
    have hml : ((rest.drop 8).take m).length = m := by rw [List.length_take, List.length_drop]; omega
    have hdl : (rest.drop (8 + m)).length = rest.length - (8 + m) := List.length_drop
    refine WC.block <| WC.seq <| WC.region <| sv (vmS rfl) <| cl (journal_next_some u1.cons.cons.cons rfl u2 (by omega) hn) ct50 rfl fun _ _ => sv vmv <| sv (vex rfl rfl) <| sv (vex rfl rfl) <| sv (vex rfl rfl) <| sv (vaS rfl) <| sv (vaS rfl) <| sv (vaB rfl) <| WL.nil <| WX.thenN <| WC.seq <| WC.seq <| WC.region <| sv (vmB rfl) <| sv (vnot rfl) <| WL.nil <| WX.thenN <| ?_
    refine WC.ff rfl ?_
    refine WC.skip <| WX.thenN <| WC.seq <| WC.region <| sv (vmS rfl) <| sv (vlen Try.underlying94 rfl) <| mk Try.underlying94 zt5 rfl rfl (by omega) (by omega) (by omega) (by omega) fun b6 => ?_
    rw [madeB, show ((m : Int)).toNat * 1 = m by omega]
    refine sv (vaS rfl) <| WL.nil <| WX.thenN <| WC.seq <| WC.region <| sv (vmS rfl) <| sv (vmS rfl) <| cp sz5 Try.underlying94 rfl rfl (rdb u1 8 (8 + m) m (by omega)).cons.cons.cons.cons (by rw [u8s_length, hml]; omega) (u8s_one _) (by rw [u8s_length, hml]; simp) <| WL.nil <| WX.thenN <| WC.region <| sv (vmS rfl) <| sv (vmS rfl) <| pm (fun _ h => (open_row hml (by simp only [maxLen]; omega) h).pk1) <| ap1 (v := .slice _ _ _) Try.underlying91 zt94 rfl (fun _ => rfl) (fun _ => rfl) rfl rfl rfl (by rw [bss_length]) (by simp only [maxLen]; omega) (by omega) fun _ base8 c8 hc8 =>sv (vmS rfl) <| sv (vaS rfl) <| sv (vaS rfl) <| WL.nil <| WX.blockN <| WX.again (⟨done ++ [⟨some ⟨b6, 0, none⟩, (rest.drop 8).take m, m⟩], slB rb (8 + m) rc 1, rc - (8 + m), rest.drop (8 + m), base8, c8⟩) (⟨rdbL u1 (8 + m) rc u2, by dsimp only; omega, by dsimp only; rw [List.map_append, ← u3, hrs]; simp, by rw [← u4, hrs], by simp only [List.length_append, List.length_cons, List.length_nil]; omega, fun x hx => by rcases List.mem_append.1 hx with hx | hx; exact u6 x hx; simp only [List.mem_singleton] at hx; subst hx; dsimp only; omega, by rw [List.length_append]; exact hc8⟩) (by dsimp only; omega) ⟨by show Value.slice _ _ _ = Value.slice _ _ _; rfl, by show Value.slice _ _ _ = Value.slice _ _ _; rw [List.length_append]; rfl, trivial⟩ ⟨rfl, rfl, rfl, trivial⟩ (fun w h => ?_)
    rw [bss_snoc]
    dsimp only
    rw [hml]
    exact (rows_snoc (y := ⟨some ⟨b6, 0, none⟩, (rest.drop 8).take m, m⟩) (h.ix [1, 2, 0, 3, 4])).ix [1, 0, 2, 3]
theorem journal_open_bad {w0 : World} {A : List HProp} {d : Nat} {nm : ByteArray} {st st' : DSt} {er : Int} (hd : 0 ≤ st.deeds ∧ st.deeds + 1 ≤ 9223372036854775807) (hup : st.off = false) (hnm : okName nm) (hne : er ≠ 0) (ho : openS nm st = (st', er)) :
    Fun Try.prog w0 38 [.pointer (some ⟨d, 0, none⟩), .string nm] (pdisk d st :: A)
      (Ret w0 (fun _ : Unit => True) (fun _ => .tuple #[.pointer none, .slice none 0 0, .int .i64 er]) (fun _ => pdisk d st' :: A)) := by
  refine Fun.known (fun w h => pdisk_len (nm := nm) h) fun hlen => ?_
  have h1 := hup
  have hno : ¬ st.off = true := by rw [h1]; decide
  have h2 : decide (okName nm) = true := by simpa using hnm
  unfold openS at ho
  rw [if_neg hno, if_neg (by simpa using h2)] at ho
  obtain ⟨b, hb⟩ : ∃ b, b = (readS nm st).1 := ⟨_, rfl⟩
  obtain ⟨e, he⟩ : ∃ e, e = (readS nm st).2 := ⟨_, rfl⟩
  have hrd : readS nm st = (b, e) := by rw [hb, he]
  rw [← hb] at ho hlen
  refine Fun.enter Try.func38 rfl Try.ntmps38 rfl ?_
  refine WC.seq <| WC.region <| sv (vaP rfl) <| sv (vaS rfl) <| sv (vaI rfl) <| WL.nil <| WX.thenN <| WC.seq <| WC.seq <| WC.region <| sv (vmP rfl) <| sv (vpeqF Try.underlying60 rfl rfl) <| WL.nil <| WX.thenN <| ?_
  refine WC.ff rfl ?_
  refine WC.skip <| WX.thenN <| WC.seq <| WC.seq <| WC.region <| sv (vmP rfl) <| cl (disk_up_at h1) ct47 rfl fun _ _ => sv (vnot rfl) <| WL.nil <| WX.thenN <| ?_
  refine WC.ff rfl ?_
  refine WC.skip <| WX.thenN <| WC.seq <| WC.seq <| WC.region <| sv (vmT rfl) <| cl (h2 ▸ journal_may) ct48 rfl fun _ _ => sv (vnot rfl) <| WL.nil <| WX.thenN <| ?_
  refine WC.ff rfl ?_
  refine WC.skip <| WX.thenN <| WC.seq <| WC.region <| sv (vmP rfl) <| sv (vmT rfl) <| cl (disk_read_at hrd) ct49 rfl fun r4 hr4 => sv vmv <| sv (vex rfl rfl) <| sv (vex rfl rfl) <| sv (vaS rfl) <| sv (vaI rfl) <| WL.nil <| WX.thenN <| WC.seq <| WC.region <| sv (vmS rfl) <| sv (vaS rfl) <| WL.nil <| WX.thenN <| WC.seq <| WC.region <| sv (vaS rfl) <| WL.nil <| WX.thenN <| WC.seq <| WC.block <| ?_
  refine WC.loop (ι := OpI) (fun i => [(9, .slice i.rb i.rest.length i.rc), (10, .slice i.qb i.done.length i.qc)]) [(0, .pointer _), (1, .string _), (7, .slice _ _ _)] (fun i => row i.qb i.qc 1 94 (bss i.done) :: rows 5 i.done :: pdisk d st :: row r4.1 r4.2 1 5 (u8s b) :: A) (fun i => OpR w0 (row r4.1 r4.2 1 5 (u8s b) :: A) b i) (fun i => i.rest.length) (⟨[], r4.1, r4.2, b, none, 0⟩) (⟨reads, hr4, by simp, rfl, by simp, by simp, by simp⟩) ⟨rfl, rfl, trivial⟩ ⟨rfl, rfl, rfl, trivial⟩ (fun w h => Own.intro_row_nil (Own.intro_emp h.pk1)) ?_
  rintro ⟨done, rb, rc, rest, qb, qc⟩ ⟨u1, u2, u3, u4, u5, u6, u7⟩ ρh
  dsimp only at u1 u2 u3 u4 u5 u6 u7 ⊢
  rcases hn : nextB rest with _ | m
  · -- none
    have hrs := recsB_none hn
    rw [hrs] at u3 u4
    dsimp only at u3 u4
    rw [List.append_nil] at u3
    refine WC.block <| WC.seq <| WC.region <| sv (vmS rfl) <| cl (journal_next_none u1.cons.cons.cons rfl u2 (by omega) hn) ct50 rfl fun _ _ => sv vmv <| sv (vex rfl rfl) <| sv (vex rfl rfl) <| sv (vex rfl rfl) <| sv (vaS rfl) <| sv (vaS rfl) <| sv (vaB rfl) <| WL.nil <| WX.thenN <| WC.seq <| WC.seq <| WC.region <| sv (vmB rfl) <| sv (vnot rfl) <| WL.nil <| WX.thenN <| ?_
    refine WC.tt rfl ?_
    refine WC.exit <| WX.thenE <| WX.blockE rfl <| WX.thenE <| WX.blockH <| WX.thenN <| WC.seq <| WC.seq <| WC.region <| sv (vmS rfl) <| sv (vlen Try.underlying94 rfl) <| sv (vgt rfl rfl) <| WL.nil <| WX.thenN <| ?_
    refine WC.ite rfl (fun h5 => ?_) (fun h5 => ?_)
    · -- then
      rw [if_neg (by rw [← u4]; intro h; rw [h] at h5; simp at h5), ← u4] at ho
      refine WC.seq <| WC.region <| sv (vmP rfl) <| sv (vmT rfl) <| sv (vmS rfl) <| sv (vlen Try.underlying94 rfl) <| sv (vmS rfl) <| sv (vlen Try.underlying94 rfl) <| sv (vsub rfl rfl (by omega)) <| pm (fun _ h => h.pk2) <| cl (disk_cut_at (nm := nm) hd ho) ct51 rfl fun _ _ => sv (vaI rfl) <| WL.nil <| WX.thenN <| WC.seq <| WC.region <| sv (vmI rfl) <| sv (vne rfl rfl) <| WL.nil <| WX.thenN <| ?_
      refine WC.ite rfl (fun h6 => ?_) (fun h6 => ?_)
      · -- then
        exact WC.seq <| WC.region <| sv (vmI rfl) <| sv (vaP rfl) <| sv (vaS rfl) <| sv (vaI rfl) <| WL.nil <| WX.thenN <| WC.ret <| WX.thenR <| WX.ret3 rfl (()) (trivial) rfl (fun w h => h.pk1.tail.pk1.tail.pk1.tail)
      · -- else
        exact absurd hne h6
    · -- else
      exact absurd (by rw [if_pos (show (recsB b).2 = [] by rw [← u4]; exact List.eq_nil_of_length_eq_zero (by omega))] at ho; cases ho; rfl) hne
  · -- some
    have hle := nextB_le hn
    have hrs := recsB_some hn
    have hml : ((rest.drop 8).take m).length = m := by rw [List.length_take, List.length_drop]; omega
    have hdl : (rest.drop (8 + m)).length = rest.length - (8 + m) := List.length_drop
    refine WC.block <| WC.seq <| WC.region <| sv (vmS rfl) <| cl (journal_next_some u1.cons.cons.cons rfl u2 (by omega) hn) ct50 rfl fun _ _ => sv vmv <| sv (vex rfl rfl) <| sv (vex rfl rfl) <| sv (vex rfl rfl) <| sv (vaS rfl) <| sv (vaS rfl) <| sv (vaB rfl) <| WL.nil <| WX.thenN <| WC.seq <| WC.seq <| WC.region <| sv (vmB rfl) <| sv (vnot rfl) <| WL.nil <| WX.thenN <| ?_
    refine WC.ff rfl ?_
    refine WC.skip <| WX.thenN <| WC.seq <| WC.region <| sv (vmS rfl) <| sv (vlen Try.underlying94 rfl) <| mk Try.underlying94 zt5 rfl rfl (by omega) (by omega) (by omega) (by omega) fun b6 => ?_
    rw [madeB, show ((m : Int)).toNat * 1 = m by omega]
    refine sv (vaS rfl) <| WL.nil <| WX.thenN <| WC.seq <| WC.region <| sv (vmS rfl) <| sv (vmS rfl) <| cp sz5 Try.underlying94 rfl rfl (rdb u1 8 (8 + m) m (by omega)).cons.cons.cons.cons (by rw [u8s_length, hml]; omega) (u8s_one _) (by rw [u8s_length, hml]; simp) <| WL.nil <| WX.thenN <| WC.region <| sv (vmS rfl) <| sv (vmS rfl) <| pm (fun _ h => (open_row hml (by simp only [maxLen]; omega) h).pk1) <| ap1 (v := .slice _ _ _) Try.underlying91 zt94 rfl (fun _ => rfl) (fun _ => rfl) rfl rfl rfl (by rw [bss_length]) (by simp only [maxLen]; omega) (by omega) fun _ base8 c8 hc8 =>sv (vmS rfl) <| sv (vaS rfl) <| sv (vaS rfl) <| WL.nil <| WX.blockN <| WX.again (⟨done ++ [⟨some ⟨b6, 0, none⟩, (rest.drop 8).take m, m⟩], slB rb (8 + m) rc 1, rc - (8 + m), rest.drop (8 + m), base8, c8⟩) (⟨rdbL u1 (8 + m) rc u2, by dsimp only; omega, by dsimp only; rw [List.map_append, ← u3, hrs]; simp, by rw [← u4, hrs], by simp only [List.length_append, List.length_cons, List.length_nil]; omega, fun x hx => by rcases List.mem_append.1 hx with hx | hx; exact u6 x hx; simp only [List.mem_singleton] at hx; subst hx; dsimp only; omega, by rw [List.length_append]; exact hc8⟩) (by dsimp only; omega) ⟨by show Value.slice _ _ _ = Value.slice _ _ _; rfl, by show Value.slice _ _ _ = Value.slice _ _ _; rw [List.length_append]; rfl, trivial⟩ ⟨rfl, rfl, rfl, trivial⟩ (fun w h => ?_)
    rw [bss_snoc]
    dsimp only
    rw [hml]
    exact (rows_snoc (y := ⟨some ⟨b6, 0, none⟩, (rest.drop 8).take m, m⟩) (h.ix [1, 2, 0, 3, 4])).ix [1, 0, 2, 3]
end Go.Proofs.Ytigjompojlhomaa
end
section
set_option linter.unusedVariables false
set_option linter.unusedSimpArgs false
namespace Go.Journal
open Go.Sl Go.Pack

theorem le4_length (n : Nat) : (le4 n).length = 4 := rfl
theorem sum_lt' (bs : List UInt8) : sum bs < 4294967296 := (~~~ (crc (BitVec.allOnes 32) bs)).isLt
theorem frame_length (r : List UInt8) : (frameB r).length = r.length + 8 := by simp [frameB, le4]
theorem le4_num4 {b : List UInt8} (h : 4 ≤ b.length) : le4 (num4 b) = b.take 4 := by
  match b, h with
  | a :: c :: d :: e :: r, _ =>
    have ha := a.toNat_lt
    have hc := c.toNat_lt
    have hd := d.toNat_lt
    have he := e.toNat_lt
    have e0 : num4 (a :: c :: d :: e :: r) = a.toNat + 256 * c.toNat + 65536 * d.toNat + 16777216 * e.toNat := rfl
    rw [e0]
    unfold le4
    have key : ∀ (x : UInt8) (m : Nat), m % 256 = x.toNat → UInt8.ofNat m = x := by
      intro x m hm
      apply UInt8.toNat_inj.1
      rw [UInt8.toNat_ofNat']
      exact hm
    rw [key a _ (by omega), key c _ (by omega), key d _ (by omega), key e _ (by omega)]
    rfl
theorem nextB_frame {r : List UInt8} (h : r.length ≤ 1048576) (t : List UInt8) : nextB (frameB r ++ t) = some r.length := by
  have hs := sum_lt' (le4 r.length ++ r)
  have e1 : frameB r ++ t = le4 r.length ++ (le4 (sum (le4 r.length ++ r)) ++ (r ++ t)) := by simp [frameB]
  have hn : num4 (frameB r ++ t) = r.length := by rw [e1]; exact num4_le4 (by omega) _
  have hd : (frameB r ++ t).drop 4 = le4 (sum (le4 r.length ++ r)) ++ (r ++ t) := by rw [e1]; exact List.drop_left' (le4_length _)
  have hn2 : num4 ((frameB r ++ t).drop 4) = sum (le4 r.length ++ r) := by rw [hd]; exact num4_le4 hs _
  have ht : (frameB r ++ t).take 4 = le4 r.length := by rw [e1]; exact List.take_left' (le4_length _)
  have hd8 : (frameB r ++ t).drop 8 = r ++ t := by
    have : (frameB r ++ t).drop 8 = ((frameB r ++ t).drop 4).drop 4 := by rw [List.drop_drop]
    rw [this, hd]; exact List.drop_left' (le4_length _)
  unfold nextB
  rw [hn, hn2, ht, hd8, List.take_left' rfl, if_neg (by rw [List.length_append, frame_length]; omega), if_neg (by rw [List.length_append, frame_length]; omega), if_neg (by simp)]
def flat (rs : List (List UInt8)) : List UInt8 := rs.flatMap frameB
theorem flat_append (a b : List (List UInt8)) : flat (a ++ b) = flat a ++ flat b := by simp [flat]
theorem flat_one (r : List UInt8) : flat [r] = frameB r := by simp [flat]
theorem recsB_frame {r : List UInt8} (h : r.length ≤ 1048576) (t : List UInt8) : recsB (frameB r ++ t) = (r :: (recsB t).1, (recsB t).2) := by
  have hn := nextB_frame h t
  have e1 : frameB r ++ t = (le4 r.length ++ le4 (sum (le4 r.length ++ r))) ++ (r ++ t) := by simp [frameB]
  have hd8 : (frameB r ++ t).drop 8 = r ++ t := by rw [e1]; exact List.drop_left' rfl
  have hd : (frameB r ++ t).drop (8 + r.length) = t := by
    rw [← List.drop_drop, hd8]; exact List.drop_left' rfl
  rw [recsB_some hn, hd, hd8, List.take_left' rfl]
theorem recsB_flat : ∀ (rs : List (List UInt8)) (t : List UInt8), (∀ r ∈ rs, r.length ≤ 1048576) → recsB (flat rs ++ t) = (rs ++ (recsB t).1, (recsB t).2)
  | [], t, _ => by simp [flat]
  | r :: rs, t, h => by
    have e : flat (r :: rs) ++ t = frameB r ++ (flat rs ++ t) := by simp [flat]
    rw [e, recsB_frame (h r (by simp)), recsB_flat rs t fun x hx => h x (by simp [hx])]
    rfl
theorem recsB_nil : recsB [] = ([], []) := recsB_none (by simp [nextB])
theorem nextB_take {b : List UInt8} {n : Nat} (h : nextB b = some n) : b.take (8 + n) = frameB ((b.drop 8).take n) := by
  have hle := nextB_le h
  unfold nextB at h
  rw [if_neg (by omega)] at h
  split at h
  · cases h
  · split at h
    · cases h
    · rename_i h1 h2
      have hn : num4 b = n := by simpa using h
      have h2' : sum (b.take 4 ++ (b.drop 8).take (num4 b)) = num4 (b.drop 4) := by simpa using h2
      have hl : ((b.drop 8).take n).length = n := by rw [List.length_take, List.length_drop]; omega
      unfold frameB
      rw [hl, ← hn, le4_num4 (by omega), h2', le4_num4 (by rw [List.length_drop]; omega)]
      have e8 : b.take 4 ++ (b.drop 4).take 4 = b.take 8 := by
        rw [← List.take_add]
      rw [e8, List.take_add]
theorem flat_recsB : ∀ (k : Nat) (b : List UInt8), b.length ≤ k → flat (recsB b).1 ++ (recsB b).2 = b ∧ ∀ r ∈ (recsB b).1, r.length ≤ 1048576
  | 0, b, h => by
    have : b = [] := List.eq_nil_of_length_eq_zero (by omega)
    subst this; rw [recsB_nil]; simp [flat]
  | k + 1, b, h => by
    cases hn : nextB b with
    | none => rw [recsB_none hn]; simp [flat]
    | some n =>
      have hle := nextB_le hn
      have ih := flat_recsB k (b.drop (8 + n)) (by rw [List.length_drop]; omega)
      rw [recsB_some hn]
      constructor
      · have e : flat ((b.drop 8).take n :: (recsB (b.drop (8 + n))).1) = frameB ((b.drop 8).take n) ++ flat (recsB (b.drop (8 + n))).1 := by simp [flat]
        dsimp only
        rw [e, ← nextB_take hn, List.append_assoc, ih.1, List.take_append_drop]
      · intro r hr
        rcases List.mem_cons.1 hr with rfl | hr
        · rw [List.length_take]; omega
        · exact ih.2 r hr
theorem recsB_whole (b : List UInt8) : flat (recsB b).1 ++ (recsB b).2 = b := (flat_recsB _ b (Nat.le_refl _)).1
theorem recsB_short (b : List UInt8) : ∀ r ∈ (recsB b).1, r.length ≤ 1048576 := (flat_recsB _ b (Nat.le_refl _)).2
theorem recsB_again (b : List UInt8) : recsB (flat (recsB b).1) = ((recsB b).1, []) := by
  have := recsB_flat (recsB b).1 [] (recsB_short b)
  rw [List.append_nil, recsB_nil] at this
  simpa using this
theorem flat_length (rs : List (List UInt8)) : rs.length ≤ (flat rs).length := by
  induction rs with
  | nil => simp
  | cons r rs ih =>
    have e : flat (r :: rs) = frameB r ++ flat rs := by simp [flat]
    rw [e, List.length_append, frame_length, List.length_cons]; omega
end Go.Journal
end
section
set_option linter.unusedVariables false
set_option linter.unusedSimpArgs false
set_option maxRecDepth 4000
namespace Go.Proofs.Ytigjompojlhomaa
open Go.Sl Go.RowKit Go.Pack Go.Journal

/-- a disk that is on and was not armed; one file's bytes (none: none) -/
structure Fl (st : DSt) (nm : ByteArray) (all : List UInt8) (n : Int) : Prop where
  off : st.off = false
  fuse : st.fuse = 0
  deeds : st.deeds = n
  file : ((st.files nm).getD ([], 0)).1 = all
section
variable {st : DSt} {nm : ByteArray} {all b : List UInt8} {n : Int}
theorem Fl.new : Fl newD nm [] 0 := ⟨rfl, rfl, rfl, rfl⟩
theorem Fl.append (h : Fl st nm all n) (hn : okName nm) (hb : all.length + b.length ≤ 16777216) : ∃ st', appendS nm b st = (st', 0) ∧ Fl st' nm (all ++ b) (n + 1) ∧ (st'.files nm).isSome = true := by
  obtain ⟨st', e, o⟩ := One.append0 (st := st) (nm := nm) (all := all) (safe := ((st.files nm).getD ([], 0)).2) (b := b) h.off h.fuse h.deeds (by rw [← h.file]) hn hb
  exact ⟨st', e, ⟨o.off, o.fuse, o.deeds, by rw [o.file]; rfl⟩, by rw [o.file]; rfl⟩
theorem Fl.one (h : Fl st nm all n) (hs : (st.files nm).isSome = true) : ∃ safe, One st nm all safe n := by
  obtain ⟨v, hv⟩ := Option.isSome_iff_exists.1 hs
  have := h.file
  rw [hv] at this
  exact ⟨v.2, h.off, h.fuse, h.deeds, by rw [hv, ← this]; rfl⟩
theorem One.fl {safe : Nat} (h : One st nm all safe n) : Fl st nm all n := ⟨h.off, h.fuse, h.deeds, by rw [h.file]; rfl⟩
theorem Fl.add (h : Fl st nm all n) (hn : okName nm) (hb : all.length + (b.length + 8) ≤ 16777216) : ∃ st', addP nm b st = (st', 0) ∧ Fl st' nm (all ++ frameB b) (n + 1 + 1) ∧ (st'.files nm).isSome = true := by
  obtain ⟨s1, e1, f1, i1⟩ := h.append (b := frameB b) hn (by rw [frameB_len]; exact hb)
  obtain ⟨sf, o1⟩ := f1.one i1
  obtain ⟨s2, e2, o2⟩ := o1.sync
  refine ⟨s2, ?_, o2.fl, by rw [o2.file]; rfl⟩
  unfold addP
  rw [e1, if_pos rfl, e2]
theorem One.cut {safe : Nat} (h : One st nm all safe n) {k : Int} (hk : 0 ≤ k ∧ k ≤ all.length) : ∃ st', cutS nm k st = (st', 0) ∧ One st' nm (all.take k.toNat) (min safe k.toNat) (n + 1) := by
  have hk2 : cutS nm k st = deedS (putV nm (all.take k.toNat, min safe k.toNat)) id st := by unfold cutS; rw [if_neg (by rw [h.off]; decide), h.file]; dsimp only; rw [if_neg (by omega)]
  unfold deedS at hk2
  rw [if_neg (by rw [h.fuse]; decide)] at hk2
  exact ⟨_, hk2, h.off, by dsimp only; rw [h.fuse]; rfl, by dsimp only; rw [h.deeds], by simp [putV]⟩
theorem Fl.read (h : Fl st nm all n) : (readS nm st).1 = all := by
  unfold readS
  rw [if_neg (by rw [h.off]; decide), ← h.file]
  cases st.files nm <;> rfl
theorem Fl.open (h : Fl st nm all n) (hn : okName nm) : ∃ st' n', openS nm st = (st', 0) ∧ Fl st' nm (flat (recsB all).1) n' ∧ n ≤ n' ∧ n' ≤ n + 1 ∧ ((st.files nm).isSome = true → (st'.files nm).isSome = true) := by
  have hw := recsB_whole all
  have hlen := congrArg List.length hw
  rw [List.length_append] at hlen
  unfold openS
  rw [if_neg (by rw [h.off]; decide), if_neg (by simpa using hn), h.read]
  by_cases hr : (recsB all).2 = []
  · rw [if_pos hr]
    rw [hr, List.append_nil] at hw
    exact ⟨st, n, rfl, by rw [hw]; exact h, by omega, by omega, id⟩
  · rw [if_neg hr]
    have hne : all ≠ [] := by rintro rfl; exact hr (by rw [recsB_nil])
    have hs : (st.files nm).isSome = true := by
      cases hf : st.files nm with
      | none => have := h.file; rw [hf] at this; exact absurd this.symm hne
      | some v => rfl
    obtain ⟨safe, o⟩ := h.one hs
    obtain ⟨st', e, o'⟩ := o.cut (k := (all.length : Int) - ((recsB all).2.length : Int)) (by omega)
    have hk : ((all.length : Int) - ((recsB all).2.length : Int)).toNat = (flat (recsB all).1).length := by omega
    rw [hk] at o'
    have ht : all.take (flat (recsB all).1).length = flat (recsB all).1 := by
      conv => lhs; rw [← hw]
      exact List.take_left' (by rw [hw])
    rw [ht] at o'
    exact ⟨st', n + 1, e, o'.fl, by omega, by omega, fun _ => by rw [o'.file]; rfl⟩
end
end Go.Proofs.Ytigjompojlhomaa
end
section
set_option linter.unusedVariables false
set_option linter.unusedSimpArgs false
set_option maxRecDepth 4000
namespace Go.Proofs.Ytigjompojlhomaa
open Go.Sl Go.RowKit Go.Pack Go.Journal

theorem bytes_eq {a b : List UInt8} : (⟨a.toArray⟩ : ByteArray) = ⟨b.toArray⟩ ↔ a = b := by
  constructor
  · intro h
    have := congrArg (fun x : ByteArray => x.data.toList) h
    simpa using this
  · rintro rfl; rfl
theorem take_succ_eq {a b : List (List UInt8)} {i : Nat} (ha : i < a.length) (hb : i < b.length) (h : a.take i = b.take i) (he : a[i] = b[i]) : a.take (i + 1) = b.take (i + 1) := by
  rw [List.take_succ_eq_append_getElem ha, List.take_succ_eq_append_getElem hb, h, he]
theorem bss_take (l : List (Sla UInt8)) (k : Nat) : bss (l.take k) = (bss l).take k := by simp [bss]
theorem bD {p : Prop} [Decidable p] (h : p) : Value.bool (decide p) = .bool true := by simp [h]
theorem journal_add_at {w0 : World} {A : List HProp} {j d k c : Nat} {nm : ByteArray} {n : Int} {base : Option Addr} {rec : List UInt8} {st st' : DSt} (hR : RdC w0 A base (u8s rec)) (hk : k = rec.length) (hl : rec.length ≤ 1048576) (hs : nm.size ≤ 140737488351232) (hd : 0 ≤ st.deeds ∧ st.deeds + 2 ≤ 9223372036854775807) (hn : 0 ≤ n ∧ n + 1 ≤ 9223372036854775807) (h : addP nm rec st = (st', 0)) :
    Fun Try.prog w0 45 [.pointer (some ⟨j, 0, none⟩), .slice base k c] (cel j (jcells d nm n false) 120 :: pdisk d st :: A)
      (Ret w0 (fun _ : Unit => True) (fun _ => .int .i64 0) (fun _ => cel j (jcells d nm (n + 1) false) 120 :: pdisk d st' :: A)) := by
  have := journal_add_ok (j := j) (d := d) (c := c) hR hk hl hs hd hn
  rw [h] at this
  exact this
theorem journal_open_at {w0 : World} {A : List HProp} {d : Nat} {nm : ByteArray} {st st' : DSt} {recs : List (List UInt8)} (hd : 0 ≤ st.deeds ∧ st.deeds + 1 ≤ 9223372036854775807) (ho : openS nm st = (st', 0)) (hr : (recsB (readS nm st).1).1 = recs) :
    Fun Try.prog w0 38 [.pointer (some ⟨d, 0, none⟩), .string nm] (pdisk d st :: A)
      (Ret w0 (fun i : Nat × Option Addr × Nat × List (Sla UInt8) => i.2.2.2.map (·.xs) = recs ∧ i.2.2.2.length ≤ i.2.2.1)
        (fun i => .tuple #[.pointer (some ⟨i.1, 0, none⟩), .slice i.2.1 i.2.2.2.length i.2.2.1, .int .i64 0])
        (fun i => cel i.1 (jcells d nm i.2.2.2.length false) 120 :: pdisk d st' :: row i.2.1 i.2.2.1 1 94 (bss i.2.2.2) :: rows 5 i.2.2.2 :: A)) := by
  have := journal_open_ok (w0 := w0) (A := A) (d := d) hd ho
  rw [hr] at this
  exact this
def nmJ : ByteArray := ⟨#[106]⟩
theorem nmJ_ok : okName nmJ := by decide +kernel
theorem nmJ_len : nmJ.size ≤ 140737488351232 := by decide +kernel
theorem ex_recs : recsB ([] ++ frameB [97, 98] ++ frameB [] ++ [5]) = ([[97, 98], []], [5]) := by
  have h5 : recsB [5] = ([], [5]) := recsB_none (by simp [nextB])
  have := recsB_flat [[97, 98], []] [5] (by simp)
  rw [h5] at this
  simpa [flat] using this
end Go.Proofs.Ytigjompojlhomaa
end
section
set_option linter.unusedVariables false
set_option linter.unusedSimpArgs false
set_option maxRecDepth 4000
namespace Go.Proofs.Ytigjompojlhomaa
open Go.Sl Go.RowKit Go.Pack Go.Journal

theorem nmU_no : ¬ okName ⟨#[74]⟩ := by decide +kernel
end Go.Proofs.Ytigjompojlhomaa
end
section
set_option linter.unusedVariables false
set_option linter.unusedSimpArgs false
namespace Go.Proofs.Ytigjompojlhomaa
open Go.Sl Go.Pack Go.Journal

/-- a disk that is on, of any fuse; all of a file's bytes are safe -/
structure Fz (st : DSt) (nm : ByteArray) (all : List UInt8) (n : Int) : Prop where
  off : st.off = false
  fuse : 0 ≤ st.fuse ∧ st.fuse ≤ 9223372036854775807
  deeds : 0 ≤ st.deeds ∧ st.deeds ≤ n
  file : (st.files nm).getD ([], 0) = (all, all.length)
/-- the power has failed: of a file these bytes are there, all safe -/
structure Fd (st : DSt) (nm : ByteArray) (all : List UInt8) (n : Int) : Prop where
  off : st.off = true
  fuse : st.fuse = 0
  deeds : 0 ≤ st.deeds ∧ st.deeds ≤ n
  file : st.files nm = some (all, all.length)
section
variable {st : DSt} {nm : ByteArray} {all b : List UInt8} {n : Int}
theorem off_put {st : DSt} {nm : ByteArray} {V : List UInt8 × Nat} {keep : Int} (h1 : st.off = false) (h2 : st.files nm = some V) (hs : V.2 ≤ V.1.length) : (offS keep st).off = true ∧ (offS keep st).fuse = st.fuse ∧ (offS keep st).deeds = st.deeds ∧ ∃ K, V.2 ≤ K ∧ K ≤ V.1.length ∧ (offS keep st).files nm = some (V.1.take K, (V.1.take K).length) := by
  have hk : V.2 ≤ keptOf keep V ∧ keptOf keep V ≤ V.1.length := by unfold keptOf; omega
  unfold offS
  rw [if_neg (by rw [h1]; decide)]
  refine ⟨rfl, rfl, rfl, keptOf keep V, hk.1, hk.2, ?_⟩
  dsimp only
  rw [h2]
  show some (offV keep V) = _
  unfold offV
  rw [List.length_take, Nat.min_eq_left hk.2]
theorem deedS_eq {f g} (st : DSt) : deedS f g st = if st.fuse - 1 = 0 then (offS st.keep { st with deeds := st.deeds + 1, fuse := 0, files := g st.files }, 20) else ({ st with deeds := st.deeds + 1, fuse := max (st.fuse - 1) 0, files := f st.files }, 0) := rfl
theorem Fz.add (h : Fz st nm all n) (hn : okName nm) (hb : all.length + (b.length + 8) ≤ 16777216) :
    (∃ st', addP nm b st = (st', 0) ∧ Fz st' nm (all ++ frameB b) (n + 2)) ∨
    (∃ st' K, addP nm b st = (st', 20) ∧ all.length ≤ K ∧ K ≤ (all ++ frameB b).length ∧ Fd st' nm ((all ++ frameB b).take K) (n + 2)) := by
  have hfl : (all ++ frameB b).length = all.length + (b.length + 8) := by rw [List.length_append, frameB_len]
  have ha := appendS_eq (b := frameB b) h.off hn (V := (all ++ frameB b, all.length)) (n := all.length + (b.length + 8)) (by unfold appendV; rw [h.file]) hfl
  rw [if_pos hb] at ha
  have hu := h.fuse
  have hd := h.deeds
  by_cases h1 : st.fuse - 1 = 0
  · rw [if_pos h1] at ha
    obtain ⟨g1, g2, g3, K, g4, g5, g6⟩ := off_put (st := { st with deeds := st.deeds + 1, fuse := 0, files := putV nm (all ++ frameB b, all.length) st.files }) (nm := nm) (V := (all ++ frameB b, all.length)) (keep := st.keep) h.off (by simp [putV]) (by dsimp only; omega)
    refine .inr ⟨_, K, ?_, g4, g5, ⟨g1, g2, by rw [g3]; dsimp only; omega, g6⟩⟩
    unfold addP; rw [ha, if_neg (show ¬ (20 : Int) = 0 by decide)]
  · rw [if_neg h1] at ha
    have hs : syncS nm { st with deeds := st.deeds + 1, fuse := max (st.fuse - 1) 0, files := putV nm (all ++ frameB b, all.length) st.files } = deedS (putV nm (all ++ frameB b, (all ++ frameB b).length)) id { st with deeds := st.deeds + 1, fuse := max (st.fuse - 1) 0, files := putV nm (all ++ frameB b, all.length) st.files } := by
      unfold syncS
      rw [if_neg (by dsimp only; rw [h.off]; decide)]
      simp [putV]
    rw [deedS_eq] at hs
    have hp : addP nm b st = syncS nm { st with deeds := st.deeds + 1, fuse := max (st.fuse - 1) 0, files := putV nm (all ++ frameB b, all.length) st.files } := by
      unfold addP; rw [ha, if_pos rfl]
    by_cases h2 : max (st.fuse - 1) 0 - 1 = 0
    · rw [if_pos h2] at hs
      obtain ⟨g1, g2, g3, K, g4, g5, g6⟩ := off_put (st := { st with deeds := st.deeds + 1 + 1, fuse := 0, files := putV nm (all ++ frameB b, all.length) st.files }) (nm := nm) (V := (all ++ frameB b, all.length)) (keep := st.keep) h.off (by simp [putV]) (by dsimp only; omega)
      have key : ∀ x : Int, x = st.deeds + 1 + 1 → 0 ≤ x ∧ x ≤ n + 2 := fun x hx => by omega
      exact .inr ⟨_, K, hp.trans hs, g4, g5, ⟨g1, g2, key _ g3, g6⟩⟩
    · rw [if_neg h2] at hs
      refine .inl ⟨_, hp.trans hs, ⟨h.off, by dsimp only; omega, by dsimp only; omega, ?_⟩⟩
      simp [putV]
theorem Fd.on (h : Fd st nm all n) (f : Int) (hf : 0 ≤ f ∧ f ≤ 9223372036854775807) : Fz { { st with off := false } with fuse := f, keep := 0 } nm all n := ⟨rfl, hf, h.deeds, by dsimp only; rw [h.file]; rfl⟩
theorem Fz.on (h : Fz st nm all n) (f : Int) (hf : 0 ≤ f ∧ f ≤ 9223372036854775807) : Fz { { st with off := false } with fuse := f, keep := 0 } nm all n := ⟨rfl, hf, h.deeds, h.file⟩
theorem Fz.read (h : Fz st nm all n) : (readS nm st).1 = all := by
  have := h.file
  unfold readS
  rw [if_neg (by rw [h.off]; decide)]
  cases hf : st.files nm with
  | none => rw [hf] at this; exact (congrArg Prod.fst this)
  | some v => rw [hf] at this; exact (congrArg Prod.fst this)
theorem Fz.open_ (h : Fz st nm all n) (hn : okName nm) :
    (∃ st', openS nm st = (st', 0) ∧ Fz st' nm (flat (recsB all).1) (n + 1)) ∨ (∃ st', openS nm st = (st', 20) ∧ Fd st' nm all (n + 1)) := by
  have hw := recsB_whole all
  have hlen := congrArg List.length hw
  rw [List.length_append] at hlen
  have hd := h.deeds
  have hu := h.fuse
  unfold openS
  rw [if_neg (by rw [h.off]; decide), if_neg (by simpa using hn), h.read]
  by_cases hr : (recsB all).2 = []
  · rw [if_pos hr]
    rw [hr, List.append_nil] at hw
    exact .inl ⟨st, rfl, by rw [hw]; exact ⟨h.off, h.fuse, by omega, h.file⟩⟩
  · rw [if_neg hr]
    have hne : all ≠ [] := by rintro rfl; exact hr (by rw [recsB_nil])
    have hs : st.files nm = some (all, all.length) := by
      have := h.file
      cases hf : st.files nm with
      | none => rw [hf] at this; exact absurd (congrArg Prod.fst this).symm hne
      | some v => rw [hf] at this; exact congrArg some this
    have hk : ((all.length : Int) - ((recsB all).2.length : Int)).toNat = (flat (recsB all).1).length := by omega
    have ht : all.take (flat (recsB all).1).length = flat (recsB all).1 := by
      conv => lhs; rw [← hw]
      exact List.take_left' (by rw [hw])
    have hc : cutS nm ((all.length : Int) - ((recsB all).2.length : Int)) st = deedS (putV nm (flat (recsB all).1, (flat (recsB all).1).length)) id st := by
      unfold cutS
      rw [if_neg (by rw [h.off]; decide), hs]
      dsimp only
      rw [if_neg (by omega), hk, ht, Nat.min_eq_right (by omega)]
    rw [hc, deedS_eq]
    by_cases h1 : st.fuse - 1 = 0
    · rw [if_pos h1]
      obtain ⟨g1, g2, g3, K, g4, g5, g6⟩ := off_put (st := { st with deeds := st.deeds + 1, fuse := 0, files := id st.files }) (nm := nm) (V := (all, all.length)) (keep := st.keep) h.off hs (Nat.le_refl _)
      dsimp only at g4 g5 g6
      have hK : K = all.length := by omega
      rw [hK, List.take_length] at g6
      exact .inr ⟨_, rfl, ⟨g1, g2, by rw [g3]; dsimp only; omega, g6⟩⟩
    · rw [if_neg h1]
      refine .inl ⟨_, rfl, ⟨h.off, by dsimp only; omega, by dsimp only; omega, ?_⟩⟩
      simp [putV]
end
/-- what is found: all records, and at most the one that was under way, whole -/
theorem found {rs : List (List UInt8)} {r : List UInt8} (hs : ∀ x ∈ rs, x.length ≤ 1048576) (hr : r.length ≤ 1048576) {K : Nat} (h1 : (flat rs).length ≤ K) (h2 : K ≤ (flat rs ++ frameB r).length) :
    (recsB ((flat rs ++ frameB r).take K)).1 = rs ∨ (recsB ((flat rs ++ frameB r).take K)).1 = rs ++ [r] := by
  have e : (flat rs ++ frameB r).take K = flat rs ++ (frameB r).take (K - (flat rs).length) := by
    rw [List.take_append, List.take_of_length_le h1]
  rw [e, recsB_flat rs _ hs]
  obtain ⟨m, hm⟩ : ∃ m, m = K - (flat rs).length := ⟨_, rfl⟩
  rw [← hm]
  have hml : m ≤ (frameB r).length := by rw [List.length_append] at h2; omega
  by_cases hw : m = (frameB r).length
  · refine .inr ?_
    have := recsB_frame hr []
    rw [List.append_nil, recsB_nil] at this
    rw [hw, List.take_length, this]
  · refine .inl ?_
    have hn : nextB ((frameB r).take m) = none := by
      have hfl := frame_length r
      have hl : ((frameB r).take m).length = m := by rw [List.length_take]; omega
      unfold nextB
      rw [hl]
      by_cases h8 : m < 8
      · rw [if_pos h8]
      · rw [if_neg h8]
        have hnum : num4 ((frameB r).take m) = r.length := by
          have e1 : frameB r = le4 r.length ++ (le4 (sum (le4 r.length ++ r)) ++ r) := by simp [frameB]
          rw [e1, List.take_append, List.take_of_length_le (by rw [le4_length]; omega)]
          exact num4_le4 (by omega) _
        rw [hnum, if_pos (by omega)]
    rw [recsB_none hn, List.append_nil]
theorem newD_fz : Fz newD nmJ [] 0 := ⟨rfl, by simp [newD], by simp [newD], rfl⟩
theorem open_new : openS nmJ newD = (newD, 0) := by
  have h1 : readS nmJ newD = ([], 21) := rfl
  unfold openS
  rw [if_neg (by decide), if_neg (fun h => h nmJ_ok), h1]
  dsimp only
  rw [recsB_nil, if_pos rfl]
end Go.Proofs.Ytigjompojlhomaa
end
section
set_option linter.unusedVariables false
set_option linter.unusedSimpArgs false
set_option maxRecDepth 4000
namespace Go.Council
open Go.Raft Go.Journal Go.Pack Go.Sl Go.Proofs.Ytigjompojlhomaa

/-- a record: what of the log stays, what comes behind it -/
structure Rcd where
  term : Int
  vote : Int
  stay : Nat
  cells : List Cl
def cellB (c : Cl) : List UInt8 := num c.term ++ text c.data.data.toList
def cellsB (l : List Cl) : List UInt8 := l.flatMap cellB
def Rcd.bytes (c : Rcd) : List UInt8 := num c.term ++ num c.vote ++ num c.stay ++ num c.cells.length ++ cellsB c.cells
/-- what lasts -/
structure St where
  term : Int
  vote : Int
  log : List Cl
deriving DecidableEq
def St.zero : St := ⟨0, 0, []⟩
def applyC (s : St) (c : Rcd) : St := ⟨c.term, c.vote, s.log.take c.stay ++ c.cells⟩
def stab (rs : List Rcd) : St := rs.foldl applyC St.zero
theorem stab_snoc {rs : List Rcd} {c : Rcd} : stab (rs ++ [c]) = applyC (stab rs) c := by unfold stab; rw [List.foldl_append]; rfl
def same : List Cl → List Cl → Nat
  | a :: l, b :: m => if a = b then same l m + 1 else 0
  | _, _ => 0
theorem same_le : ∀ (l m : List Cl), same l m ≤ l.length ∧ same l m ≤ m.length
  | [], m => by unfold same; exact ⟨Nat.zero_le _, Nat.zero_le _⟩
  | a :: l, [] => by unfold same; exact ⟨Nat.zero_le _, Nat.zero_le _⟩
  | a :: l, b :: m => by
    have := same_le l m
    unfold same
    split
    · exact ⟨Nat.succ_le_succ this.1, Nat.succ_le_succ this.2⟩
    · exact ⟨Nat.zero_le _, Nat.zero_le _⟩
theorem same_take : ∀ (l m : List Cl), l.take (same l m) = m.take (same l m)
  | [], m => by unfold same; simp
  | a :: l, [] => by unfold same; simp
  | a :: l, b :: m => by
    unfold same
    split
    · rename_i h; subst h; rw [List.take_succ_cons, List.take_succ_cons, same_take l m]
    · simp
/-- what the loops look for -/
theorem same_of {l m : List Cl} {i : Nat} (hi : i ≤ l.length ∧ i ≤ m.length) (h : l.take i = m.take i) (hn : i = l.length ∨ i = m.length ∨ l[i]? ≠ m[i]?) : same l m = i := by
  induction i generalizing l m with
  | zero =>
    cases l with
    | nil => rfl
    | cons a l =>
      cases m with
      | nil => rfl
      | cons b m =>
        unfold same
        rw [if_neg]
        rintro rfl
        rcases hn with h | h | h
        · simp at h
        · simp at h
        · exact h rfl
  | succ i ih =>
    cases l with
    | nil => exact absurd hi.1 (by simp)
    | cons a l =>
      cases m with
      | nil => exact absurd hi.2 (by simp)
      | cons b m =>
        rw [List.take_succ_cons, List.take_succ_cons] at h
        injection h with h1 h2
        subst h1
        unfold same
        rw [if_pos rfl, ih ⟨by simpa using hi.1, by simpa using hi.2⟩ h2 (by simpa using hn)]
def chg (old now : St) : Rcd := ⟨now.term, now.vote, same old.log now.log, now.log.drop (same old.log now.log)⟩
theorem apply_chg (old now : St) : applyC old (chg old now) = now := by
  unfold applyC chg
  dsimp only
  rw [same_take, List.take_append_drop]
def stOf (x : Rn) : St := ⟨x.term, x.vote, x.log⟩
/-- a manager: its disk, its node while it is up, its records -/
structure Mg where
  st : DSt
  node : Option Rn
  rs : List Rcd
structure CS where
  ms : List Mg
  mails : List Ml
abbrev lnm : ByteArray := ByteArray.mk #[108, 111, 103]
theorem lnm_ok : okName lnm := by decide +kernel
theorem lnm_len : lnm.size ≤ 140737488351232 := by decide +kernel
def onDisk (st : DSt) : Nat := (recsB ((st.files lnm).getD ([], 0)).1).1.length
/-- a change is written; what failed is found on the disk, or not -/
def saveS (c : Rcd) (y : Rn) (m : Mg) : Mg × Bool :=
  if (addP lnm c.bytes m.st).2 = 0 then (⟨(addP lnm c.bytes m.st).1, some y, m.rs ++ [c]⟩, true)
  else (⟨(addP lnm c.bytes m.st).1, none, if onDisk (addP lnm c.bytes m.st).1 = m.rs.length + 1 then m.rs ++ [c] else m.rs⟩, false)
def stepM (x y : Rn) (m : Mg) : Mg × Bool := if stOf y = stOf x then (⟨m.st, some y, m.rs⟩, true) else saveS (chg (stOf x) (stOf y)) y m
def sendM (ms out : List Ml) : List Ml := ms ++ out.take (256 - ms.length)
def stepC (i : Nat) (f : Rn → Rn × List Ml) (S : CS) : CS × Bool := match S.ms[i]? with
  | none => (S, false)
  | some m => match m.node with
    | none => (S, false)
    | some x => (⟨S.ms.set i (stepM x (f x).1 m).1, if (stepM x (f x).1 m).2 = true then sendM S.mails (f x).2 else S.mails⟩, (stepM x (f x).1 m).2)
def openM (i n : Int) (m : Mg) : Mg :=
  if (openS lnm m.st).2 = 0 then ⟨(openS lnm m.st).1, some (newR i n (stab m.rs).term (stab m.rs).vote (stab m.rs).log), m.rs⟩ else ⟨(openS lnm m.st).1, none, m.rs⟩
def putM (S : CS) (i : Nat) (m : Mg) : CS := ⟨S.ms.set i m, S.mails⟩
def mgrE (S : CS) (i : Int) : Bool := decide (1 ≤ i ∧ i ≤ S.ms.length)
/-- an act: what comes of it, what is answered -/
def actC (k i n keep : Int) (S : CS) : CS × Int :=
  if k = 2 ∨ k = 3 ∨ k = 4 then
    (if 0 ≤ n ∧ n < S.mails.length then
      let m := S.mails.getD n.toNat ⟨0, 0, 0, 0, 0, 0, 0, false, []⟩
      let S1 : CS := if k = 3 then S else ⟨S.ms, S.mails.eraseIdx n.toNat⟩
      (if k = 4 then S1 else if 1 ≤ m.to_ then (stepC (m.to_ - 1).toNat (fun x => takeS x m) S1).1 else S1, 0)
    else (S, 1))
  else if 1 ≤ i ∧ i ≤ S.ms.length then
    (match S.ms[(i - 1).toNat]? with
    | none => (S, 1)
    | some m =>
      if k = 1 then ((stepC (i - 1).toNat tickS S).1, 0)
      else if k = 5 then (putM S (i - 1).toNat ⟨{ m.st with fuse := max n 0, keep := keep }, m.node, m.rs⟩, 0)
      else if k = 6 then (putM S (i - 1).toNat ⟨offS keep m.st, none, m.rs⟩, 0)
      else if k = 7 then (if m.node.isNone = true then putM S (i - 1).toNat (openM i S.ms.length ⟨{ m.st with off := false }, none, m.rs⟩) else S, 0)
      else (S, 1))
  else (S, 1)
/-- a cell is proposed -/
def propC (i : Int) (d : ByteArray) (S : CS) : CS × Int × Int :=
  if i < 1 ∨ (S.ms.length : Int) < i ∨ d.size = 0 ∨ 4096 < d.size then (S, 0, 1)
  else match S.ms[(i - 1).toNat]? with
    | none => (S, 0, 20)
    | some m => match m.node with
      | none => (S, 0, 20)
      | some x => if proposeE x d ≠ 0 then (S, 0, proposeE x d)
        else if (stepC (i - 1).toNat (fun x => proposeS x d) S).2 = true then ((stepC (i - 1).toNat (fun x => proposeS x d) S).1, (proposeS x d).1.log.length, 0)
        else ((stepC (i - 1).toNat (fun x => proposeS x d) S).1, 0, 20)
end Go.Council
end
section
set_option linter.unusedVariables false
set_option linter.unusedSimpArgs false
namespace Go.Raft

structure Kp (x y : Rn) : Prop where
  term : x.term ≤ y.term
  vote : y.term = x.term → x.vote ≠ 0 → y.vote = x.vote
  commit : x.commit ≤ y.commit
  log : y.log.take x.commit.toNat = x.log.take x.commit.toNat
theorem Kp.refl (x : Rn) : Kp x x := ⟨Int.le_refl _, fun _ _ => rfl, Int.le_refl _, rfl⟩
theorem Kp.trans {x y z : Rn} (h : Kp x y) (k : Kp y z) : Kp x z :=
  ⟨Int.le_trans h.term k.term, fun e hv => by
    have h1 := h.term
    have h2 := k.term
    have e1 : y.term = x.term := by omega
    have e2 : z.term = y.term := by omega
    have v1 := h.vote e1 hv
    rw [← v1]; exact k.vote e2 (by rw [v1]; exact hv), Int.le_trans h.commit k.commit, by
    have h1 := congrArg (List.take x.commit.toNat) k.log
    have h2 := h.commit
    rw [List.take_take, List.take_take, Nat.min_eq_left (by omega)] at h1
    rw [h1]; exact h.log⟩
theorem Kp.same {x y : Rn} (h1 : y.term = x.term) (h2 : y.vote = x.vote) (h3 : y.commit = x.commit) (h4 : y.log = x.log) : Kp x y := ⟨by omega, fun _ _ => h2, by omega, by rw [h4]⟩
theorem Kp.count {x : Rn} (h : 0 ≤ x.commit) : Kp x (countS x) := ⟨Int.le_refl _, fun _ _ => rfl, (countP_bound h (p := x.log.length) (.inr trivial)).1, rfl⟩
theorem Kp.add {x : Rn} {d : ByteArray} (h : x.commit ≤ x.log.length) : Kp x (addS d x) := ⟨Int.le_refl _, fun _ _ => rfl, Int.le_refl _, by
  show (x.log ++ ([⟨x.term, d⟩] : List Cl)).take _ = _
  rw [List.take_append_of_le_length (by omega)]⟩
theorem Kp.feedAll (x : Rn) : Kp x (feedAllS x).1 := .same rfl rfl rfl rfl
theorem Kp.lead {x : Rn} (h : 0 ≤ x.commit ∧ x.commit ≤ x.log.length) : Kp x (leadS x).1 := by
  unfold leadS
  split
  · have h1 : Kp x (leaderS x) := Kp.same rfl rfl rfl rfl
    split
    · exact (h1.trans (Kp.add (x := leaderS x) h.2)).trans ((Kp.count (x := addS ByteArray.empty (leaderS x)) h.1).trans (Kp.feedAll _))
    · exact h1.trans ((Kp.count (x := leaderS x) h.1).trans (Kp.feedAll _))
  · exact Kp.refl x
theorem Kp.tick {x : Rn} (hx : RInv x) : Kp x (tickS x).1 := by
  unfold tickS
  split
  · split
    · exact Kp.same rfl rfl rfl rfl
    · exact Kp.same rfl rfl rfl rfl
  · split
    · exact Kp.same rfl rfl rfl rfl
    · have h1 : Kp x (runS x) := ⟨by show x.term ≤ x.term + 1; omega, fun e => absurd e (by show ¬ x.term + 1 = x.term; omega), Int.le_refl _, rfl⟩
      split
      · exact h1.trans (Kp.lead hx.commit)
      · exact h1
theorem Kp.step (x : Rn) (m : Ml) : Kp x (stepS m x) := by
  unfold stepS
  split
  · rename_i h
    exact ⟨by show x.term ≤ m.term; omega, fun e => absurd e (by show ¬ m.term = x.term; omega), Int.le_refl _, rfl⟩
  · exact Kp.refl x
theorem Kp.asked (x : Rn) (m : Ml) : Kp x (askedS x m).1 := by
  unfold askedS
  show Kp x (if voteOk x m then { x with vote := m.fr, waited := 0 } else x)
  split
  · rename_i h
    refine ⟨Int.le_refl _, fun _ hv => ?_, Int.le_refl _, rfl⟩
    rcases h.2.1 with h1 | h1
    · exact absurd h1 hv
    · exact h1.symm
  · exact Kp.refl x
theorem Kp.votes {x : Rn} {m : Ml} (hx : RInv x) : Kp x (votesS x m).1 := by
  unfold votesS
  split
  · exact Kp.refl x
  · exact (show Kp x (votedS m.fr x) from Kp.same rfl rfl rfl rfl).trans (Kp.lead (x := votedS m.fr x) hx.commit)
theorem fed_facts {x : Rn} {m : Ml} (hx : RInv x) (hm : mailOk x.id x.n m) (hk : m.kind = 3) : 0 ≤ m.prev ∧ m.prev ≤ m.term ∧ 0 ≤ m.commit ∧ m.cells.length ≤ 8 ∧ m.index + m.cells.length ≤ 10000 ∧ rises m.cells m.prev m.term = true := by
  rcases hm.2 with h | h | ⟨_, a, b, c, d⟩
  · omega
  · omega
  · have := d hk; exact ⟨a, b, this.1, this.2.2.1, this.2.2.2.1, this.2.2.2.2⟩
theorem Kp.fed {x : Rn} {m : Ml} (hx : RInv x) (hm : mailOk x.id x.n m) (hk : m.kind = 3) (ht : m.term ≤ x.term) : Kp x (fedS x m).1 := by
  have hcs := fed_facts hx hm hk
  have hidx := hm.1.2.2.2.2.2.2.1
  unfold fedS
  split
  · exact Kp.refl x
  · split
    · exact Kp.refl x
    · split
      · exact Kp.same rfl rfl rfl rfl
      · rename_i h2 h3 h4
        have h4' : m.index ≤ x.log.length ∧ atT x.log m.index = m.prev := ⟨by omega, Decidable.not_not.1 fun h => h4 (.inr h)⟩
        obtain ⟨p, hp⟩ : ∃ p : Nat, m.index = p := ⟨m.index.toNat, by omega⟩
        split
        · exact Kp.same rfl rfl rfl rfl
        · rename_i log' hmg
          rw [hp] at hmg h4'
          have hs := mergeS_spec (prev := m.prev) hx.rise (by omega) h4'.2 (rises_more hcs.2.2.2.2.2 (by omega : m.term ≤ x.term)) hx.commit.1 hmg
          exact ⟨Int.le_refl _, fun _ _ => rfl, by show x.commit ≤ max x.commit _; omega, hs.2.2.1⟩
theorem Kp.answered {x : Rn} {m : Ml} (hx : RInv x) : Kp x (answeredS x m).1 := by
  unfold answeredS
  split
  · exact Kp.refl x
  · split
    · exact Kp.same rfl rfl rfl rfl
    · dsimp only
      have h1 : Kp x { x with mt := upd x.mt m.fr (max (x.mt m.fr) m.index), nx := upd x.nx m.fr (max (x.mt m.fr) m.index + 1) } := Kp.same rfl rfl rfl rfl
      split
      · exact h1.trans (Kp.count (x := { x with mt := upd x.mt m.fr (max (x.mt m.fr) m.index), nx := upd x.nx m.fr (max (x.mt m.fr) m.index + 1) }) hx.commit.1)
      · exact h1.trans (Kp.count (x := { x with mt := upd x.mt m.fr (max (x.mt m.fr) m.index), nx := upd x.nx m.fr (max (x.mt m.fr) m.index + 1) }) hx.commit.1)
theorem Kp.take {x : Rn} {m : Ml} (hx : RInv x) : Kp x (takeS x m).1 := by
  unfold takeS
  split
  · rename_i hm
    have h1 := hx.step hm
    have hm2 : mailOk (stepS m x).id (stepS m x).n m := by rw [stepS_idn.1, stepS_idn.2]; exact hm
    refine (Kp.step x m).trans ?_
    split
    · exact Kp.asked _ _
    · split
      · exact Kp.votes h1
      · split
        · rename_i h3; exact Kp.fed h1 hm2 h3 stepS_term
        · exact Kp.answered h1
  · exact Kp.refl x
theorem Kp.propose {x : Rn} {d : ByteArray} (hx : RInv x) : Kp x (proposeS x d).1 := (Kp.add hx.commit.2).trans ((Kp.count (x := addS d x) hx.commit.1).trans (Kp.feedAll _))
/-- who leads knows it, and no one else thinks it leads -/
def Ld (x : Rn) : Prop := x.role = 2 ↔ x.leader = x.id
theorem Ld.lead {x : Rn} (h : Ld x) : Ld (leadS x).1 := by
  unfold leadS
  split
  · split <;> exact ⟨fun _ => rfl, fun _ => rfl⟩
  · exact h
theorem Ld.tick {x : Rn} (hx : RInv x) (h : Ld x) : Ld (tickS x).1 := by
  have hid := hx.id
  unfold tickS
  split
  · split
    · exact h
    · exact h
  · split
    · exact h
    · have h1 : Ld (runS x) := ⟨fun e => absurd e (by show ¬ (1 : Int) = 2; decide), fun e => absurd e (by show ¬ (0 : Int) = x.id; omega)⟩
      split
      · exact h1.lead
      · exact h1
theorem Ld.take {x : Rn} {m : Ml} (hx : RInv x) (h : Ld x) : Ld (takeS x m).1 := by
  have hid := hx.id
  unfold takeS
  split
  · rename_i hm
    have h1 : Ld (stepS m x) := by
      unfold stepS
      split
      · exact ⟨fun e => absurd e (by show ¬ (0 : Int) = 2; decide), fun e => absurd e (by show ¬ (0 : Int) = x.id; omega)⟩
      · exact h
    have hfr : m.fr ≠ (stepS m x).id := by rw [stepS_idn.1]; exact hm.1.2.2.1
    split
    · unfold askedS
      show Ld (if voteOk (stepS m x) m then { stepS m x with vote := m.fr, waited := 0 } else stepS m x)
      split
      · exact h1
      · exact h1
    · split
      · unfold votesS
        split
        · exact h1
        · exact (show Ld (votedS m.fr (stepS m x)) from h1).lead
      · have hf : ∀ y : Rn, y.role = 0 → y.leader = m.fr → y.id = (stepS m x).id → Ld y := fun y a b c => ⟨fun e => by omega, fun e => by omega⟩
        split
        · unfold fedS
          split
          · exact h1
          · split
            · exact h1
            · split
              · exact hf _ rfl rfl rfl
              · split
                · exact hf _ rfl rfl rfl
                · exact hf _ rfl rfl rfl
        · unfold answeredS
          split
          · exact h1
          · split
            · exact h1
            · dsimp only
              split
              · exact h1
              · exact h1
  · exact h
theorem Ld.new {id n t v : Int} {l : List Cl} (h : 1 ≤ id) : Ld (newR id n t v l) := ⟨fun e => absurd e (by show ¬ (0 : Int) = 2; decide), fun e => absurd e (by show ¬ (0 : Int) = id; omega)⟩
end Go.Raft
end
section
set_option linter.unusedVariables false
set_option linter.unusedSimpArgs false
set_option maxRecDepth 4000
namespace Go.Proofs.Ytigjompojlhomaa
open Go.Sl Go.RowKit Go.Raft

def cv (c : Cl) : List Value := [.int .i64 c.term, .string c.data]
def cvs (l : List Cl) : List Value := l.flatMap cv
theorem cvs_length (l : List Cl) : (cvs l).length = l.length * 2 := flat_len (fun _ _ => rfl)
theorem cvs_at {l : List Cl} {i k : Nat} {c : Cl} (h : l[i]? = some c) (hk : k < 2) : (cvs l)[i * 2 + k]? = (cv c)[k]? := by
  have hi := (List.getElem?_eq_some_iff.1 h).1
  have := flat_at (f := cv) (s := 2) (l := l) (i := i) (k := k) (fun _ _ => rfl) hi hk
  rw [(List.getElem?_eq_some_iff.1 h).2] at this
  exact this
theorem cvs_take2 {l : List Cl} {i : Nat} {c : Cl} (h : l[i]? = some c) : ((cvs l).drop (i * 2)).take 2 = cv c := by
  have hi := (List.getElem?_eq_some_iff.1 h).1
  have := flat_take (f := cv) (s := 2) (l := l) (i := i) (fun _ _ => rfl) hi
  rw [(List.getElem?_eq_some_iff.1 h).2] at this
  exact this
theorem cvs_append (l m : List Cl) : cvs (l ++ m) = cvs l ++ cvs m := by simp [cvs]
theorem cvs_one (l : List Cl) : ∀ v ∈ cvs l, v.oneCell' = true := by
  intro v hv
  obtain ⟨c, _, hc⟩ := List.mem_flatMap.1 hv
  simp only [cv, List.mem_cons, List.not_mem_nil, or_false] at hc
  rcases hc with rfl | rfl <;> rfl
theorem cvs_drop {l : List Cl} (i : Nat) : (cvs l).drop (i * 2) = cvs (l.drop i) := by
  by_cases hi : i ≤ l.length
  · have h1 : cvs l = cvs (l.take i) ++ cvs (l.drop i) := by rw [← cvs_append, List.take_append_drop]
    rw [h1, List.drop_append_of_le_length (by rw [cvs_length, List.length_take]; omega), List.drop_eq_nil_of_le (by rw [cvs_length, List.length_take]; omega), List.nil_append]
  · rw [List.drop_eq_nil_of_le (by rw [cvs_length]; omega), List.drop_eq_nil_of_le (by omega)]; rfl
theorem cvs_take {l : List Cl} (i : Nat) : (cvs l).take (i * 2) = cvs (l.take i) := by
  by_cases hi : i ≤ l.length
  · have h1 : cvs l = cvs (l.take i) ++ cvs (l.drop i) := by rw [← cvs_append, List.take_append_drop]
    rw [h1, List.take_left' (by rw [cvs_length, List.length_take]; omega)]
  · rw [List.take_of_length_le (by rw [cvs_length]; omega), List.take_of_length_le (by omega)]
structure Mh where
  kind : Int
  fr : Int
  to_ : Int
  term : Int
  index : Int
  prev : Int
  commit : Int
  ok : Bool
  cs : Sla Cl
def Mh.ml (m : Mh) : Ml := ⟨m.kind, m.fr, m.to_, m.term, m.index, m.prev, m.commit, m.ok, m.cs.xs⟩
abbrev mv (m : Mh) : List Value := [.int .i64 m.kind, .int .i64 m.fr, .int .i64 m.to_, .int .i64 m.term, .int .i64 m.index, .int .i64 m.prev, .int .i64 m.commit, .bool m.ok, .slice m.cs.base m.cs.xs.length m.cs.cap]
abbrev ncells (x : Rn) (base : Option Addr) (c : Nat) (vv pv : Value) : List Value := [.int .i64 x.id, .int .i64 x.n, .int .i64 x.term, .int .i64 x.vote, .slice base x.log.length c, .int .i64 x.role, .int .i64 x.leader, .int .i64 x.commit, .int .i64 x.waited, .int .i64 x.since, vv, pv]
theorem rsome {w0 w : World} {A : List HProp} {base : Option Addr} {vs : List Value} (hp : 0 < vs.length) (hR : RdC w0 A base vs) (h : Own w0 A w) : base.isSome = true := by
  obtain ⟨a, rfl, _⟩ := hR w h 0 vs[0] (List.getElem?_eq_getElem hp)
  rfl
theorem raft_at {w0 : World} {A : List HProp} {p c : Nat} {base : Option Addr} {vv pv : Value} {x : Rn} {q : Int} (hl : x.log.length ≤ 10000) [hc : CelAt A p (ncells x base c vv pv) 104] [hR : Reads w0 A base (cvs x.log)] :
    Fun Try.prog w0 95 [.pointer (some ⟨p, 0, none⟩), .int .i64 q] A (Ret w0 (fun _ : Unit => True) (fun _ => .int .i64 (atT x.log q)) (fun _ => A)) := by
  refine Fun.enter Try.func95 rfl Try.ntmps95 rfl ?_
  refine WC.seq <| WC.region <| sv (vaI rfl) <| WL.nil <| WX.thenN <| WC.seq <| ?_
  refine WC.cut0 [(15, .bool (decide (q < 1 ∨ (x.log.length : Int) < q)))] [(0, .pointer _), (1, .int _ _)] (A) ⟨rfl, rfl, trivial⟩ ?_ fun ρh => ?_
  · -- raft.go:49
    refine WC.region <| sv (vmI rfl) <| svs (vlt rfl rfl) (fun q1 => ?_) (fun q1 => ?_)
    ·
      exact sv (vmB rfl) <| sng rfl <| sng rfl <| sng rfl <| sng rfl <| sng rfl <| sng rfl <| sng rfl <| sv (vpkt rfl) <| WL.nil <| WX.mid () trivial ⟨bT (by first | omega | simp_all | grind), trivial⟩ ⟨rfl, rfl, trivial⟩ (fun _ h => h)
    ·
      exact sv (vmB rfl) <| svg rfl (vmI rfl) <| svg rfl (vmP rfl) <| svg rfl (vnil rfl) <| svg rfl (vfld fl104f4 rfl) <| svg rfl (vldc pl31 rfl) <| svg rfl (vlen Try.underlying31 rfl) <| svg rfl (vgt rfl rfl) <| sv (vpkf rfl) <| WL.nil <| WX.mid () trivial ⟨bI (by first | omega | simp_all | grind), trivial⟩ ⟨rfl, rfl, trivial⟩ (fun _ h => h)
  refine WC.ite rfl (fun h1 => ?_) (fun h1 => ?_)
  · -- then
    exact WC.seq <| WC.region <| sv (vaI rfl) <| WL.nil <| WX.thenN <| WC.ret <| WX.thenR <| WX.ret1 rfl (()) (trivial) (iv (atT_zero h1).symm) (fun _ h => h)
  · -- else
    obtain ⟨k, rfl⟩ : ∃ k : Nat, q = (k : Int) + 1 := ⟨(q - 1).toNat, by omega⟩
    have hk : k < x.log.length := by omega
    have hkc : x.log[k]? = some x.log[k] := List.getElem?_eq_getElem hk
    have hkz : ((k : Int) + 1 - 1).toNat = k := by omega
    have hlc := cvs_length x.log
    have hpos : 0 < (cvs x.log).length := by omega
    have hf0 : (cvs x.log)[((k : Int) + 1 - 1).toNat * 2 + 0]? = some (.int .i64 (atT x.log ((k : Int) + 1))) := by rw [hkz, cvs_at hkc (by omega), atT_pos hkc]; rfl
    refine WC.known (fun w h => rsome (base := base) hpos reads h) fun hb => ?_
    exact WC.skip <| WX.thenN <| WC.seq <| WC.region <| sv (vmP rfl) <| sv (vnil rfl) <| sv (vfld fl104f4 rfl) <| sv (vldc pl31 rfl) <| sv (vmI rfl) <| sv (vsub rfl rfl (by omega)) <| sv (vix Try.underlying31 sz69 rfl rfl (by omega) (by omega) reads (hpos)) <| sv (vfldr (hb) fl69f0 rfl) <| sv (vldo pl3 rfl reads (hf0)) <| sv (vaI rfl) <| WL.nil <| WX.thenN <| WC.ret <| WX.ret1 rfl (()) (trivial) rfl (fun _ h => h)
theorem hone {a b c d e f g : Int} {h : Bool} {s1 : Option Addr} {s2 s3 : Nat} : ∀ v ∈ [Value.int .i64 a, .int .i64 b, .int .i64 c, .int .i64 d, .int .i64 e, .int .i64 f, .int .i64 g, .bool h, .slice s1 s2 s3], v.oneCell' = true := by
  intro v hv
  simp only [List.mem_cons, List.not_mem_nil, or_false] at hv
  rcases hv with rfl | rfl | rfl | rfl | rfl | rfl | rfl | rfl | rfl <;> rfl
theorem mv_one (m : Mh) : ∀ v ∈ mv m, v.oneCell' = true := hone
theorem raft_mail {w0 : World} {A : List HProp} {p c : Nat} {base : Option Addr} {vv pv : Value} {x : Rn} {kind to_ : Int} [hc : CelAt A p (ncells x base c vv pv) 104] :
    Fun Try.prog w0 94 [.pointer (some ⟨p, 0, none⟩), .int .i64 kind, .int .i64 to_] A
      (Ret w0 (fun _ : Unit => True) (fun _ => .agg [.int .i64 kind, .int .i64 x.id, .int .i64 to_, .int .i64 x.term, .int .i64 0, .int .i64 0, .int .i64 0, .bool false, .slice none 0 0].toArray) (fun _ => A)) := by
  refine Fun.enter Try.func94 rfl Try.ntmps94 rfl ?_
  exact WC.seq <| WC.region <| alz (cs := [.int .i64 0, .int .i64 0, .int .i64 0, .int .i64 0, .int .i64 0, .int .i64 0, .int .i64 0, .bool false, .slice none 0 0]) zt54 (by rfl) fun b1 => WL.nil <| WX.thenN <| WC.seq <| WC.plan (.bar [0, 1, 2, 3, 4, 5, 6, 7, 8, 9, 10] 11 (.done [])) rfl (by kernel_rfl) <| WPl.bar (trivial) <| dv (fun g => (vmI rfl)) <| dv (fun g => (vmP rfl)) <| dv (fun g => (vnil rfl)) <| dv (fun g => (vfld fl104f0 rfl)) <| dv (fun g => (vldc pl3 rfl)) <| dv (fun g => (vmI rfl)) <| dv (fun g => (vmP rfl)) <| dv (fun g => (vnil rfl)) <| dv (fun g => (vfld fl104f2 rfl)) <| dv (fun g => (vldc pl3 rfl)) <| dv (fun g => (vbd (ps := [(0, .int _ _), (1, .int _ _), (2, .int _ _), (3, .int _ _)]) (cs := [_, _, _, _, _, _, _, _, _]) bt54 zt54 rfl (by rfl))) <| WD.eff rfl <| stA sz54 rfl rfl rfl rfl (hone) <| WL.nil <| WX.brT <| WPl.fin (trivial) <| WD.nil <| WX.thenN <| WC.ret <| WX.ret1c rfl ag54 sz54 (()) (trivial) rfl rfl (by decide) rfl (fun _ h => h.tail)
theorem raft_most {w0 : World} {A : List HProp} {p c : Nat} {base : Option Addr} {vv pv : Value} {x : Rn} {m : Int} (hn : 0 ≤ x.n ∧ x.n ≤ 5) [hc : CelAt A p (ncells x base c vv pv) 104] :
    Fun Try.prog w0 99 [.pointer (some ⟨p, 0, none⟩), .int .i64 m] A (Ret w0 (fun _ : Unit => True) (fun _ => .bool (decide (x.n < 2 * m))) (fun _ => A)) := by
  refine Fun.enter Try.func99 rfl Try.ntmps99 rfl ?_
  exact WC.seq <| WC.region <| sv (vaB rfl) <| WL.nil <| WX.thenN <| WC.seq <| WC.region <| sv (vmI rfl) <| sv (vmP rfl) <| sv (vnil rfl) <| sv (vfld fl104f1 rfl) <| sv (vldc pl3 rfl) <| sv (vw (v' := .int .i64 (x.n / 2)) (vquo rfl rfl (by decide)) (iv (by rw [Int.tdiv_eq_ediv_of_nonneg hn.1]; exact wrap64_in (by omega)))) <| sv (vgt rfl rfl) <| sv (vaB rfl) <| WL.nil <| WX.thenN <| WC.ret <| WX.ret1 rfl (()) (trivial) (bI (by omega)) (fun _ h => h)
theorem raft_rising {w0 : World} {A : List HProp} {c : Nat} {base : Option Addr} {l : List Cl} {least most : Int} (hl : l.length ≤ 9223372036854775807) [hR : Reads w0 A base (cvs l)] :
    Fun Try.prog w0 53 [.slice base l.length c, .int .i64 least, .int .i64 most] A
      (Ret w0 (fun _ : Unit => True) (fun _ => .bool (rises l least most)) (fun _ => A)) := by
  refine Fun.enter Try.func53 rfl Try.ntmps53 rfl ?_
  refine WC.seq <| WC.region <| sv (vaB rfl) <| WL.nil <| WX.thenN <| WC.seq <| WC.seq <| WC.region <| sv (vmS rfl) <| sv (vlen Try.underlying31 rfl) <| sv (vmI rfl) <| WL.nil <| WX.thenN <| WC.block <| ?_
  refine WC.loop (ι := Nat) (fun i => [(1, .int .i64 (if i = 0 then least else (l.getD (i - 1) ⟨0, ByteArray.empty⟩).term)), (11, .int .i64 i)]) [(2, .int _ _), (9, .slice _ _ _), (10, .int _ _)] (fun i => A) (fun i => i ≤ l.length ∧ rises l least most = rises (l.drop i) (if i = 0 then least else (l.getD (i - 1) ⟨0, ByteArray.empty⟩).term) most) (fun i => l.length - i) (0) (⟨by omega, by simp⟩) ⟨rfl, rfl, trivial⟩ ⟨rfl, rfl, rfl, trivial⟩ (fun _ h => h) ?_
  intro i ⟨hi, hr⟩ ρh
  obtain ⟨lst, hlst⟩ : ∃ lst : Int, lst = (if i = 0 then least else (l.getD (i - 1) ⟨0, ByteArray.empty⟩).term) := ⟨_, rfl⟩
  rw [← hlst] at hr ⊢
  refine WC.seq <| WC.region <| sv (vlt rfl rfl) <| WL.nil <| WX.thenN <| WC.seq <| ?_
  refine WC.ite rfl (fun h1 => ?_) (fun h1 => ?_)
  · -- then
    have hil : i < l.length := by omega
    obtain ⟨d, hd⟩ : ∃ d, l[i]? = some d := ⟨_, List.getElem?_eq_getElem hil⟩
    have hdr : l.drop i = d :: l.drop (i + 1) := by rw [List.drop_eq_getElem_cons hil, (List.getElem?_eq_some_iff.1 hd).2]
    rw [hdr] at hr
    have hlc := cvs_length l
    have hpos : 0 < (cvs l).length := by omega
    have hag : ((cvs l).drop (((i : Int)).toNat * 2)).take 2 = [.int .i64 d.term, .string d.data] := by rw [Int.toNat_natCast]; exact cvs_take2 hd
    have hone : ∀ v ∈ [Value.int .i64 d.term, .string d.data], v.oneCell' = true := by intro v hv; simp only [List.mem_cons, List.not_mem_nil, or_false] at hv; rcases hv with rfl | rfl <;> rfl
    refine WC.known (fun w h => rsome (base := base) hpos reads h) fun hb => ?_
    refine WC.skip <| WX.thenN <| ?_
    refine WC.cutv (ι := Unit) (fun i => [(1, .int .i64 d.term)]) [(2, .int _ _), (9, .slice _ _ _), (10, .int _ _), (11, .int _ _)] (fun i => A) (fun i => max lst 1 ≤ d.term ∧ d.term ≤ most ∧ (d.data.size : Int) ≤ 4096) ⟨rfl, rfl, rfl, rfl, trivial⟩ ?_ ?_
    · -- up to the join
      refine WC.block <| WC.seq <| WC.region <| sv (vix Try.underlying31 sz69 rfl rfl (by omega) (by omega) reads (hpos)) <| sv (vlda ag69 sz69 rfl reads (hag) rfl (by decide)) <| alz (cs := [.int .i64 0, .string ByteArray.empty]) zt69 (by rfl) fun b3 => stA sz69 rfl rfl rfl rfl (hone) <| WL.nil <| WX.thenN <| WC.seq <| ?_
      refine WC.cut0 [(31, .bool (decide (d.term < max lst 1 ∨ most < d.term ∨ (4096 : Int) < d.data.size)))] [(2, .int _ _), (8, _), (9, .slice _ _ _), (10, .int _ _), (11, .int _ _)] (cel b3 [.int .i64 d.term, .string d.data] 69 :: A) ⟨rfl, rfl, rfl, rfl, rfl, trivial⟩ ?_ fun ρh => ?_
      · -- raft.go:31
        refine WC.region <| sv (vfld fl69f0 rfl) <| sv (vldc pl3 rfl) <| sv (vmI rfl) <| sv (vmax rfl rfl) <| svs (vlt rfl rfl) (fun q1 => ?_) (fun q1 => ?_)
        ·
          exact sv (vmB rfl) <| sng rfl <| sng rfl <| sng rfl <| sng rfl <| sv (vpkt rfl) <| sv (vmB rfl) <| sng rfl <| sng rfl <| sng rfl <| sng rfl <| sv (vpkt rfl) <| WL.nil <| WX.mid () trivial ⟨bT (by first | omega | simp_all | grind), trivial⟩ ⟨rfl, rfl, rfl, rfl, rfl, trivial⟩ (fun _ h => h)
        ·
          refine sv (vmB rfl) <| svg rfl (vfld fl69f0 rfl) <| svg rfl (vldc pl3 rfl) <| svg rfl (vmI rfl) <| svsg rfl (vgt rfl rfl) (fun q2 => ?_) (fun q2 => ?_)
          ·
            exact sv (vpkf rfl) <| sv (vmB rfl) <| sng rfl <| sng rfl <| sng rfl <| sng rfl <| sv (vpkt rfl) <| WL.nil <| WX.mid () trivial ⟨bT (by first | omega | simp_all | grind), trivial⟩ ⟨rfl, rfl, rfl, rfl, rfl, trivial⟩ (fun _ h => h)
          ·
            exact sv (vpkf rfl) <| sv (vmB rfl) <| svg rfl (vfld fl69f1 rfl) <| svg rfl (vldc pl9 rfl) <| svg rfl (vlens Try.underlying9 rfl) <| svg rfl (vgt rfl rfl) <| sv (vpkf rfl) <| WL.nil <| WX.mid () trivial ⟨bI (by first | omega | simp_all | grind), trivial⟩ ⟨rfl, rfl, rfl, rfl, rfl, trivial⟩ (fun _ h => h)
      refine WC.ite rfl (fun h2 => ?_) (fun h2 => ?_)
      · -- then
        have hno : ¬ (max lst 1 ≤ d.term ∧ d.term ≤ most ∧ d.data.size ≤ 4096) := by omega
        exact WC.seq <| WC.region <| sv (vaB rfl) <| WL.nil <| WX.thenN <| WC.ret <| WX.thenR <| WX.blockR <| WX.thenR <| WX.thenR <| WX.blockR <| WX.thenR <| WX.ret1 rfl (()) (trivial) (by rw [hr, rises, decide_eq_false hno]; rfl) (fun _ h => h.tail)
      · -- else
        exact WC.skip <| WX.thenN <| WC.region <| sv (vfld fl69f0 rfl) <| sv (vldc pl3 rfl) <| sv (vaI rfl) <| WL.nil <| WX.blockN <| WX.mid (()) (⟨by omega, by omega, by omega⟩) ⟨rfl, trivial⟩ ⟨rfl, rfl, rfl, rfl, trivial⟩ (fun _ h => h.tail)
    · -- behind the join
      intro _ hj ρh
      refine WC.region <| sv (vadd rfl rfl (by omega)) <| sv (vmI rfl) <| WL.nil <| WX.again (i + 1) (⟨by omega, by rw [hr, rises, decide_eq_true (by omega), Bool.true_and, if_neg (by omega), Nat.add_sub_cancel, List.getD_eq_getElem?_getD, hd]; rfl⟩) (by omega) ⟨iv (by rw [if_neg (by omega), Nat.add_sub_cancel, List.getD_eq_getElem?_getD, hd]; rfl), rfl, trivial⟩ ⟨rfl, rfl, rfl, trivial⟩ (fun _ h => h)
  · -- else
    exact WC.exit <| WX.thenE <| WX.thenE <| WX.blockH <| WX.thenN <| WC.seq <| WC.region <| sv (vaB rfl) <| WL.nil <| WX.thenN <| WC.ret <| WX.ret1 rfl (()) (trivial) (by rw [hr, List.drop_eq_nil_of_le (by omega)]; rfl) (fun _ h => h)
end Go.Proofs.Ytigjompojlhomaa
end
section
set_option linter.unusedVariables false
set_option linter.unusedSimpArgs false
set_option maxRecDepth 4000
namespace Go.Proofs.Ytigjompojlhomaa
open Go.Sl Go.RowKit Go.Raft

theorem raft_others {w0 : World} {p c l : Nat} {base : Option Addr} {vv pv : Value} {x : Rn} {C : Nat → List HProp} (hn : 0 ≤ x.n ∧ x.n ≤ 5) (hs : ∀ k : Nat, (k : Int) + 1 = x.id → C (k + 1) = C k)
    (hY : ∀ k : Nat, k < x.n.toNat → (k : Int) + 1 ≠ x.id → YieldA Try.prog w0 l (.int .i64 ((k : Int) + 1)) (cel p (ncells x base c vv pv) 104 :: C k) (cel p (ncells x base c vv pv) 104 :: C (k + 1))) :
    Fun Try.prog w0 100 [.pointer (some ⟨p, 0, none⟩), .func (.yield l) #[] #[]] (cel p (ncells x base c vv pv) 104 :: C 0)
      (Ret w0 (fun _ : Unit => True) (fun _ => .tuple #[]) (fun _ => cel p (ncells x base c vv pv) 104 :: C x.n.toNat)) := by
  refine Fun.enter Try.func100 rfl Try.ntmps100 rfl ?_
  refine WC.seq <| WC.region <| sv (vaI rfl) <| WL.nil <| WX.thenN <| WC.block <| ?_
  refine WC.loop (ι := Nat) (fun i => [(4, .int .i64 ((i : Int) + 1))]) [(0, .pointer _), (1, .func _ _ _)] (fun i => cel p (ncells x base c vv pv) 104 :: C i) (fun i => i ≤ x.n.toNat) (fun i => x.n.toNat - i) (0) (by omega) ⟨rfl, trivial⟩ ⟨rfl, rfl, trivial⟩ (fun _ h => h) ?_
  intro i hi ρh
  refine WC.seq <| WC.seq <| WC.region <| sv (vmI rfl) <| sv (vmP rfl) <| sv (vnil rfl) <| sv (vfld fl104f1 rfl) <| sv (vldc pl3 rfl) <| sv (vle rfl rfl) <| WL.nil <| WX.thenN <| ?_
  refine WC.ite rfl (fun h1 => ?_) (fun h1 => ?_)
  · -- then
    refine WC.skip <| WX.thenN <| WC.seq <| WC.block <| ?_
    refine WC.cut0 [(24, .bool false)] [(0, .pointer _), (1, .func _ _ _), (4, .int _ _)] (cel p (ncells x base c vv pv) 104 :: C (i + 1)) ⟨rfl, rfl, rfl, trivial⟩ ?_ fun ρh => ?_
    · -- raft.go:58
      refine WC.regionI <| WLI.sv (vmI rfl) <| WLI.sv (vmP rfl) <| WLI.sv (vnil rfl) <| WLI.sv (vfld fl104f0 rfl) <| WLI.sv (vldc pl3 rfl) <| WLI.svs (vne rfl rfl) (fun q1 => ?_) (fun q1 => ?_)
      ·
        exact WLI.sv (vmB rfl) <| WLI.svg rfl (vmF rfl) <| WLI.svg rfl (vmI rfl) <| WLI.yg (v := .int .i64 ((i : Int) + 1)) (l := l) rfl rfl rfl (hY i (by omega) q1) <| WLI.svg rfl (vnot rfl) <| WLI.sv (vpkt rfl) <| WLI.nil <| WX.mid () trivial ⟨rfl, trivial⟩ ⟨rfl, rfl, rfl, trivial⟩ (fun _ h => h)
      ·
        exact WLI.sv (vmB rfl) <| WLI.sng rfl <| WLI.sng rfl <| WLI.sng rfl <| WLI.sng rfl <| WLI.sv (vpkf rfl) <| WLI.nil <| WX.mid () trivial ⟨rfl, trivial⟩ ⟨rfl, rfl, rfl, trivial⟩ (fun w h => by rw [hs i (by omega)]; exact h)
    refine WC.ff rfl ?_
    exact WC.skip <| WX.blockN <| WX.thenN <| WC.region <| sv (vmI rfl) <| sv (vadd rfl rfl (by omega)) <| sv (vaI rfl) <| WL.nil <| WX.again (i + 1) (by omega) (by omega) ⟨rfl, trivial⟩ ⟨rfl, rfl, trivial⟩ (fun _ h => h)
  · -- else
    exact WC.exit <| WX.thenE <| WX.thenE <| WX.blockH <| WX.end0 rfl (()) (trivial) rfl (fun w h => by rw [show x.n.toNat = i by omega]; exact h)
theorem raft_clone {w0 : World} {A : List HProp} {c : Nat} {base : Option Addr} {l : List Cl} (hl : l.length ≤ 1099511627776) [hR : Reads w0 A base (cvs l)] :
    Fun Try.prog w0 29 [.slice base l.length c] A
      (Ret w0 (fun i : Option Addr × Nat => l.length ≤ i.2) (fun i => .slice i.1 l.length i.2) (fun i => row i.1 i.2 2 69 (cvs l) :: A)) := by
  refine Fun.enter Try.func29 rfl Try.ntmps29 rfl ?_
  refine WC.seq <| WC.region <| sv (vaS rfl) <| WL.nil <| WX.thenN <| WC.seq <| WC.seq <| WC.region <| sv (vmS rfl) <| sv (vsnl Try.underlying31 rfl rfl) <| WL.nil <| WX.thenN <| ?_
  refine WC.iteb rfl (fun h1 => ?_) (fun h1 => ?_)
  · -- then
    refine WC.known (p := l = []) (fun w h => ?_) fun hnil => ?_
    · rcases Nat.eq_zero_or_pos l.length with h0 | h0
      · exact List.eq_nil_of_length_eq_zero h0
      · have := rsome (base := base) (vs := cvs l) (by rw [cvs_length]; omega) reads h
        rw [Option.isSome_iff_ne_none] at this
        exact absurd (Option.isNone_iff_eq_none.1 h1) this
    subst hnil
    exact WC.seq <| WC.region <| sv (vaS rfl) <| WL.nil <| WX.thenN <| WC.ret <| WX.thenR <| WX.ret1 rfl ((none, 0)) (by simp) rfl (fun _ h => h.intro_row_nil)
  · -- else
    exact WC.skip <| WX.thenN <| WC.seq <| WC.region <| bslz Try.underlying31 zt69 fun b1 => sv (vmS rfl) <| ap (vs := cvs []) (news := cvs l) rfl Try.underlying31 zt69 rfl rfl rfl rfl (cvs_length l) (cvs_one l) reads (by simp only [maxLen]; omega) (by omega) fun base2 c2 hc2 =>sv (vaS rfl) <| WL.nil <| WX.thenN <| WC.ret <| WX.ret1 rfl ((base2, c2)) (by simpa using hc2) (by show Value.slice base2 (0 + l.length) c2 = _; rw [Nat.zero_add]) (fun _ h => h)
/-! ### What a leader knows of the others -/
def peersC (nx mt : Int → Int) : List (Int × Nat) → HProp
  | [] => emp
  | q :: l => star (cel q.2 [.int .i64 (nx q.1), .int .i64 (mt q.1)] 157) (peersC nx mt l)
def pents (ps : List (Int × Nat)) : List (Value × Value) := ps.map fun q => (.int .i64 q.1, .pointer (some ⟨q.2, 0, none⟩))
theorem pents_at {ps : List (Int × Nat)} {j : Nat} {q : Int × Nat} (h : ps[j]? = some q) : (pents ps)[j]? = some (.int .i64 q.1, .pointer (some ⟨q.2, 0, none⟩)) := by simp [pents, h]
theorem peers_out {w0 w : World} {nx mt : Int → Int} {A : List HProp} : ∀ {ps : List (Int × Nat)} {j : Nat} {q : Int × Nat}, ps[j]? = some q → Own w0 (peersC nx mt ps :: A) w → Own w0 (cel q.2 [.int .i64 (nx q.1), .int .i64 (mt q.1)] 157 :: peersC nx mt (ps.eraseIdx j) :: A) w
  | [], _, _, h, _ => by simp at h
  | y :: l, 0, x, h, H => by
    simp at h; subst h
    exact H.star
  | y :: l, j + 1, x, h, H => by
    have h1 := H.star.pk1
    have h2 := peers_out (ps := l) (j := j) (q := x) (by simpa using h) h1
    exact h2.pk2.pk2.pk1.intro_star.pk1
theorem peersC_congr {nx mt nx' mt' : Int → Int} {ps : List (Int × Nat)} (h : ∀ q ∈ ps, nx' q.1 = nx q.1 ∧ mt' q.1 = mt q.1) : peersC nx' mt' ps = peersC nx mt ps := by
  induction ps with
  | nil => rfl
  | cons y l ih =>
    have h1 := h y (by simp)
    simp only [peersC, h1.1, h1.2, ih fun q hq => h q (by simp [hq])]
theorem peers_in {w0 w : World} {nx mt nx' mt' : Int → Int} {A : List HProp} : ∀ {ps : List (Int × Nat)} {j : Nat} {q : Int × Nat}, ps[j]? = some q → (ps.map Prod.fst).Nodup → (∀ k, k ≠ q.1 → nx' k = nx k ∧ mt' k = mt k) → Own w0 (cel q.2 [.int .i64 (nx' q.1), .int .i64 (mt' q.1)] 157 :: peersC nx mt (ps.eraseIdx j) :: A) w → Own w0 (peersC nx' mt' ps :: A) w
  | [], _, _, h, _, _, _ => by simp at h
  | y :: l, 0, x, h, hn, hc, H => by
    simp at h; subst h
    simp only [List.map_cons, List.nodup_cons] at hn
    have e : peersC nx' mt' l = peersC nx mt l := peersC_congr fun q hq => hc _ fun he => hn.1 (List.mem_map.2 ⟨q, hq, he⟩)
    unfold peersC
    rw [e]
    exact H.intro_star
  | y :: l, j + 1, x, h, hn, hc, H => by
    simp only [List.map_cons, List.nodup_cons] at hn
    have h' : l[j]? = some x := by simpa using h
    have hy : y.1 ≠ x.1 := fun he => hn.1 (List.mem_map.2 ⟨x, List.mem_of_getElem? h', he.symm⟩)
    have e := hc y.1 hy
    have h1 : Own w0 (star (cel y.2 [.int .i64 (nx y.1), .int .i64 (mt y.1)] 157) (peersC nx mt (l.eraseIdx j)) :: cel x.2 [.int .i64 (nx' x.1), .int .i64 (mt' x.1)] 157 :: A) w := H.pk1
    have h2 := peers_in (ps := l) (j := j) (q := x) h' hn.2 hc (h1.star.pk1.pk2)
    unfold peersC
    rw [e.1, e.2]
    exact h2.pk1.intro_star
theorem peers_snoc {w0 w : World} {nx mt : Int → Int} {q : Int × Nat} : ∀ {ps : List (Int × Nat)} {A : List HProp}, Own w0 (cel q.2 [.int .i64 (nx q.1), .int .i64 (mt q.1)] 157 :: peersC nx mt ps :: A) w → Own w0 (peersC nx mt (ps ++ [q]) :: A) w
  | [], A, H => H.intro_star
  | z :: l, A, H => by
    have h1 := H.pk1.star.pk1.pk2
    exact (peers_snoc (ps := l) (h1.ix [0, 1, 2])).ix [1, 0] |>.intro_star
theorem CellC.of_peers {w0 : World} {nx mt : Int → Int} {A : List HProp} {ps : List (Int × Nat)} {j i : Nat} {q : Int × Nat} {v : Value} (hm : peersC nx mt ps ∈ A) (hj : ps[j]? = some q) (hv : [Value.int .i64 (nx q.1), .int .i64 (mt q.1)][i]? = some v) : CellC w0 A (some ⟨q.2, i, none⟩) v := fun w hw => by
  obtain ⟨R, h⟩ := hw.mem hm
  exact CellC.of_cel (List.Mem.head _) hv w (peers_out hj h)
def feedH (x : Rn) (k : Int) (i : Option Addr × Nat) : Mh := ⟨3, x.id, k, x.term, x.nx k - 1, atT x.log (x.nx k - 1), x.commit, false, ⟨i.1, (feedM x k).cells, i.2⟩⟩
theorem feedH_ml (x : Rn) (k : Int) (i : Option Addr × Nat) : (feedH x k i).ml = feedM x k := rfl
theorem raft_feed {w0 : World} {R : List HProp} {p c m j : Nat} {base : Option Addr} {vv : Value} {x : Rn} {ps : List (Int × Nat)} {q : Int × Nat} (hl : x.log.length ≤ 10000) (hc : x.log.length ≤ c) (hk : 1 ≤ x.nx q.1 ∧ x.nx q.1 ≤ (x.log.length : Int) + 1) (hj : ps[j]? = some q) :
    Fun Try.prog w0 98 [.pointer (some ⟨p, 0, none⟩), .int .i64 q.1] (cel p (ncells x base c vv (.map (some m))) 104 :: row base c 2 69 (cvs x.log) :: mp (.int .i64) m (pents ps) :: peersC x.nx x.mt ps :: R)
      (Ret w0 (fun i : Option Addr × Nat => (feedM x q.1).cells.length ≤ i.2) (fun i => .agg (mv (feedH x q.1 i)).toArray) (fun i => row i.1 i.2 2 69 (cvs (feedM x q.1).cells) :: cel p (ncells x base c vv (.map (some m))) 104 :: row base c 2 69 (cvs x.log) :: mp (.int .i64) m (pents ps) :: peersC x.nx x.mt ps :: R)) := by
  obtain ⟨lo, hlo⟩ : ∃ lo : Nat, x.nx q.1 - 1 = (lo : Int) := ⟨(x.nx q.1 - 1).toNat, by omega⟩
  have hcl : (feedM x q.1).cells = (x.log.drop lo).take 8 := by simp [feedM, hlo]
  have hcn : ((x.log.drop lo).take 8).length = (min (x.log.length : Int) ((lo : Int) + 8)).toNat - lo := by rw [List.length_take, List.length_drop]; omega
  have hrd : ∀ {B : List HProp} [Reads w0 B base (cvs x.log)], RdC w0 B (slB base ((lo : Int)).toNat c 2) (cvs ((x.log.drop lo).take 8)) := fun {B} _ => by
    have := (reads (w0 := w0) (A := B) (base := base) (vs := cvs x.log)).slice lo c 2 (((x.log.drop lo).take 8).length * 2) (fun h => by rw [hcn]; omega)
    rw [cvs_drop] at this
    have e : (cvs (x.log.drop lo)).take (((x.log.drop lo).take 8).length * 2) = cvs ((x.log.drop lo).take 8) := by rw [cvs_take, List.length_take, List.take_eq_take_iff.2]; omega
    rw [e] at this
    simpa using this
  refine Fun.enter Try.func98 rfl Try.ntmps98 rfl ?_
  exact WC.seq <| WC.region <| alz (cs := [.int .i64 0, .int .i64 0, .int .i64 0, .int .i64 0, .int .i64 0, .int .i64 0, .int .i64 0, .bool false, .slice none 0 0]) zt54 (by rfl) fun b1 => WL.nil <| WX.thenN <| WC.seq <| WC.region <| sv (vmP rfl) <| sv (vmI rfl) <| cl (raft_mail (x := x) (base := base) (c := c) (vv := vv) (pv := .map (some m))) ct94 rfl fun _ _ => alz (cs := [.int .i64 0, .int .i64 0, .int .i64 0, .int .i64 0, .int .i64 0, .int .i64 0, .int .i64 0, .bool false, .slice none 0 0]) zt54 (by rfl) fun b3 => stA sz54 rfl rfl rfl rfl (hone) <| WL.nil <| WX.thenN <| WC.seq <| WC.region <| sv (vmP rfl) <| sv (vnil rfl) <| sv (vfld fl104f11 rfl) <| sv (vldc pl102 rfl) <| sv (vmI rfl) <| sv (vlk Try.underlying102 Try.underlying3 rfl rfl rfl (pents_at hj)) <| sv (vnil rfl) <| sv (vfld fl157f0 rfl) <| sv (vld pl3 rfl (CellC.of_peers (nx := x.nx) (mt := x.mt) (ps := ps) (by simp) hj rfl)) <| sv (vw (vsub rfl rfl (by omega)) (iv hlo)) <| sv (vfld fl54f4 rfl) <| stc (v := .int _ _) pl3 sz3 rfl rfl rfl <| WL.nil <| WX.thenN <| WC.seq <| WC.region <| sv (vmP rfl) <| sv (vfld fl54f4 rfl) <| sv (vldc pl3 rfl) <| cl (raft_at (x := x) (base := base) (c := c) (vv := vv) (pv := .map (some m)) hl) ct95 rfl fun _ _ => sv (vfld fl54f5 rfl) <| stc (v := .int _ _) pl3 sz3 rfl rfl rfl <| WL.nil <| WX.thenN <| WC.seq <| WC.region <| sv (vmP rfl) <| sv (vnil rfl) <| sv (vfld fl104f7 rfl) <| sv (vldc pl3 rfl) <| sv (vfld fl54f6 rfl) <| stc (v := .int _ _) pl3 sz3 rfl rfl rfl <| WL.nil <| WX.thenN <| WC.seq <| WC.plan (.bar [0, 1, 2, 3, 4, 5, 6, 7, 8, 9, 10, 11, 12, 13, 14, 15] 16 (.bar [17] 18 (.done []))) rfl (by kernel_rfl) <| WPl.bar (trivial) <| dv (fun g => (vmP rfl)) <| dv (fun g => (vnil rfl)) <| dv (fun g => (vfld fl104f4 rfl)) <| dv (fun g => (vldc pl31 rfl)) <| dv (fun g => (vfld fl54f4 rfl)) <| dv (fun g => (vldc pl3 rfl)) <| dv (fun g => (vmP rfl)) <| dv (fun g => (vnil rfl)) <| dv (fun g => (vfld fl104f4 rfl)) <| dv (fun g => (vldc pl31 rfl)) <| dv (fun g => (vlen Try.underlying31 rfl)) <| dv (fun g => (vfld fl54f4 rfl)) <| dv (fun g => (vldc pl3 rfl)) <| dv (fun g => (vadd rfl rfl (by omega))) <| dv (fun g => (vmin rfl rfl)) <| dv (fun g => (vw (v' := .slice (slB base ((lo : Int)).toNat c 2) ((x.log.drop lo).take 8).length (c - ((lo : Int)).toNat)) (vslLH Try.underlying31 sz69 rfl rfl rfl (by omega) (by omega) (by omega)) (by rw [hcn, Int.toNat_natCast]))) <| WD.eff rfl <| cl (raft_clone (hR := ⟨hrd⟩) (by rw [List.length_take]; omega)) ct29 rfl fun i22 hi22 => WL.nil <| WX.brT <| WPl.bar (trivial) <| dv (fun g => (vfld fl54f8 rfl)) <| WD.eff rfl <| pm (fun _ h => h.pk1) <| stc (v := .slice _ _ _) pl31 sz31 rfl rfl rfl <| WL.nil <| WX.brT <| WPl.fin (trivial) <| WD.nil <| WX.thenN <| WC.seq <| WC.region <| sv (vldac ag54 sz54 rfl rfl (by decide)) <| pm (fun _ h => h.pk2) <| stA sz54 rfl rfl rfl rfl (hone) <| WL.nil <| WX.thenN <| WC.ret <| WX.ret1c rfl ag54 sz54 (i22) (by rw [hcl]; exact hi22) rfl rfl (by decide) (by unfold feedH; rw [hcl, hlo]) (fun w h => by rw [hcl]; exact h.tail.tail)
end Go.Proofs.Ytigjompojlhomaa
end
section
set_option linter.unusedVariables false
set_option linter.unusedSimpArgs false
set_option maxRecDepth 4000
namespace Go.Proofs.Ytigjompojlhomaa
open Go.Sl Go.RowKit Go.Raft

def mvs (l : List Mh) : List Value := l.flatMap mv
theorem mvs_length (l : List Mh) : (mvs l).length = l.length * 9 := flat_len (fun _ _ => rfl)
theorem mvs_snoc (l : List Mh) (m : Mh) : mvs (l ++ [m]) = mvs l ++ mv m := by simp [mvs]
/-- the arrays of the mails' cells -/
def mrows : List Mh → HProp
  | [] => emp
  | m :: l => star (row m.cs.base m.cs.cap 2 69 (cvs m.cs.xs)) (mrows l)
theorem mrows_snoc {w0 w : World} {y : Mh} : ∀ {l : List Mh} {A : List HProp}, Own w0 (row y.cs.base y.cs.cap 2 69 (cvs y.cs.xs) :: mrows l :: A) w → Own w0 (mrows (l ++ [y]) :: A) w
  | [], A, H => H.intro_star
  | z :: l, A, H => by
    have h1 := H.pk1.star.pk1.pk2
    exact ((mrows_snoc (l := l) (h1.ix [0, 1, 2])).ix [1, 0]).intro_star
/-- a variable with mails -/
def outC (b : Nat) (l : List Ml) : HProp := fun h => ∃ base c ms, (ms.map Mh.ml = l ∧ ms.length ≤ c) ∧ star (mrows ms) (star (cel b [.slice base ms.length c] 50) (row base c 9 54 (mvs ms))) h
theorem outC_mk {w0 w : World} {A : List HProp} {b n c : Nat} {base : Option Addr} {ms : List Mh} {l : List Ml} (hl : ms.map Mh.ml = l) (hn : n = ms.length) (hc : n ≤ c) (H : Own w0 (mrows ms :: cel b [.slice base n c] 50 :: row base c 9 54 (mvs ms) :: A) w) : Own w0 (outC b l :: A) w := by
  subst hn
  exact (H.pk2.pk2.intro_star.pk1.intro_star).head fun _ h => ⟨base, c, ms, ⟨hl, hc⟩, h⟩
theorem outC_nil {w0 w : World} {A : List HProp} {b : Nat} (H : Own w0 (cel b [.slice none 0 0] 50 :: A) w) : Own w0 (outC b [] :: A) w :=
  outC_mk (ms := []) (n := 0) (c := 0) (base := none) rfl rfl (Nat.le_refl _) ((H.intro_row_nil.pk1).intro_emp)
theorem outC_open {w0 w : World} {A : List HProp} {b : Nat} {l : List Ml} (H : Own w0 (outC b l :: A) w) : ∃ i : Option Addr × Nat × List Mh, (i.2.2.map Mh.ml = l ∧ i.2.2.length ≤ i.2.1) ∧ Own w0 (cel b [.slice i.1 i.2.2.length i.2.1] 50 :: row i.1 i.2.1 9 54 (mvs i.2.2) :: mrows i.2.2 :: A) w := by
  obtain ⟨hb, h, ⟨h1, h2, ⟨base, c, ms, hl, a⟩, a2, dd, x⟩, hw⟩ := H
  have h3 : Own w0 (star (mrows ms) (star (cel b [.slice base ms.length c] 50) (row base c 9 54 (mvs ms))) :: A) w := ⟨hb, h, ⟨h1, h2, a, a2, dd, x⟩, hw⟩
  exact ⟨(base, c, ms), hl, h3.star.pk1.star⟩
theorem oth_id {id : Int} {k : Nat} (h : (k : Int) + 1 = id) : oth id (k + 1) = oth id k := by simp [oth, h]
theorem oth_snoc {id : Int} {k : Nat} (h : (k : Int) + 1 ≠ id) : oth id (k + 1) = oth id k ++ [(k : Int) + 1] := by simp [oth, h]
theorem peer_at {x : Rn} {ps : List (Int × Nat)} (hps : ps.map Prod.fst = others x) {k : Int} (hk : k ∈ others x) : ∃ (j b : Nat), ps[j]? = some (k, b) := by
  rw [← hps] at hk
  obtain ⟨q, hq, rfl⟩ := List.mem_map.1 hk
  obtain ⟨j, hj⟩ := List.mem_iff_getElem?.1 hq
  exact ⟨j, q.2, hj⟩
theorem raft_feedAll {w0 : World} {R : List HProp} {p c m : Nat} {base : Option Addr} {vv : Value} {x : Rn} {ps : List (Int × Nat)} (hn : 0 ≤ x.n ∧ x.n ≤ 5) (hl : x.log.length ≤ 10000) (hc : x.log.length ≤ c) (hk : ∀ k ∈ others x, 1 ≤ x.nx k ∧ x.nx k ≤ (x.log.length : Int) + 1) (hps : ps.map Prod.fst = others x) :
    Fun Try.prog w0 101 [.pointer (some ⟨p, 0, none⟩)] (cel p (ncells x base c vv (.map (some m))) 104 :: row base c 2 69 (cvs x.log) :: mp (.int .i64) m (pents ps) :: peersC x.nx x.mt ps :: R)
      (Ret w0 (fun i : Option Addr × Nat × List Mh => i.2.2.map Mh.ml = (feedAllS x).2 ∧ i.2.2.length ≤ i.2.1) (fun i => .slice i.1 i.2.2.length i.2.1) (fun i => row i.1 i.2.1 9 54 (mvs i.2.2) :: mrows i.2.2 :: cel p (ncells (feedAllS x).1 base c vv (.map (some m))) 104 :: row base c 2 69 (cvs x.log) :: mp (.int .i64) m (pents ps) :: peersC x.nx x.mt ps :: R)) := by
  refine Fun.enterM Try.func101 rfl Try.ntmps101 rfl ?_
  refine WC.seq <| WC.region <| bxc (v := .pointer _) (cs := [.pointer _]) rfl rfl fun b1 => sv (vaS rfl) <| WL.nil <| WX.thenN <| WC.seq <| WC.region <| sv (vldc pl62 rfl) <| sv (vnil rfl) <| sv (vfld fl104f9 rfl) <| pm (fun _ h => h.pk1) <| stc (v := .int _ _) pl3 sz3 rfl rfl rfl <| WL.nil <| WX.thenN <| WC.seq <| WC.region <| alz (cs := [.slice none 0 0]) zt50 (by rfl) fun b4 => WL.nil <| WX.thenN <| WC.seq <| WC.seq <| WC.region <| sv (vldc pl62 rfl) <| sv (vfnb rfl) <| WL.nil <| WX.thenN <| WC.block <| ?_
  refine WC.rangeF (bnd := [.pointer (some ⟨p, 0, none⟩)]) (fun k => [cel p (ncells { x with since := 0 } base c vv (.map (some m))) 104, row base c 2 69 (cvs x.log), mp (.int .i64) m (pents ps), peersC x.nx x.mt ps, outC b4 ((oth x.id k).map (feedM { x with since := 0 })), cel b1 [.pointer (some ⟨p, 0, none⟩)] 62]) (0) (x.n.toNat) (fun k v => v = .int .i64 ((k : Int) + 1) ∧ k < x.n.toNat ∧ (k : Int) + 1 ≠ x.id) ct100 rfl (fun w h => (outC_nil h).ix [1, 3, 4, 5, 0, 2]) (fun l Rr hY => raft_others (x := { x with since := 0 }) (C := fun k => row base c 2 69 (cvs x.log) :: mp (.int .i64) m (pents ps) :: peersC x.nx x.mt ps :: outC b4 ((oth x.id k).map (feedM { x with since := 0 })) :: cel b1 [.pointer (some ⟨p, 0, none⟩)] 62 :: Rr) hn (fun k h => by simp only [oth_id h]) (fun k h1 h2 => hY k _ ⟨rfl, h1, h2⟩)) ?_ ?_
  · -- a round
    intro lR XR YR k v hS
    obtain ⟨rfl, hk1, hk2⟩ := hS
    refine WG.region (by kernel_rfl) <| sv (vaI rfl) <| WL.nil <| WX.asg <| ?_
    refine WG.perm (A' := cel p (ncells { x with since := 0 } base c vv (.map (some m))) 104 :: row base c 2 69 (cvs x.log) :: mp (.int .i64) m (pents ps) :: peersC x.nx x.mt ps :: outC b4 ((oth x.id k).map (feedM { x with since := 0 })) :: cel b1 [.pointer (some ⟨p, 0, none⟩)] 62 :: YR :: R) ?_ (fun _ h => h)
    have hko : (k : Int) + 1 ∈ others x := oth_mem.2 ⟨by omega, by omega, hk2⟩
    obtain ⟨j, pb, hj⟩ := peer_at hps hko
    have hkn := hk _ hko
    refine WG.ex (B := fun i : Option Addr × Nat × List Mh => cel p (ncells { x with since := 0 } base c vv (.map (some m))) 104 :: row base c 2 69 (cvs x.log) :: mp (.int .i64) m (pents ps) :: peersC x.nx x.mt ps :: row i.1 i.2.1 9 54 (mvs i.2.2) :: cel b4 [.slice i.1 i.2.2.length i.2.1] 50 :: mrows i.2.2 :: cel b1 [.pointer (some ⟨p, 0, none⟩)] 62 :: YR :: R) (fun w h => by obtain ⟨i, hi, hO⟩ := outC_open h.pk4; exact ⟨i, hi, hO.ix [3, 4, 5, 6, 1, 0, 2]⟩) ?_
    rintro ⟨ob, oc, ms⟩ ⟨hms, hmc⟩
    dsimp only at hms hmc ⊢
    have hml : ms.length ≤ 5 := by have := congrArg List.length hms; have h2 := oth_len (id := x.id) (n := k); rw [List.length_map, List.length_map] at this; omega
    have hmvl := mvs_length ms
    refine WG.block <| WG.plan (.pre [1, 2] (.one [0] 3 (.one [] 4 (.bar [] 5 (.bar [] 6 (.done [])))))) rfl (by kernel_rfl) <| WPl.pre (trivial) <| dv (fun g => (vldc pl62 rfl)) <| dv (fun g => (vmI rfl)) <| WD.nil <| WPl.one (fun g => g ++ cel p (ncells { x with since := 0 } base c vv (.map (some m))) 104 :: row base c 2 69 (cvs x.log) :: mp (.int .i64) m (pents ps) :: peersC x.nx x.mt ps :: row ob oc 9 54 (mvs ms) :: cel b4 [.slice ob ms.length oc] 50 :: mrows ms :: cel b1 [.pointer (some ⟨p, 0, none⟩)] 62 :: YR :: R) ([]) (fun _ => trivial) (rfl) <| dv (fun g => (vldc pl50 rfl)) <| WD.eff rfl <| cl (raft_feed (x := { x with since := 0 }) (q := ((k : Int) + 1, pb)) hl hc hkn hj) ct98 rfl fun i8 hi8 => WL.nil <| WX.br <| WPl.one (fun g => g ++ cel p (ncells { x with since := 0 } base c vv (.map (some m))) 104 :: row base c 2 69 (cvs x.log) :: mp (.int .i64) m (pents ps) :: peersC x.nx x.mt ps :: row ob oc 9 54 (mvs ms) :: cel b4 [.slice ob ms.length oc] 50 :: mrows ms :: cel b1 [.pointer (some ⟨p, 0, none⟩)] 62 :: YR :: R) ([_]) (fun g => good_same _ g) (rfl) <| WD.eff rfl <| bslA (v := .agg _) (cs := mv (feedH { x with since := 0 } ((k : Int) + 1) i8)) Try.underlying50 zt54 rfl rfl rfl (by decide) (by decide) fun b9 =>WL.nil <| WX.br <| WPl.bar (⟨[_, _], rfl⟩) <| WD.eff rfl <| pm (fun _ h => h.pk6) <| ap (news := mv (feedH { x with since := 0 } ((k : Int) + 1) i8)) rfl Try.underlying50 zt54 rfl rfl rfl hmvl rfl (mv_one _) (RdC.of_cel (e := 54) (ws := mv (feedH { x with since := 0 } ((k : Int) + 1) i8)) 0 (by simp) (by simp)) (by simp only [maxLen]; omega) (by omega) fun base10 c10 hc10 =>WL.nil <| WX.brT <| WPl.bar (trivial) <| WD.eff rfl <| pm (fun _ h => h.pk7) <| stc (v := .slice _ _ _) pl50 sz50 rfl rfl rfl <| WL.nil <| WX.brT <| WPl.fin (trivial) <| WD.nil <| WX.gblockN <| WX.round (fun w h => ?_)
    have h1 := mrows_snoc (y := feedH { x with since := 0 } ((k : Int) + 1) i8) (h.ix [3, 8, 0, 1, 4, 5, 6, 7, 9, 2])
    rw [← mvs_snoc] at h1
    have h2 := outC_mk (l := (oth x.id (k + 1)).map (feedM { x with since := 0 })) (by rw [oth_snoc hk2, List.map_append, List.map_append, hms]; rfl) (by simp) hc10 h1
    exact (h2.ix [6, 1, 2, 3, 4, 0, 5]).tail
  · -- behind the rounds
    intro DR lR rR
    refine WX.perm (A' := cel p (ncells { x with since := 0 } base c vv (.map (some m))) 104 :: row base c 2 69 (cvs x.log) :: mp (.int .i64) m (pents ps) :: peersC x.nx x.mt ps :: outC b4 ((oth x.id x.n.toNat).map (feedM { x with since := 0 })) :: cel b1 [.pointer (some ⟨p, 0, none⟩)] 62 :: lp DR lR rR :: R) ?_ (fun _ h => h)
    refine WX.exi (fun w h => outC_open h.pk4) ?_
    rintro ⟨ob, oc, ms⟩ ⟨hms, hmc⟩
    dsimp only at hms hmc ⊢
    exact WX.gblockN <| WX.gthenN <| WG.seq <| WG.region (by kernel_rfl) <| sv (vldc pl50 rfl) <| sv (vaS rfl) <| WL.nil <| WX.gthenM <| WG.ret <| WX.ret1G rfl ((ob, oc, ms)) (⟨hms, hmc⟩) rfl (fun w h => (h.ix [0, 7, 8, 1, 2, 3, 4, 5, 6]).tail.tail)
end Go.Proofs.Ytigjompojlhomaa
end
section
set_option linter.unusedVariables false
set_option linter.unusedSimpArgs false
set_option maxRecDepth 4000
namespace Go.Proofs.Ytigjompojlhomaa
open Go.Sl Go.RowKit Go.Raft

def cntK (x : Rn) (p : Int) (ks : List Int) : Int := 1 + ((ks.filter fun k => decide (p ≤ x.mt k)).length : Int)
theorem cntK_cons {x : Rn} {p k : Int} {ks : List Int} : cntK x p (k :: ks) = if p ≤ x.mt k then cntK x p ks + 1 else cntK x p ks := by
  unfold cntK
  rw [List.filter_cons]
  by_cases h : p ≤ x.mt k
  · simp [h]; omega
  · simp [h]
theorem cntK_all {x : Rn} {p : Int} {ks : List Int} (hn : ks.Nodup) (h : ∀ k, k ∈ ks ↔ k ∈ others x) : cntK x p ks = haveC x p := by
  have hp : ks.Perm (others x) := (List.perm_ext_iff_of_nodup hn oth_nodup).2 h
  unfold cntK haveC
  rw [(hp.filter _).length_eq]
theorem countP_succ {x : Rn} {k : Nat} (h : x.commit < (k : Int) + 1 ∧ atT x.log ((k : Int) + 1) = x.term) : countP x (k + 1) = if x.n < 2 * haveC x ((k : Int) + 1) then (k : Int) + 1 else countP x k := by
  rw [countP, if_pos h]
theorem countP_stop {x : Rn} : ∀ {k : Nat}, ¬ (x.commit < (k : Int) ∧ atT x.log (k : Int) = x.term) → countP x k = x.commit
  | 0, _ => rfl
  | k + 1, h => by rw [countP, if_neg (by simpa using h)]
theorem sub_len' {α : Type} {ns l : List α} (hn : ns.Nodup) (hs : ∀ n ∈ ns, n ∈ l) : ns.length ≤ l.length := hn.length_le_of_subset hs
theorem raft_count {w0 : World} {R : List HProp} {p c m : Nat} {base : Option Addr} {vv : Value} {x : Rn} {ps : List (Int × Nat)} (hn : 0 ≤ x.n ∧ x.n ≤ 5) (hl : x.log.length ≤ 10000) (h0 : 0 ≤ x.commit) (hps : ps.map Prod.fst = others x) :
    Fun Try.prog w0 85 [.pointer (some ⟨p, 0, none⟩)] (cel p (ncells x base c vv (.map (some m))) 104 :: row base c 2 69 (cvs x.log) :: mp (.int .i64) m (pents ps) :: peersC x.nx x.mt ps :: R)
      (Ret w0 (fun _ : Unit => True) (fun _ => .tuple #[]) (fun _ => cel p (ncells (countS x) base c vv (.map (some m))) 104 :: row base c 2 69 (cvs x.log) :: mp (.int .i64) m (pents ps) :: peersC x.nx x.mt ps :: R)) := by
  refine Fun.enter Try.func85 rfl Try.ntmps85 rfl ?_
  refine WC.seq <| WC.region <| sv (vmP rfl) <| sv (vnil rfl) <| sv (vfld fl104f4 rfl) <| sv (vldc pl31 rfl) <| sv (vlen Try.underlying31 rfl) <| sv (vaI rfl) <| WL.nil <| WX.thenN <| WC.block <| ?_
  refine WC.loop (ι := Nat) (fun i => [(2, .int .i64 (i : Nat))]) [(0, .pointer _)] (fun i => cel p (ncells x base c vv (.map (some m))) 104 :: row base c 2 69 (cvs x.log) :: mp (.int .i64) m (pents ps) :: peersC x.nx x.mt ps :: R) (fun i => i ≤ x.log.length ∧ countP x i = countP x x.log.length) (fun i => i) (x.log.length) (⟨Nat.le_refl _, rfl⟩) ⟨rfl, trivial⟩ ⟨rfl, trivial⟩ (fun _ h => h) ?_
  intro i hi ρh
  refine WC.seq <| ?_
  refine WC.cut0 [(26, .bool (decide (x.commit < (i : Int) ∧ atT x.log i = x.term)))] [(0, .pointer _), (2, .int _ _)] (cel p (ncells x base c vv (.map (some m))) 104 :: row base c 2 69 (cvs x.log) :: mp (.int .i64) m (pents ps) :: peersC x.nx x.mt ps :: R) ⟨rfl, rfl, trivial⟩ ?_ fun ρh => ?_
  · -- raft.go:92
    refine WC.draws rfl (by kernel_rfl) <| qv (vmI rfl) <| qv (vmP rfl) <| qv (vnil rfl) <| qv (vfld fl104f7 rfl) <| qv (vldc pl3 rfl) <| qvs (vgt rfl rfl) (fun q1 => ?_) (fun q1 => ?_)
    ·
      exact qv (vmB rfl) <| qvg rfl (vmP rfl) <| qvg rfl (vmI rfl) <| qclg rfl (Fun.quiet (raft_at (x := x) (base := base) (c := c) (vv := vv) (pv := .map (some m)) hl)) ct95 rfl <| qvg rfl (vmP rfl) <| qvg rfl (vnil rfl) <| qvg rfl (vfld fl104f2 rfl) <| qvg rfl (vldc pl3 rfl) <| qvg rfl (veq rfl rfl) <| qv (vpkt rfl) <| WQ.nil <| WX.mid () trivial ⟨bI (by first | omega | simp_all | grind), trivial⟩ ⟨rfl, rfl, trivial⟩ (fun _ h => h)
    ·
      exact qv (vmB rfl) <| qng rfl <| qng rfl <| qng rfl <| qng rfl <| qng rfl <| qng rfl <| qng rfl <| qng rfl <| qv (vpkf rfl) <| WQ.nil <| WX.mid () trivial ⟨bF (by first | omega | simp_all | grind), trivial⟩ ⟨rfl, rfl, trivial⟩ (fun _ h => h)
  refine WC.ite rfl (fun h1 => ?_) (fun h1 => ?_)
  · -- then
    obtain ⟨k, rfl⟩ : ∃ k, i = k + 1 := by
      cases i with
      | zero => exact absurd h1.1 (by omega)
      | succ k => exact ⟨k, rfl⟩
    refine WC.skip <| WX.thenN <| WC.seq <| WC.block <| WC.seq <| WC.region <| sv (vaI rfl) <| WL.nil <| WX.thenN <| WC.seq <| WC.seq <| WC.region <| sv (vmP rfl) <| sv (vnil rfl) <| sv (vfld fl104f11 rfl) <| sv (vldc pl102 rfl) <| pm (fun _ h => h.pk2) <| rgm Try.underlying102 rfl fun it6 => WL.nil <| WX.thenN <| WC.block <| ?_
    refine WC.loop (ι := List Int) (fun ks => [(3, .int .i64 (cntK x ((k + 1 : Nat) : Int) ks))]) [(0, .pointer _), (2, .int _ _), (33, _)] (fun ks => mr (.int .i64) m (pents ps) it6 (ks.map (Value.int .i64)) :: cel p (ncells x base c vv (.map (some m))) 104 :: row base c 2 69 (cvs x.log) :: peersC x.nx x.mt ps :: R) (fun ks => ks.Nodup ∧ ∀ k ∈ ks, k ∈ others x) (fun ks => (others x).length - ks.length) ([]) (⟨by simp, by simp⟩) ⟨rfl, trivial⟩ ⟨rfl, rfl, rfl, trivial⟩ (fun _ h => h) ?_
    intro ks hks ρh
    have hcb : 0 ≤ cntK x ((k + 1 : Nat) : Int) ks ∧ cntK x ((k + 1 : Nat) : Int) ks ≤ 6 := by
      have h2 := List.length_filter_le (fun j => decide (((k + 1 : Nat) : Int) ≤ x.mt j)) ks
      have h3 := sub_len' hks.1 (l := others x) hks.2
      have h4 := oth_len (id := x.id) (n := x.n.toNat)
      unfold others at h3; unfold cntK; omega
    refine WC.seq <| WC.region <| nxm rfl (fun k7 v7 hk7 hv7 => ?_) (fun hall7 => ?_)
    ·
      obtain ⟨q, hq, hqe⟩ := List.mem_map.1 hk7
      cases hqe
      obtain ⟨j, hj⟩ := List.mem_iff_getElem?.1 hq
      have hqn : q.1 ∉ ks := fun h => hv7 (List.mem_map.2 ⟨_, h, rfl⟩)
      have hqo : q.1 ∈ others x := by rw [← hps]; exact List.mem_map.2 ⟨q, hq, rfl⟩
      have hmu : (others x).length - (q.1 :: ks).length < (others x).length - ks.length := by
        have := sub_len' (List.nodup_cons.2 ⟨hqn, hks.1⟩) (l := others x) (fun n hn => by rcases List.mem_cons.1 hn with rfl | hn; exact hqo; exact hks.2 n hn)
        simp only [List.length_cons] at this ⊢
        omega
      have hRk : (q.1 :: ks).Nodup ∧ ∀ k ∈ q.1 :: ks, k ∈ others x := ⟨List.nodup_cons.2 ⟨hqn, hks.1⟩, fun n hn => by rcases List.mem_cons.1 hn with rfl | hn; exact hqo; exact hks.2 n hn⟩
      refine sv (vex rfl rfl) <| WL.nil <| WX.thenN <| WC.seq <| ?_
      refine WC.tt rfl ?_
      refine WC.skip <| WX.thenN <| WC.block <| WC.seq <| WC.region <| sv (ven rfl hk7) <| sv (vex rfl rfl) <| sv (vaP rfl) <| WL.nil <| WX.thenN <| WC.seq <| WC.region <| sv (vmP rfl) <| sv (vnil rfl) <| sv (vfld fl157f1 rfl) <| sv (vld pl3 rfl (CellC.of_peers (nx := x.nx) (mt := x.mt) (ps := ps) (by simp) hj rfl)) <| sv (vmI rfl) <| sv (vge rfl rfl) <| WL.nil <| WX.thenN <| ?_
      refine WC.ite rfl (fun h3 => ?_) (fun h3 => ?_)
      · -- then
        exact WC.region <| sv (vmI rfl) <| sv (vadd rfl rfl (by omega)) <| sv (vaI rfl) <| WL.nil <| WX.blockN <| WX.again (q.1 :: ks) (hRk) (hmu) ⟨iv (by rw [cntK_cons, if_pos h3]), trivial⟩ ⟨rfl, rfl, rfl, trivial⟩ (fun _ h => h)
      · -- else
        exact WC.skip <| WX.blockN <| WX.again (q.1 :: ks) (hRk) (hmu) ⟨iv (by rw [cntK_cons, if_neg h3]), trivial⟩ ⟨rfl, rfl, rfl, trivial⟩ (fun _ h => h)
    ·
      have hall : cntK x ((k + 1 : Nat) : Int) ks = haveC x ((k : Int) + 1) := by
        have := cntK_all (x := x) (p := ((k + 1 : Nat) : Int)) hks.1 (fun n => ⟨hks.2 n, fun hn => by
          rw [← hps] at hn
          obtain ⟨q, hq, rfl⟩ := List.mem_map.1 hn
          have := hall7 _ (List.mem_map.2 ⟨q, hq, rfl⟩)
          simpa using this⟩)
        rw [this]; congr 1
      have hcs := countP_succ (x := x) (k := k) (by simpa using h1)
      refine sv (vex rfl rfl) <| WL.nil <| WX.thenN <| WC.seq <| ?_
      refine WC.ff rfl ?_
      refine WC.exit <| WX.thenE <| WX.thenE <| WX.blockH <| WX.thenN <| WC.seq <| WC.region <| sv (vmP rfl) <| sv (vmI rfl) <| pm (fun _ h => h.mr_mp.pk1) <| cl (raft_most (x := x) (base := base) (c := c) (vv := vv) (pv := .map (some m)) hn) ct99 rfl fun _ _ => WL.nil <| WX.thenN <| ?_
      refine WC.ite rfl (fun h5 => ?_) (fun h5 => ?_)
      · -- then
        refine WC.seq <| WC.region <| sv (vmP rfl) <| sv (vmI rfl) <| sv (vnil rfl) <| sv (vfld fl104f7 rfl) <| stc (v := .int _ _) pl3 sz3 rfl rfl rfl <| WL.nil <| WX.thenN <| WC.ret <| WX.blockR <| WX.thenR <| WX.thenR <| WX.blockR <| WX.ret0 rfl (()) (trivial) rfl (fun w h => ?_)
        rw [hall] at h5
        rw [if_pos h5, hi.2] at hcs
        have e : (countS x).commit = ((k + 1 : Nat) : Int) := by show countP x x.log.length = _; rw [hcs]; rfl
        unfold ncells
        rw [e]
        exact h.ix [0, 2, 1]
      · -- else
        exact WC.skip <| WX.blockN <| WX.thenN <| WC.region <| sv (vmI rfl) <| sv (vsub rfl rfl (by omega)) <| sv (vaI rfl) <| WL.nil <| WX.again (k) (⟨by omega, by rw [← hi.2, hcs, if_neg (by rw [← hall]; exact h5)]⟩) (by omega) ⟨iv (by omega), trivial⟩ ⟨rfl, trivial⟩ (fun w h => h.ix [0, 2, 1])
  · -- else
    refine WC.exit <| WX.thenE <| WX.thenE <| WX.blockH <| WX.end0 rfl (()) (trivial) rfl (fun w h => ?_)
    have e : (countS x).commit = x.commit := by show countP x x.log.length = _; rw [← hi.2]; exact countP_stop h1
    unfold ncells
    rw [e]
    exact h
end Go.Proofs.Ytigjompojlhomaa
end
section
set_option linter.unusedVariables false
set_option linter.unusedSimpArgs false
set_option maxRecDepth 4000
namespace Go.Proofs.Ytigjompojlhomaa
open Go.Sl Go.RowKit Go.Raft

def vents (l : List Int) : List (Value × Value) := l.map fun k => (.int .i64 k, .agg #[])
/-- the map of the others -/
def prC (m : Nat) (nx mt : Int → Int) (ks : List Int) : HProp := fun h => ∃ ps : List (Int × Nat), ps.map Prod.fst = ks ∧ star (mp (.int .i64) m (pents ps)) (peersC nx mt ps) h
theorem prC_mk {w0 w : World} {A : List HProp} {m : Nat} {nx mt : Int → Int} {ks : List Int} {ps : List (Int × Nat)} (hk : ps.map Prod.fst = ks) (H : Own w0 (mp (.int .i64) m (pents ps) :: peersC nx mt ps :: A) w) : Own w0 (prC m nx mt ks :: A) w :=
  H.intro_star.head fun _ h => ⟨ps, hk, h⟩
theorem prC_open {w0 w : World} {A : List HProp} {m : Nat} {nx mt : Int → Int} {ks : List Int} (H : Own w0 (prC m nx mt ks :: A) w) : ∃ ps : List (Int × Nat), ps.map Prod.fst = ks ∧ Own w0 (mp (.int .i64) m (pents ps) :: peersC nx mt ps :: A) w := by
  obtain ⟨hb, h, ⟨h1, h2, ⟨ps, hk, a⟩, a2, dd, x⟩, hw⟩ := H
  have h3 : Own w0 (star (mp (.int .i64) m (pents ps)) (peersC nx mt ps) :: A) w := ⟨hb, h, ⟨h1, h2, a, a2, dd, x⟩, hw⟩
  exact ⟨ps, hk, h3.star⟩
/-- where a leader's things stand, and its mails -/
structure LI where
  ob : Option Addr
  oc : Nat
  ms : List Mh
  base : Option Addr
  c : Nat
  m : Nat
  ps : List (Int × Nat)
theorem pents_put {ps : List (Int × Nat)} {k : Int} {b : Nat} (h : k ∉ ps.map Prod.fst) : PutE (pents ps) (.int .i64 k) (.pointer (some ⟨b, 0, none⟩)) (pents (ps ++ [(k, b)])) := by
  have e : pents (ps ++ [(k, b)]) = pents ps ++ [(.int .i64 k, .pointer (some ⟨b, 0, none⟩))] := by simp [pents]
  rw [e]
  refine .new fun q hq he => h ?_
  obtain ⟨r, hr, rfl⟩ := List.mem_map.1 hq
  exact List.mem_map.2 ⟨r, hr, by simpa using he⟩
theorem add_fix {w0 w : World} {A : List HProp} {p c : Nat} {base : Option Addr} {vv pv : Value} {x : Rn} {data : ByteArray} (H : Own w0 (cel p [.int .i64 x.id, .int .i64 x.n, .int .i64 x.term, .int .i64 x.vote, .slice base (x.log.length + 1) c, .int .i64 x.role, .int .i64 x.leader, .int .i64 x.commit, .int .i64 x.waited, .int .i64 x.since, vv, pv] 104 :: row base c 2 69 (cvs x.log ++ [.int .i64 x.term, .string data]) :: A) w) :
    Own w0 (cel p (ncells (addS data x) base c vv pv) 104 :: row base c 2 69 (cvs (addS data x).log) :: A) w := by
  have e1 : (addS data x).log.length = x.log.length + 1 := by simp [addS]
  have e2 : cvs (addS data x).log = cvs x.log ++ [.int .i64 x.term, .string data] := by unfold addS; rw [cvs_append]; rfl
  rw [e2]
  unfold ncells
  rw [e1]
  exact H
theorem cone {a : Int} {s : ByteArray} : ∀ v ∈ [Value.int .i64 a, .string s], v.oneCell' = true := by
  intro v hv
  simp only [List.mem_cons, List.not_mem_nil, or_false] at hv
  rcases hv with rfl | rfl <;> rfl
theorem raft_lead_no {w0 : World} {R : List HProp} {p c m : Nat} {base : Option Addr} {pv : Value} {x : Rn} (hn : 0 ≤ x.n ∧ x.n ≤ 5) (hm : ¬ x.n < 2 * (x.voted.length : Int)) :
    Fun Try.prog w0 96 [.pointer (some ⟨p, 0, none⟩)] (cel p (ncells x base c (.map (some m)) pv) 104 :: mp (.int .i64) m (vents x.voted) :: R)
      (Ret w0 (fun _ : Unit => True) (fun _ => .slice none 0 0) (fun _ => cel p (ncells x base c (.map (some m)) pv) 104 :: mp (.int .i64) m (vents x.voted) :: R)) := by
  have hvl : ((vents x.voted).length : Int) = (x.voted.length : Int) := by simp [vents]
  refine Fun.enterM Try.func96 rfl Try.ntmps96 rfl ?_
  refine WC.seq <| WC.region <| bxc (v := .pointer _) (cs := [.pointer _]) rfl rfl fun b1 => sv (vaS rfl) <| WL.nil <| WX.thenN <| WC.seq <| WC.seq <| WC.draws rfl (by kernel_rfl) <| qv (vldc pl62 rfl) <| qv (vldc pl62 rfl) <| qv (vnil rfl) <| qv (vfld fl104f10 rfl) <| qv (vldc pl101 rfl) <| qv (vlenm Try.underlying101 rfl) <| qcl (Fun.quiet (raft_most (x := x) (base := base) (c := c) (vv := .map (some m)) (pv := pv) hn)) ct99 rfl <| qv (vnot rfl) <| WQ.nil <| WX.thenN <| ?_
  refine WC.iteb rfl (fun h1 => ?_) (fun h1 => ?_)
  · -- then
    exact WC.seq <| WC.region <| sv (vaS rfl) <| WL.nil <| WX.thenN <| WC.ret <| WX.thenR <| WX.ret1M rfl (()) (trivial) rfl (fun _ h => h.tail)
  · -- else
    exact absurd (by simpa [hvl] using h1) hm
theorem raft_lead_yes {w0 : World} {R : List HProp} {p c mV : Nat} {base : Option Addr} {pv : Value} {x : Rn} (hn : 0 ≤ x.n ∧ x.n ≤ 5) (hl : x.log.length ≤ 10000) (hc : x.log.length ≤ c) (h0 : 0 ≤ x.commit) (hm : x.n < 2 * (x.voted.length : Int)) :
    Fun Try.prog w0 96 [.pointer (some ⟨p, 0, none⟩)] (cel p (ncells x base c (.map (some mV)) pv) 104 :: row base c 2 69 (cvs x.log) :: mp (.int .i64) mV (vents x.voted) :: R)
      (Ret w0 (fun i : LI => (i.ms.map Mh.ml = (leadS x).2 ∧ i.ms.length ≤ i.oc) ∧ (leadS x).1.log.length ≤ i.c ∧ i.ps.map Prod.fst = others x) (fun i => .slice i.ob i.ms.length i.oc) (fun i => row i.ob i.oc 9 54 (mvs i.ms) :: mrows i.ms :: cel p (ncells (leadS x).1 i.base i.c (.map (some mV)) (.map (some i.m))) 104 :: row i.base i.c 2 69 (cvs (leadS x).1.log) :: mp (.int .i64) i.m (pents i.ps) :: peersC (leadS x).1.nx (leadS x).1.mt i.ps :: R)) := by
  have hvl : ((vents x.voted).length : Int) = (x.voted.length : Int) := by simp [vents]
  have hll : (leaderS x).log.length = x.log.length := rfl
  refine Fun.enterM Try.func96 rfl Try.ntmps96 rfl ?_
  refine WC.seq <| WC.region <| bxc (v := .pointer _) (cs := [.pointer _]) rfl rfl fun b1 => sv (vaS rfl) <| WL.nil <| WX.thenN <| WC.seq <| WC.seq <| WC.draws rfl (by kernel_rfl) <| qv (vldc pl62 rfl) <| qv (vldc pl62 rfl) <| qv (vnil rfl) <| qv (vfld fl104f10 rfl) <| qv (vldc pl101 rfl) <| qv (vlenm Try.underlying101 rfl) <| qcl (Fun.quiet (raft_most (x := x) (base := base) (c := c) (vv := .map (some mV)) (pv := pv) hn)) ct99 rfl <| qv (vnot rfl) <| WQ.nil <| WX.thenN <| ?_
  refine WC.iteb rfl (fun h1 => ?_) (fun h1 => ?_)
  · -- then
    exact absurd hm (by simpa [hvl] using h1)
  · -- else
    refine WC.perm (A' := cel p (ncells x base c (.map (some mV)) pv) 104 :: cel b1 [.pointer (some ⟨p, 0, none⟩)] 62 :: row base c 2 69 (cvs x.log) :: mp (.int .i64) mV (vents x.voted) :: R) ?_ (fun _ h => h.pk1)
    refine WC.skip <| WX.thenN <| WC.seq <| WC.plan (.pre [0, 2, 3, 4, 5, 6, 7] (.one [1] 8 (.bar [9, 10] 11 (.done [])))) rfl (by kernel_rfl) <| WPl.pre (trivial) <| dv (fun g => (vldc pl62 rfl)) <| dv (fun g => (vldc pl62 rfl)) <| dv (fun g => (vnil rfl)) <| dv (fun g => (vfld fl104f0 rfl)) <| dv (fun g => (vldc pl3 rfl)) <| dv (fun g => (vnil rfl)) <| dv (fun g => (vfld fl104f5 rfl)) <| WD.nil <| WPl.one (fun g => g ++ cel b1 [.pointer (some ⟨p, 0, none⟩)] 62 :: row base c 2 69 (cvs x.log) :: mp (.int .i64) mV (vents x.voted) :: R) ([_]) (fun _ => trivial) (rfl) <| dv (fun g => (vldc pl62 rfl)) <| WD.eff rfl <| stc (v := .int _ _) pl3 sz3 rfl rfl rfl <| WL.nil <| WX.br <| WPl.bar (⟨[_], rfl⟩) <| dv (fun g => (vnil rfl)) <| dv (fun g => (vfld fl104f6 rfl)) <| WD.eff rfl <| stc (v := .int _ _) pl3 sz3 rfl rfl rfl <| WL.nil <| WX.brT <| WPl.fin (trivial) <| WD.nil <| WX.thenN <| WC.seq <| WC.region <| sv (vldc pl62 rfl) <| mkm (.int .i64) fun b13 => sv (vnil rfl) <| sv (vfld fl104f11 rfl) <| pm (fun _ h => h.pk1) <| stc (v := .map _) pl102 sz102 rfl rfl rfl <| WL.nil <| WX.thenN <| WC.seq <| WC.seq <| WC.region <| sv (vldc pl62 rfl) <| sv (vfnb rfl) <| WL.nil <| WX.thenN <| WC.block <| ?_
    refine WC.rangeF (bnd := [.pointer (some ⟨p, 0, none⟩)]) (fun k => [cel p (ncells (leaderS x) base c (.map (some mV)) (.map (some b13))) 104, prC b13 (fun _ => (x.log.length : Int) + 1) (fun _ => 0) (oth x.id k), cel b1 [.pointer (some ⟨p, 0, none⟩)] 62, row base c 2 69 (cvs x.log)]) (0) (x.n.toNat) (fun k v => v = .int .i64 ((k : Int) + 1) ∧ k < x.n.toNat ∧ (k : Int) + 1 ≠ x.id) ct100 rfl (fun w h => ((prC_mk (nx := fun _ => (x.log.length : Int) + 1) (mt := fun _ => 0) (ps := []) rfl (h.pk1.intro_emp.pk1)).ix [4, 1, 0, 2, 3]).tail) (fun l Rr hY => raft_others (x := leaderS x) (C := fun k => prC b13 (fun _ => (x.log.length : Int) + 1) (fun _ => 0) (oth x.id k) :: cel b1 [.pointer (some ⟨p, 0, none⟩)] 62 :: row base c 2 69 (cvs x.log) :: Rr) hn (fun k h => by simp only [oth_id (show (k : Int) + 1 = x.id from h)]) (fun k h1 h2 => hY k _ ⟨rfl, h1, h2⟩)) ?_ ?_
    · -- a round
      intro lR XR YR k v hS
      obtain ⟨rfl, hk1, hk2⟩ := hS
      refine WG.region (by kernel_rfl) <| sv (vaI rfl) <| WL.nil <| WX.asg <| ?_
      refine WG.perm (A' := cel p (ncells (leaderS x) base c (.map (some mV)) (.map (some b13))) 104 :: prC b13 (fun _ => (x.log.length : Int) + 1) (fun _ => 0) (oth x.id k) :: cel b1 [.pointer (some ⟨p, 0, none⟩)] 62 :: row base c 2 69 (cvs x.log) :: YR :: R) ?_ (fun _ h => h)
      refine WG.ex (q := fun ps => ps.map Prod.fst = oth x.id k) (B := fun ps : List (Int × Nat) => cel p (ncells (leaderS x) base c (.map (some mV)) (.map (some b13))) 104 :: mp (.int .i64) b13 (pents ps) :: peersC (fun _ => (x.log.length : Int) + 1) (fun _ => 0) ps :: cel b1 [.pointer (some ⟨p, 0, none⟩)] 62 :: row base c 2 69 (cvs x.log) :: YR :: R) (fun w h => by obtain ⟨i, hi, hO⟩ := prC_open h.pk1; exact ⟨i, hi, hO.ix [2, 0, 1]⟩) ?_
      intro ps hps
      refine WG.block <| WG.plan (.pre [5, 6, 7, 8, 9, 10, 11] (.one [0, 1, 2, 3, 4] 12 (.bar [] 13 (.done [])))) rfl (by kernel_rfl) <| WPl.pre (trivial) <| dv (fun g => (vldc pl62 rfl)) <| dv (fun g => (vnil rfl)) <| dv (fun g => (vfld fl104f4 rfl)) <| dv (fun g => (vldc pl31 rfl)) <| dv (fun g => (vlen Try.underlying31 rfl)) <| dv (fun g => (vadd rfl rfl (by omega))) <| dv (fun g => (vbd (ps := [(0, .int _ _)]) (cs := [_, _]) bt157 zt157 rfl (by rfl))) <| WD.nil <| WPl.one (fun g => g ++ cel p (ncells (leaderS x) base c (.map (some mV)) (.map (some b13))) 104 :: mp (.int .i64) b13 (pents ps) :: peersC (fun _ => (x.log.length : Int) + 1) (fun _ => 0) ps :: cel b1 [.pointer (some ⟨p, 0, none⟩)] 62 :: row base c 2 69 (cvs x.log) :: YR :: R) ([]) (fun _ => trivial) (rfl) <| dv (fun g => (vldc pl62 rfl)) <| dv (fun g => (vnil rfl)) <| dv (fun g => (vfld fl104f11 rfl)) <| dv (fun g => (vldc pl102 rfl)) <| dv (fun g => (vmI rfl)) <| WD.eff rfl <| bxc (v := .agg _) (cs := [.int _ _, .int _ _]) rfl rfl fun b22 => WL.nil <| WX.br <| WPl.bar (⟨[_], rfl⟩) <| WD.eff rfl <| pm (fun _ h => h.pk2) <| mpu Try.underlying102 Try.underlying3 rfl rfl rfl rfl (pents_put (b := b22) (by rw [hps]; intro h; have := (oth_mem.1 h).2.1; omega)) <| WL.nil <| WX.brT <| WPl.fin (trivial) <| WD.nil <| WX.gblockN <| WX.round (fun w h => ?_)
      have h1 := peers_snoc (nx := fun _ => (x.log.length : Int) + 1) (mt := fun _ => 0) (q := ((k : Int) + 1, b22)) (h.ix [1, 3, 0, 2, 4, 5, 6])
      exact (prC_mk (ks := oth x.id (k + 1)) (ps := ps ++ [((k : Int) + 1, b22)]) (by rw [oth_snoc hk2, List.map_append, hps]; rfl) h1.pk1).pk1
    · -- behind the rounds
      intro DR lR rR
      refine WX.perm (A' := cel p (ncells (leaderS x) base c (.map (some mV)) (.map (some b13))) 104 :: prC b13 (fun _ => (x.log.length : Int) + 1) (fun _ => 0) (oth x.id x.n.toNat) :: cel b1 [.pointer (some ⟨p, 0, none⟩)] 62 :: row base c 2 69 (cvs x.log) :: lp DR lR rR :: R) ?_ (fun _ h => h)
      refine WX.exi (q := fun ps => ps.map Prod.fst = oth x.id x.n.toNat) (B := fun ps : List (Int × Nat) => row base c 2 69 (cvs x.log) :: cel p (ncells (leaderS x) base c (.map (some mV)) (.map (some b13))) 104 :: mp (.int .i64) b13 (pents ps) :: peersC (fun _ => (x.log.length : Int) + 1) (fun _ => 0) ps :: cel b1 [.pointer (some ⟨p, 0, none⟩)] 62 :: lp DR lR rR :: R) (fun w h => by obtain ⟨i, hi, hO⟩ := prC_open h.pk1; exact ⟨i, hi, hO.ix [4, 2, 0, 1, 3]⟩) ?_
      intro ps hps
      refine WX.gblockN <| WX.gthenN <| WG.seq <| WG.seq <| WG.region (by kernel_rfl) <| sv (vldc pl62 rfl) <| sv (vnil rfl) <| sv (vfld fl104f4 rfl) <| sv (vldc pl31 rfl) <| sv (vlen Try.underlying31 rfl) <| sv (vlt rfl rfl) <| WL.nil <| WX.gthenM <| ?_
      refine WG.ite rfl (fun h2 => ?_) (fun h2 => ?_)
      · -- then
        have hls : leadS x = feedAllS (countS (addS ByteArray.empty (leaderS x))) := by unfold leadS; rw [if_pos hm, if_pos (by omega)]
        have hyl : (addS ByteArray.empty (leaderS x)).log.length = x.log.length + 1 := by simp [addS, leaderS]
        · -- a
          exact WG.plan (.pre [5, 6, 7, 8, 9] (.one [0, 1, 2, 3, 4] 10 (.one [] 11 (.bar [12, 13] 14 (.done []))))) rfl (by kernel_rfl) <| WPl.pre (trivial) <| dv (fun g => (vldc pl62 rfl)) <| dv (fun g => (vnil rfl)) <| dv (fun g => (vfld fl104f2 rfl)) <| dv (fun g => (vldc pl3 rfl)) <| dv (fun g => (vbd (ps := [(0, .int _ _)]) (cs := [_, _]) bt69 zt69 rfl (by rfl))) <| WD.nil <| WPl.one (fun g => g ++ cel p (ncells (leaderS x) base c (.map (some mV)) (.map (some b13))) 104 :: mp (.int .i64) b13 (pents ps) :: peersC (fun _ => (x.log.length : Int) + 1) (fun _ => 0) ps :: cel b1 [.pointer (some ⟨p, 0, none⟩)] 62 :: lp DR lR rR :: R) ([_]) (fun _ => trivial) (rfl) <| dv (fun g => (vldc pl62 rfl)) <| dv (fun g => (vldc pl62 rfl)) <| dv (fun g => (vnil rfl)) <| dv (fun g => (vfld fl104f4 rfl)) <| dv (fun g => (vldc pl31 rfl)) <| WD.eff rfl <| bslA (v := .agg _) (cs := [.int .i64 x.term, .string ByteArray.empty]) Try.underlying31 zt69 rfl rfl rfl (by decide) (by decide) fun b32 =>WL.nil <| WX.br <| WPl.one (fun g => g ++ cel p (ncells (leaderS x) base c (.map (some mV)) (.map (some b13))) 104 :: mp (.int .i64) b13 (pents ps) :: peersC (fun _ => (x.log.length : Int) + 1) (fun _ => 0) ps :: cel b1 [.pointer (some ⟨p, 0, none⟩)] 62 :: lp DR lR rR :: R) ([_, _]) (fun g => good_same _ g) (rfl) <| WD.eff rfl <| pm (fun _ h => h.pk1) <| ap (news := [.int .i64 x.term, .string ByteArray.empty]) rfl Try.underlying31 zt69 rfl rfl rfl (cvs_length _) rfl cone (RdC.of_cel (e := 69) (ws := [.int .i64 x.term, .string ByteArray.empty]) 0 (by simp) (by simp)) (by simp only [maxLen]; omega) (by omega) fun base33 c33 hc33 =>WL.nil <| WX.br <| WPl.bar (⟨[_, _], rfl⟩) <| dv (fun g => (vnil rfl)) <| dv (fun g => (vfld fl104f4 rfl)) <| WD.eff rfl <| pm (fun _ h => h.pk2) <| stc (v := .slice _ _ _) pl31 sz31 rfl rfl rfl <| WL.nil <| WX.brT <| WPl.fin (trivial) <| WD.nil <| WX.gthenM <| WG.seq <| WG.region (by kernel_rfl) <| sv (vldc pl62 rfl) <| pm (fun _ h => add_fix (x := leaderS x) (data := ByteArray.empty) h.pk4.pk4.pk3.pk3) <| cl (raft_count (x := addS ByteArray.empty (leaderS x)) hn (by omega) h0 hps) ct85 rfl fun _ _ => WL.nil <| WX.gthenM <| WG.seq <| WG.region (by kernel_rfl) <| sv (vldc pl62 rfl) <| cl (raft_feedAll (x := countS (addS ByteArray.empty (leaderS x))) hn (by show (addS ByteArray.empty (leaderS x)).log.length ≤ 10000; omega) (by show (addS ByteArray.empty (leaderS x)).log.length ≤ c33; omega) (fun k _ => by show 1 ≤ (x.log.length : Int) + 1 ∧ (x.log.length : Int) + 1 ≤ ((addS ByteArray.empty (leaderS x)).log.length : Int) + 1; omega) hps) ct101 rfl fun i38 hi38 => sv (vaS rfl) <| WL.nil <| WX.gthenM <| WG.ret <| WX.ret1G rfl (⟨i38.1, i38.2.1, i38.2.2, base33, c33, b13, ps⟩) (by rw [hls]; exact ⟨hi38, by show (addS ByteArray.empty (leaderS x)).log.length ≤ c33; omega, hps⟩) rfl (fun w h => by rw [hls]; exact (h.ix [6, 7, 8, 0, 1, 2, 3, 4, 5]).tail.tail)
      · -- else
        have hls : leadS x = feedAllS (countS (leaderS x)) := by unfold leadS; rw [if_pos hm, if_neg (by omega)]
        · -- b
          exact WG.skip <| WX.gthenM <| WG.seq <| WG.region (by kernel_rfl) <| sv (vldc pl62 rfl) <| pm (fun _ h => h.pk1) <| cl (raft_count (x := leaderS x) hn hl h0 hps) ct85 rfl fun _ _ => WL.nil <| WX.gthenM <| WG.seq <| WG.region (by kernel_rfl) <| sv (vldc pl62 rfl) <| cl (raft_feedAll (x := countS (leaderS x)) hn hl hc (fun k _ => by show 1 ≤ (x.log.length : Int) + 1 ∧ (x.log.length : Int) + 1 ≤ (x.log.length : Int) + 1; omega) hps) ct101 rfl fun i38 hi38 => sv (vaS rfl) <| WL.nil <| WX.gthenM <| WG.ret <| WX.ret1G rfl (⟨i38.1, i38.2.1, i38.2.2, base, c, b13, ps⟩) (by rw [hls]; exact ⟨hi38, hc, hps⟩) rfl (fun w h => by rw [hls]; exact (h.ix [6, 7, 0, 1, 2, 3, 4, 5]).tail)
end Go.Proofs.Ytigjompojlhomaa
end
section
set_option linter.unusedVariables false
set_option linter.unusedSimpArgs false
set_option maxRecDepth 4000
namespace Go.Proofs.Ytigjompojlhomaa
open Go.Sl Go.RowKit Go.Raft

/-- what stands beside a node: the votes of a candidate, the others of a leader -/
def extraC (x : Rn) (vv pv : Value) : HProp := if x.role = 1 then (fun h => ∃ m, vv = .map (some m) ∧ mp (.int .i64) m (vents x.voted) h) else if x.role = 2 then (fun h => ∃ m, pv = .map (some m) ∧ prC m x.nx x.mt (others x) h) else emp
def hnode (p : Nat) (x : Rn) : HProp := fun h => ∃ base c vv pv, x.log.length ≤ c ∧ star (cel p (ncells x base c vv pv) 104) (star (row base c 2 69 (cvs x.log)) (extraC x vv pv)) h
theorem hnode_open {w0 w : World} {A : List HProp} {p : Nat} {x : Rn} (H : Own w0 (hnode p x :: A) w) :
    ∃ i : Option Addr × Nat × Value × Value, x.log.length ≤ i.2.1 ∧ Own w0 (cel p (ncells x i.1 i.2.1 i.2.2.1 i.2.2.2) 104 :: row i.1 i.2.1 2 69 (cvs x.log) :: extraC x i.2.2.1 i.2.2.2 :: A) w := by
  obtain ⟨hb, h, ⟨h1, h2, ⟨base, c, vv, pv, hc, a⟩, a2, dd, y⟩, hw⟩ := H
  have h3 : Own w0 (star (cel p (ncells x base c vv pv) 104) (star (row base c 2 69 (cvs x.log)) (extraC x vv pv)) :: A) w := ⟨hb, h, ⟨h1, h2, a, a2, dd, y⟩, hw⟩
  exact ⟨(base, c, vv, pv), hc, h3.star.pk1.star.pk2⟩
theorem hnode_open1 {w0 w : World} {A : List HProp} {p : Nat} {x : Rn} (hr : x.role = 1) (H : Own w0 (hnode p x :: A) w) :
    ∃ i : Option Addr × Nat × Nat × Value, x.log.length ≤ i.2.1 ∧ Own w0 (cel p (ncells x i.1 i.2.1 (.map (some i.2.2.1)) i.2.2.2) 104 :: row i.1 i.2.1 2 69 (cvs x.log) :: mp (.int .i64) i.2.2.1 (vents x.voted) :: A) w := by
  obtain ⟨⟨base, c, vv, pv⟩, hc, h1⟩ := hnode_open H
  dsimp only at h1
  unfold extraC at h1
  rw [if_pos hr] at h1
  obtain ⟨hb, h, ⟨h2, h3, ⟨m, rfl, a⟩, a2, dd, y⟩, hw⟩ := h1.pk2
  exact ⟨(base, c, m, pv), hc, Own.pk2 (Own.pk2 ⟨hb, h, ⟨h2, h3, a, a2, dd, y⟩, hw⟩)⟩
theorem hnode_open2 {w0 w : World} {A : List HProp} {p : Nat} {x : Rn} (hr : x.role = 2) (H : Own w0 (hnode p x :: A) w) :
    ∃ i : Option Addr × Nat × Value × Nat × List (Int × Nat), (x.log.length ≤ i.2.1 ∧ i.2.2.2.2.map Prod.fst = others x) ∧ Own w0 (cel p (ncells x i.1 i.2.1 i.2.2.1 (.map (some i.2.2.2.1))) 104 :: row i.1 i.2.1 2 69 (cvs x.log) :: mp (.int .i64) i.2.2.2.1 (pents i.2.2.2.2) :: peersC x.nx x.mt i.2.2.2.2 :: A) w := by
  obtain ⟨⟨base, c, vv, pv⟩, hc, h1⟩ := hnode_open H
  dsimp only at h1
  unfold extraC at h1
  rw [if_neg (by omega), if_pos hr] at h1
  obtain ⟨hb, h, ⟨h2, h3, ⟨m, rfl, a⟩, a2, dd, y⟩, hw⟩ := h1.pk2
  obtain ⟨ps, hps, h4⟩ := prC_open (A := cel p (ncells x base c vv (.map (some m))) 104 :: row base c 2 69 (cvs x.log) :: A) ⟨hb, h, ⟨h2, h3, a, a2, dd, y⟩, hw⟩
  exact ⟨(base, c, vv, m, ps), ⟨hc, hps⟩, h4.ix [2, 3, 0, 1]⟩
theorem hnode_mk {w0 w : World} {A : List HProp} {p c : Nat} {base : Option Addr} {vv pv : Value} {x : Rn} (hc : x.log.length ≤ c) (H : Own w0 (cel p (ncells x base c vv pv) 104 :: row base c 2 69 (cvs x.log) :: extraC x vv pv :: A) w) : Own w0 (hnode p x :: A) w :=
  (H.pk2.pk2.intro_star.pk1.intro_star).head fun _ h => ⟨base, c, vv, pv, hc, h⟩
theorem hnode_mk0 {w0 w : World} {A : List HProp} {p c : Nat} {base : Option Addr} {vv pv : Value} {x : Rn} (h1 : x.role ≠ 1) (h2 : x.role ≠ 2) (hc : x.log.length ≤ c) (H : Own w0 (cel p (ncells x base c vv pv) 104 :: row base c 2 69 (cvs x.log) :: A) w) : Own w0 (hnode p x :: A) w :=
  hnode_mk (vv := vv) (pv := pv) hc (by unfold extraC; rw [if_neg h1, if_neg h2]; exact H.intro_emp.ix [1, 2, 0])
theorem hnode_mk1 {w0 w : World} {A : List HProp} {p c m : Nat} {base : Option Addr} {pv : Value} {x : Rn} (h1 : x.role = 1) (hc : x.log.length ≤ c) (H : Own w0 (cel p (ncells x base c (.map (some m)) pv) 104 :: row base c 2 69 (cvs x.log) :: mp (.int .i64) m (vents x.voted) :: A) w) : Own w0 (hnode p x :: A) w :=
  hnode_mk (vv := .map (some m)) (pv := pv) hc (by unfold extraC; rw [if_pos h1]; exact Own.pk2 (Own.pk2 (H.pk2.head fun h hh => ⟨m, rfl, hh⟩)))
theorem hnode_mk2 {w0 w : World} {A : List HProp} {p c m : Nat} {base : Option Addr} {vv : Value} {x : Rn} {ps : List (Int × Nat)} (h2 : x.role = 2) (hc : x.log.length ≤ c) (hps : ps.map Prod.fst = others x) (H : Own w0 (cel p (ncells x base c vv (.map (some m))) 104 :: row base c 2 69 (cvs x.log) :: mp (.int .i64) m (pents ps) :: peersC x.nx x.mt ps :: A) w) : Own w0 (hnode p x :: A) w :=
  hnode_mk (vv := vv) (pv := .map (some m)) hc (by
    unfold extraC
    rw [if_neg (by omega), if_pos h2]
    have h1 := prC_mk hps (H.ix [2, 3, 0, 1])
    exact Own.pk2 (Own.pk2 (h1.head fun h hh => ⟨m, rfl, hh⟩)))
end Go.Proofs.Ytigjompojlhomaa
end
section
set_option linter.unusedVariables false
set_option linter.unusedSimpArgs false
set_option maxRecDepth 4000
namespace Go.Proofs.Ytigjompojlhomaa
open Go.Sl Go.RowKit Go.Raft

/-- mails handed back, and the node -/
abbrev MR (w0 : World) (p : Nat) (A : List HProp) (y : Rn × List Ml) : Ending → World → Prop :=
  Ret w0 (fun i : Option Addr × Nat × List Mh => i.2.2.map Mh.ml = y.2 ∧ i.2.2.length ≤ i.2.1) (fun i => .slice i.1 i.2.2.length i.2.1) (fun i => row i.1 i.2.1 9 54 (mvs i.2.2) :: mrows i.2.2 :: hnode p y.1 :: A)
theorem no_mails {w0 w : World} {A : List HProp} (H : Own w0 A w) : Own w0 (row none 0 9 54 (mvs []) :: mrows [] :: A) w := (H.intro_emp).intro_row_nil
theorem leadS_role {x : Rn} (hm : x.n < 2 * (x.voted.length : Int)) : (leadS x).1.role = 2 := by
  unfold leadS
  rw [if_pos hm]
  split <;> rfl
theorem leadS_others {x : Rn} (hm : x.n < 2 * (x.voted.length : Int)) : others (leadS x).1 = others x := by
  unfold leadS
  rw [if_pos hm]
  split <;> rfl
theorem raft_tick_lead {w0 : World} {A : List HProp} {p : Nat} {x : Rn} (hx : RInv x) (hr : x.role = 2) :
    Fun Try.prog w0 103 [.pointer (some ⟨p, 0, none⟩)] (hnode p x :: A) (MR w0 p A (tickS x)) := by
  refine Fun.ex (fun w h => hnode_open2 hr h) ?_
  rintro ⟨base, c, vv, m, ps⟩ ⟨hc, hps⟩
  dsimp only at hc hps ⊢
  have hs := hx.since
  have hn := hx.n
  have hl := hx.log
  have hpe := hx.peers hr
  refine Fun.enterM Try.func103 rfl Try.ntmps103 rfl ?_
  refine WC.seq <| WC.region <| bxc (v := .pointer _) (cs := [.pointer _]) rfl rfl fun b1 => sv (vaS rfl) <| WL.nil <| WX.thenN <| WC.seq <| WC.seq <| WC.region <| sv (vldc pl62 rfl) <| sv (vpeqF Try.underlying62 rfl rfl) <| WL.nil <| WX.thenN <| ?_
  refine WC.ff rfl ?_
  refine WC.skip <| WX.thenN <| WC.seq <| WC.seq <| WC.region <| sv (vldc pl62 rfl) <| sv (vnil rfl) <| sv (vfld fl104f5 rfl) <| sv (vldc pl3 rfl) <| sv (veq rfl rfl) <| WL.nil <| WX.thenN <| ?_
  refine WC.ite rfl (fun h2 => ?_) (fun h2 => ?_)
  · -- then
    refine WC.seq <| WC.seq <| WC.region <| sv (vldc pl62 rfl) <| sv (vnil rfl) <| sv (vfld fl104f9 rfl) <| sv (vldc pl3 rfl) <| sv (vadd rfl rfl (by omega)) <| sv (vnil rfl) <| sv (vfld fl104f9 rfl) <| pm (fun _ h => h.pk1) <| stc (v := .int _ _) pl3 sz3 rfl rfl rfl <| WL.nil <| WX.thenN <| WC.seq <| WC.region <| sv (vldc pl62 rfl) <| sv (vnil rfl) <| sv (vfld fl104f9 rfl) <| sv (vldc pl3 rfl) <| sv (vlt rfl rfl) <| WL.nil <| WX.thenN <| ?_
    refine WC.ite rfl (fun h3 => ?_) (fun h3 => ?_)
    · -- then
      have ht : tickS x = ({ x with since := x.since + 1 }, []) := by unfold tickS; rw [if_pos hr, if_pos h3]
      unfold MR
      rw [ht]
      exact WC.seq <| WC.region <| sv (vaS rfl) <| WL.nil <| WX.thenN <| WC.ret <| WX.thenR <| WX.thenR <| WX.ret1M rfl ((none, 0, [])) (⟨rfl, Nat.le_refl _⟩) rfl (fun w h => no_mails (hnode_mk2 (x := { x with since := x.since + 1 }) hr hc hps h.pk1.tail))
    · -- else
      have ht : tickS x = feedAllS { x with since := x.since + 1 } := by unfold tickS; rw [if_pos hr, if_neg h3]
      unfold MR
      rw [ht]
      exact WC.skip <| WX.thenN <| WC.seq <| WC.region <| sv (vldc pl62 rfl) <| pm (fun _ h => h.pk4.pk4.pk4.pk3) <| cl (raft_feedAll (x := { x with since := x.since + 1 }) ⟨by show 0 ≤ x.n; omega, by show x.n ≤ 5; omega⟩ hl hc (fun k _ => by have := hpe k; exact ⟨by show 1 ≤ x.nx k; omega, this.2.2⟩) hps) ct101 rfl fun i13 hi13 => sv (vaS rfl) <| WL.nil <| WX.thenN <| WC.ret <| WX.thenR <| WX.ret1M rfl (i13) (hi13) rfl (fun w h => (hnode_mk2 (x := (feedAllS { x with since := x.since + 1 }).1) hr hc hps (h.ix [6, 2, 3, 4, 5, 0, 1]).tail).ix [1, 2, 0])
  · -- else
    exact absurd hr h2
theorem raft_tick_idle {w0 : World} {A : List HProp} {p : Nat} {x : Rn} (hx : RInv x) (hr : x.role ≠ 2) (hw : x.waited + 1 ≤ 9223372036854775807) (hi : x.waited + 1 < 10 + 3 * x.id ∨ x.term = 1000000000) :
    Fun Try.prog w0 103 [.pointer (some ⟨p, 0, none⟩)] (hnode p x :: A) (MR w0 p A (tickS x)) := by
  refine Fun.ex (fun w h => hnode_open h) ?_
  rintro ⟨base, c, vv, pv⟩ hc
  dsimp only at hc ⊢
  have hw0 := hx.waited
  have hn := hx.n
  have hid := hx.id
  have hl := hx.log
  have htm := hx.term
  have hcm := hx.commit
  have ht : tickS x = ({ x with waited := x.waited + 1 }, []) := by unfold tickS; rw [if_neg hr, if_pos hi]
  unfold MR
  rw [ht]
  refine Fun.enterM Try.func103 rfl Try.ntmps103 rfl ?_
  refine WC.seq <| WC.region <| bxc (v := .pointer _) (cs := [.pointer _]) rfl rfl fun b1 => sv (vaS rfl) <| WL.nil <| WX.thenN <| WC.seq <| WC.seq <| WC.region <| sv (vldc pl62 rfl) <| sv (vpeqF Try.underlying62 rfl rfl) <| WL.nil <| WX.thenN <| ?_
  refine WC.ff rfl ?_
  refine WC.skip <| WX.thenN <| WC.seq <| WC.seq <| WC.region <| sv (vldc pl62 rfl) <| sv (vnil rfl) <| sv (vfld fl104f5 rfl) <| sv (vldc pl3 rfl) <| sv (veq rfl rfl) <| WL.nil <| WX.thenN <| ?_
  refine WC.ite rfl (fun h2 => ?_) (fun h2 => ?_)
  · -- then
    exact absurd h2 hr
  · -- else
    refine WC.skip <| WX.thenN <| WC.seq <| WC.seq <| WC.region <| sv (vldc pl62 rfl) <| sv (vnil rfl) <| sv (vfld fl104f8 rfl) <| sv (vldc pl3 rfl) <| sv (vadd rfl rfl (by omega)) <| sv (vnil rfl) <| sv (vfld fl104f8 rfl) <| pm (fun _ h => h.pk1) <| stc (v := .int _ _) pl3 sz3 rfl rfl rfl <| WL.nil <| WX.thenN <| ?_
    refine WC.cut0 [(52, .bool (decide (x.waited + 1 < 10 + 3 * x.id ∨ x.term = 1000000000)))] [(1, _)] (cel p (ncells { x with waited := x.waited + 1 } base c vv pv) 104 :: cel b1 [.pointer (some ⟨p, 0, none⟩)] 62 :: row base c 2 69 (cvs x.log) :: extraC x vv pv :: A) ⟨rfl, trivial⟩ ?_ fun ρh => ?_
    · -- raft.go:134
      refine WC.draws rfl (by kernel_rfl) <| qv (vldc pl62 rfl) <| qv (vnil rfl) <| qv (vfld fl104f8 rfl) <| qv (vldc pl3 rfl) <| qv (vldc pl62 rfl) <| qv (vnil rfl) <| qv (vfld fl104f0 rfl) <| qv (vldc pl3 rfl) <| qv (vmul rfl rfl (by omega)) <| qv (vadd rfl rfl (by omega)) <| qvs (vlt rfl rfl) (fun q1 => ?_) (fun q1 => ?_)
      ·
        exact qv (vmB rfl) <| qng rfl <| qng rfl <| qng rfl <| qng rfl <| qng rfl <| qv (vpkt rfl) <| WQ.nil <| WX.mid () trivial ⟨bT (by first | omega | simp_all | grind), trivial⟩ ⟨rfl, trivial⟩ (fun _ h => h)
      ·
        exact qv (vmB rfl) <| qvg rfl (vldc pl62 rfl) <| qvg rfl (vnil rfl) <| qvg rfl (vfld fl104f2 rfl) <| qvg rfl (vldc pl3 rfl) <| qvg rfl (veq rfl rfl) <| qv (vpkf rfl) <| WQ.nil <| WX.mid () trivial ⟨bI (by first | omega | simp_all | grind), trivial⟩ ⟨rfl, trivial⟩ (fun _ h => h)
    refine WC.ite rfl (fun h3 => ?_) (fun h3 => ?_)
    · -- then
      exact WC.seq <| WC.region <| sv (vaS rfl) <| WL.nil <| WX.thenN <| WC.ret <| WX.thenR <| WX.ret1M rfl ((none, 0, [])) (⟨rfl, Nat.le_refl _⟩) rfl (fun w h => no_mails (hnode_mk (x := { x with waited := x.waited + 1 }) hc h.pk1.tail))
    · -- else
      exact absurd hi h3
theorem raft_tick_one {w0 : World} {A : List HProp} {p : Nat} {x : Rn} (hx : RInv x) (hr : x.role ≠ 2) (hw : x.waited + 1 ≤ 9223372036854775807) (hi : ¬ (x.waited + 1 < 10 + 3 * x.id ∨ x.term = 1000000000)) (h1 : x.n < 2) :
    Fun Try.prog w0 103 [.pointer (some ⟨p, 0, none⟩)] (hnode p x :: A) (MR w0 p A (tickS x)) := by
  refine Fun.ex (B := fun i : Option Addr × Nat × Value × Value => cel p (ncells x i.1 i.2.1 i.2.2.1 i.2.2.2) 104 :: row i.1 i.2.1 2 69 (cvs x.log) :: A) (q := fun i => x.log.length ≤ i.2.1) (fun w h => by obtain ⟨i, hi, hO⟩ := hnode_open h; exact ⟨i, hi, hO.pk2.tail⟩) ?_
  rintro ⟨base, c, vv, pv⟩ hc
  dsimp only at hc ⊢
  have hw0 := hx.waited
  have hn := hx.n
  have hid := hx.id
  have hl := hx.log
  have htm := hx.term
  have hcm := hx.commit
  have ht : tickS x = leadS (runS x) := by unfold tickS; rw [if_neg hr, if_neg hi, if_pos h1]
  unfold MR
  rw [ht]
  have hvn : (runS x).n < 2 * ((runS x).voted.length : Int) := by show x.n < 2 * (1 : Int); omega
  refine Fun.enterM Try.func103 rfl Try.ntmps103 rfl ?_
  refine WC.seq <| WC.region <| bxc (v := .pointer _) (cs := [.pointer _]) rfl rfl fun b1 => sv (vaS rfl) <| WL.nil <| WX.thenN <| WC.seq <| WC.seq <| WC.region <| sv (vldc pl62 rfl) <| sv (vpeqF Try.underlying62 rfl rfl) <| WL.nil <| WX.thenN <| ?_
  refine WC.ff rfl ?_
  refine WC.skip <| WX.thenN <| WC.seq <| WC.seq <| WC.region <| sv (vldc pl62 rfl) <| sv (vnil rfl) <| sv (vfld fl104f5 rfl) <| sv (vldc pl3 rfl) <| sv (veq rfl rfl) <| WL.nil <| WX.thenN <| ?_
  refine WC.ite rfl (fun h2 => ?_) (fun h2 => ?_)
  · -- then
    exact absurd h2 hr
  · -- else
    refine WC.skip <| WX.thenN <| WC.seq <| WC.seq <| WC.region <| sv (vldc pl62 rfl) <| sv (vnil rfl) <| sv (vfld fl104f8 rfl) <| sv (vldc pl3 rfl) <| sv (vadd rfl rfl (by omega)) <| sv (vnil rfl) <| sv (vfld fl104f8 rfl) <| pm (fun _ h => h.pk1) <| stc (v := .int _ _) pl3 sz3 rfl rfl rfl <| WL.nil <| WX.thenN <| ?_
    refine WC.cut0 [(52, .bool (decide (x.waited + 1 < 10 + 3 * x.id ∨ x.term = 1000000000)))] [(1, _)] (cel p (ncells { x with waited := x.waited + 1 } base c vv pv) 104 :: cel b1 [.pointer (some ⟨p, 0, none⟩)] 62 :: row base c 2 69 (cvs x.log) :: A) ⟨rfl, trivial⟩ ?_ fun ρh => ?_
    · -- raft.go:134
      refine WC.draws rfl (by kernel_rfl) <| qv (vldc pl62 rfl) <| qv (vnil rfl) <| qv (vfld fl104f8 rfl) <| qv (vldc pl3 rfl) <| qv (vldc pl62 rfl) <| qv (vnil rfl) <| qv (vfld fl104f0 rfl) <| qv (vldc pl3 rfl) <| qv (vmul rfl rfl (by omega)) <| qv (vadd rfl rfl (by omega)) <| qvs (vlt rfl rfl) (fun q1 => ?_) (fun q1 => ?_)
      ·
        exact qv (vmB rfl) <| qng rfl <| qng rfl <| qng rfl <| qng rfl <| qng rfl <| qv (vpkt rfl) <| WQ.nil <| WX.mid () trivial ⟨bT (by first | omega | simp_all | grind), trivial⟩ ⟨rfl, trivial⟩ (fun _ h => h)
      ·
        exact qv (vmB rfl) <| qvg rfl (vldc pl62 rfl) <| qvg rfl (vnil rfl) <| qvg rfl (vfld fl104f2 rfl) <| qvg rfl (vldc pl3 rfl) <| qvg rfl (veq rfl rfl) <| qv (vpkf rfl) <| WQ.nil <| WX.mid () trivial ⟨bI (by first | omega | simp_all | grind), trivial⟩ ⟨rfl, trivial⟩ (fun _ h => h)
    refine WC.ite rfl (fun h3 => ?_) (fun h3 => ?_)
    · -- then
      exact absurd h3 hi
    · -- else
      refine WC.skip <| WX.thenN <| WC.seq <| WC.region <| sv (vldc pl62 rfl) <| sv (vnil rfl) <| sv (vfld fl104f2 rfl) <| sv (vldc pl3 rfl) <| sv (vadd (a := x.term) rfl rfl (by omega)) <| sv (vnil rfl) <| sv (vfld fl104f2 rfl) <| stc (v := .int _ _) pl3 sz3 rfl rfl rfl <| WL.nil <| WX.thenN <| WC.seq <| WC.plan (.pre [0, 4, 5, 6, 7, 8, 9] (.one [1, 2, 3] 10 (.pre [11, 12] (.one [] 13 (.pre [14, 15] (.one [] 16 (.bar [17, 18] 19 (.done [])))))))) rfl (by kernel_rfl) <| WPl.pre (trivial) <| dv (fun g => (vldc pl62 rfl)) <| dv (fun g => (vldc pl62 rfl)) <| dv (fun g => (vnil rfl)) <| dv (fun g => (vfld fl104f0 rfl)) <| dv (fun g => (vldc pl3 rfl)) <| dv (fun g => (vnil rfl)) <| dv (fun g => (vfld fl104f3 rfl)) <| WD.nil <| WPl.one (fun g => g ++ cel b1 [.pointer (some ⟨p, 0, none⟩)] 62 :: row base c 2 69 (cvs x.log) :: A) ([_]) (fun _ => trivial) (rfl) <| dv (fun g => (vldc pl62 rfl)) <| dv (fun g => (vldc pl62 rfl)) <| dv (fun g => (vldc pl62 rfl)) <| WD.eff rfl <| stc (v := .int _ _) pl3 sz3 rfl rfl rfl <| WL.nil <| WX.br <| WPl.pre (⟨[_], rfl⟩) <| dv (fun g => (vnil rfl)) <| dv (fun g => (vfld fl104f5 rfl)) <| WD.nil <| WPl.one (fun g => g ++ cel b1 [.pointer (some ⟨p, 0, none⟩)] 62 :: row base c 2 69 (cvs x.log) :: A) ([_]) (fun g => good_same _ g) (rfl) <| WD.eff rfl <| stc (v := .int _ _) pl3 sz3 rfl rfl rfl <| WL.nil <| WX.br <| WPl.pre (⟨[_], rfl⟩) <| dv (fun g => (vnil rfl)) <| dv (fun g => (vfld fl104f6 rfl)) <| WD.nil <| WPl.one (fun g => g ++ cel b1 [.pointer (some ⟨p, 0, none⟩)] 62 :: row base c 2 69 (cvs x.log) :: A) ([_]) (fun g => good_same _ g) (rfl) <| WD.eff rfl <| stc (v := .int _ _) pl3 sz3 rfl rfl rfl <| WL.nil <| WX.br <| WPl.bar (⟨[_], rfl⟩) <| dv (fun g => (vnil rfl)) <| dv (fun g => (vfld fl104f8 rfl)) <| WD.eff rfl <| stc (v := .int _ _) pl3 sz3 rfl rfl rfl <| WL.nil <| WX.brT <| WPl.fin (trivial) <| WD.nil <| WX.thenN <| WC.seq <| WC.plan (.one [0, 2, 3, 4, 5, 6] 1 (.one [] 7 (.bar [8, 9, 10] 11 (.done [])))) rfl (by kernel_rfl) <| WPl.one (fun g => g ++ cel p (ncells { x with waited := 0, term := x.term + 1, vote := x.id, role := 1, leader := 0 } base c vv pv) 104 :: cel b1 [.pointer (some ⟨p, 0, none⟩)] 62 :: row base c 2 69 (cvs x.log) :: A) ([]) (fun _ => trivial) (rfl) <| dv (fun g => (vldc pl62 rfl)) <| dv (fun g => (vldc pl62 rfl)) <| dv (fun g => (vnil rfl)) <| dv (fun g => (vfld fl104f0 rfl)) <| dv (fun g => (vldc pl3 rfl)) <| dv (fun g => (vbd (ps := []) (cs := []) bt79 zt79 rfl (by rfl))) <| WD.eff rfl <| mkm (.int .i64) fun b41 => WL.nil <| WX.br <| WPl.one (fun g => g ++ cel p (ncells { x with waited := 0, term := x.term + 1, vote := x.id, role := 1, leader := 0 } base c vv pv) 104 :: cel b1 [.pointer (some ⟨p, 0, none⟩)] 62 :: row base c 2 69 (cvs x.log) :: A) ([_]) (fun g => good_same _ g) (rfl) <| WD.eff rfl <| ins Try.underlying101 Try.underlying3 rfl rfl rfl rfl (.new (by simp)) <| WL.nil <| WX.br <| WPl.bar (⟨[_], rfl⟩) <| dv (fun g => (vmM rfl)) <| dv (fun g => (vnil rfl)) <| dv (fun g => (vfld fl104f10 rfl)) <| WD.eff rfl <| pm (fun _ h => h.pk1) <| stc (v := .map _) pl101 sz101 rfl rfl rfl <| WL.nil <| WX.brT <| WPl.fin (trivial) <| WD.nil <| WX.thenN <| WC.seq <| WC.seq <| WC.region <| sv (vldc pl62 rfl) <| pm (fun _ h => h.pk3.pk1) <| cl (raft_lead_yes (x := runS x) ⟨by show 0 ≤ x.n; omega, by show x.n ≤ 5; omega⟩ hl hc hcm.1 hvn) ct96 rfl fun i48 hi48 => sv (vaS rfl) <| WL.nil <| WX.thenN <| WC.seq <| WC.region <| sv (vldc pl62 rfl) <| sv (vnil rfl) <| sv (vfld fl104f5 rfl) <| sv (vldc pl3 rfl) <| sv (veq rfl rfl) <| WL.nil <| WX.thenN <| ?_
      refine WC.ite rfl (fun h4 => ?_) (fun h4 => ?_)
      · -- then
        exact WC.seq <| WC.region <| sv (vmS rfl) <| sv (vaS rfl) <| WL.nil <| WX.thenN <| WC.ret <| WX.thenR <| WX.ret1M rfl ((i48.ob, i48.oc, i48.ms)) (hi48.1) rfl (fun w h => (hnode_mk2 (leadS_role hvn) hi48.2.1 (hi48.2.2.trans (leadS_others hvn).symm) (h.ix [2, 3, 4, 5, 0, 1])).ix [1, 2, 0, 3] |> fun h => (h.ix [3, 0, 1, 2]).tail)
      · -- else
        exact absurd (leadS_role hvn) h4
theorem raft_tick_ask {w0 : World} {A : List HProp} {p : Nat} {x : Rn} (hx : RInv x) (hr : x.role ≠ 2) (hw : x.waited + 1 ≤ 9223372036854775807) (hi : ¬ (x.waited + 1 < 10 + 3 * x.id ∨ x.term = 1000000000)) (h1 : ¬ x.n < 2) :
    Fun Try.prog w0 103 [.pointer (some ⟨p, 0, none⟩)] (hnode p x :: A) (MR w0 p A (tickS x)) := by
  refine Fun.ex (B := fun i : Option Addr × Nat × Value × Value => cel p (ncells x i.1 i.2.1 i.2.2.1 i.2.2.2) 104 :: row i.1 i.2.1 2 69 (cvs x.log) :: A) (q := fun i => x.log.length ≤ i.2.1) (fun w h => by obtain ⟨i, hi, hO⟩ := hnode_open h; exact ⟨i, hi, hO.pk2.tail⟩) ?_
  rintro ⟨base, c, vv, pv⟩ hc
  dsimp only at hc ⊢
  have hw0 := hx.waited
  have hn := hx.n
  have hid := hx.id
  have hl := hx.log
  have htm := hx.term
  have hcm := hx.commit
  have ht : tickS x = (runS x, (others x).map (askM (runS x))) := by unfold tickS; rw [if_neg hr, if_neg hi, if_neg h1]
  unfold MR
  rw [ht]
  have hvn : ¬ (runS x).n < 2 * ((runS x).voted.length : Int) := by show ¬ x.n < 2 * (1 : Int); omega
  refine Fun.enterM Try.func103 rfl Try.ntmps103 rfl ?_
  refine WC.seq <| WC.region <| bxc (v := .pointer _) (cs := [.pointer _]) rfl rfl fun b1 => sv (vaS rfl) <| WL.nil <| WX.thenN <| WC.seq <| WC.seq <| WC.region <| sv (vldc pl62 rfl) <| sv (vpeqF Try.underlying62 rfl rfl) <| WL.nil <| WX.thenN <| ?_
  refine WC.ff rfl ?_
  refine WC.skip <| WX.thenN <| WC.seq <| WC.seq <| WC.region <| sv (vldc pl62 rfl) <| sv (vnil rfl) <| sv (vfld fl104f5 rfl) <| sv (vldc pl3 rfl) <| sv (veq rfl rfl) <| WL.nil <| WX.thenN <| ?_
  refine WC.ite rfl (fun h2 => ?_) (fun h2 => ?_)
  · -- then
    exact absurd h2 hr
  · -- else
    refine WC.skip <| WX.thenN <| WC.seq <| WC.seq <| WC.region <| sv (vldc pl62 rfl) <| sv (vnil rfl) <| sv (vfld fl104f8 rfl) <| sv (vldc pl3 rfl) <| sv (vadd rfl rfl (by omega)) <| sv (vnil rfl) <| sv (vfld fl104f8 rfl) <| pm (fun _ h => h.pk1) <| stc (v := .int _ _) pl3 sz3 rfl rfl rfl <| WL.nil <| WX.thenN <| ?_
    refine WC.cut0 [(52, .bool (decide (x.waited + 1 < 10 + 3 * x.id ∨ x.term = 1000000000)))] [(1, _)] (cel p (ncells { x with waited := x.waited + 1 } base c vv pv) 104 :: cel b1 [.pointer (some ⟨p, 0, none⟩)] 62 :: row base c 2 69 (cvs x.log) :: A) ⟨rfl, trivial⟩ ?_ fun ρh => ?_
    · -- raft.go:134
      refine WC.draws rfl (by kernel_rfl) <| qv (vldc pl62 rfl) <| qv (vnil rfl) <| qv (vfld fl104f8 rfl) <| qv (vldc pl3 rfl) <| qv (vldc pl62 rfl) <| qv (vnil rfl) <| qv (vfld fl104f0 rfl) <| qv (vldc pl3 rfl) <| qv (vmul rfl rfl (by omega)) <| qv (vadd rfl rfl (by omega)) <| qvs (vlt rfl rfl) (fun q1 => ?_) (fun q1 => ?_)
      ·
        exact qv (vmB rfl) <| qng rfl <| qng rfl <| qng rfl <| qng rfl <| qng rfl <| qv (vpkt rfl) <| WQ.nil <| WX.mid () trivial ⟨bT (by first | omega | simp_all | grind), trivial⟩ ⟨rfl, trivial⟩ (fun _ h => h)
      ·
        exact qv (vmB rfl) <| qvg rfl (vldc pl62 rfl) <| qvg rfl (vnil rfl) <| qvg rfl (vfld fl104f2 rfl) <| qvg rfl (vldc pl3 rfl) <| qvg rfl (veq rfl rfl) <| qv (vpkf rfl) <| WQ.nil <| WX.mid () trivial ⟨bI (by first | omega | simp_all | grind), trivial⟩ ⟨rfl, trivial⟩ (fun _ h => h)
    refine WC.ite rfl (fun h3 => ?_) (fun h3 => ?_)
    · -- then
      exact absurd h3 hi
    · -- else
      refine WC.skip <| WX.thenN <| WC.seq <| WC.region <| sv (vldc pl62 rfl) <| sv (vnil rfl) <| sv (vfld fl104f2 rfl) <| sv (vldc pl3 rfl) <| sv (vadd (a := x.term) rfl rfl (by omega)) <| sv (vnil rfl) <| sv (vfld fl104f2 rfl) <| stc (v := .int _ _) pl3 sz3 rfl rfl rfl <| WL.nil <| WX.thenN <| WC.seq <| WC.plan (.pre [0, 4, 5, 6, 7, 8, 9] (.one [1, 2, 3] 10 (.pre [11, 12] (.one [] 13 (.pre [14, 15] (.one [] 16 (.bar [17, 18] 19 (.done [])))))))) rfl (by kernel_rfl) <| WPl.pre (trivial) <| dv (fun g => (vldc pl62 rfl)) <| dv (fun g => (vldc pl62 rfl)) <| dv (fun g => (vnil rfl)) <| dv (fun g => (vfld fl104f0 rfl)) <| dv (fun g => (vldc pl3 rfl)) <| dv (fun g => (vnil rfl)) <| dv (fun g => (vfld fl104f3 rfl)) <| WD.nil <| WPl.one (fun g => g ++ cel b1 [.pointer (some ⟨p, 0, none⟩)] 62 :: row base c 2 69 (cvs x.log) :: A) ([_]) (fun _ => trivial) (rfl) <| dv (fun g => (vldc pl62 rfl)) <| dv (fun g => (vldc pl62 rfl)) <| dv (fun g => (vldc pl62 rfl)) <| WD.eff rfl <| stc (v := .int _ _) pl3 sz3 rfl rfl rfl <| WL.nil <| WX.br <| WPl.pre (⟨[_], rfl⟩) <| dv (fun g => (vnil rfl)) <| dv (fun g => (vfld fl104f5 rfl)) <| WD.nil <| WPl.one (fun g => g ++ cel b1 [.pointer (some ⟨p, 0, none⟩)] 62 :: row base c 2 69 (cvs x.log) :: A) ([_]) (fun g => good_same _ g) (rfl) <| WD.eff rfl <| stc (v := .int _ _) pl3 sz3 rfl rfl rfl <| WL.nil <| WX.br <| WPl.pre (⟨[_], rfl⟩) <| dv (fun g => (vnil rfl)) <| dv (fun g => (vfld fl104f6 rfl)) <| WD.nil <| WPl.one (fun g => g ++ cel b1 [.pointer (some ⟨p, 0, none⟩)] 62 :: row base c 2 69 (cvs x.log) :: A) ([_]) (fun g => good_same _ g) (rfl) <| WD.eff rfl <| stc (v := .int _ _) pl3 sz3 rfl rfl rfl <| WL.nil <| WX.br <| WPl.bar (⟨[_], rfl⟩) <| dv (fun g => (vnil rfl)) <| dv (fun g => (vfld fl104f8 rfl)) <| WD.eff rfl <| stc (v := .int _ _) pl3 sz3 rfl rfl rfl <| WL.nil <| WX.brT <| WPl.fin (trivial) <| WD.nil <| WX.thenN <| WC.seq <| WC.plan (.one [0, 2, 3, 4, 5, 6] 1 (.one [] 7 (.bar [8, 9, 10] 11 (.done [])))) rfl (by kernel_rfl) <| WPl.one (fun g => g ++ cel p (ncells { x with waited := 0, term := x.term + 1, vote := x.id, role := 1, leader := 0 } base c vv pv) 104 :: cel b1 [.pointer (some ⟨p, 0, none⟩)] 62 :: row base c 2 69 (cvs x.log) :: A) ([]) (fun _ => trivial) (rfl) <| dv (fun g => (vldc pl62 rfl)) <| dv (fun g => (vldc pl62 rfl)) <| dv (fun g => (vnil rfl)) <| dv (fun g => (vfld fl104f0 rfl)) <| dv (fun g => (vldc pl3 rfl)) <| dv (fun g => (vbd (ps := []) (cs := []) bt79 zt79 rfl (by rfl))) <| WD.eff rfl <| mkm (.int .i64) fun b41 => WL.nil <| WX.br <| WPl.one (fun g => g ++ cel p (ncells { x with waited := 0, term := x.term + 1, vote := x.id, role := 1, leader := 0 } base c vv pv) 104 :: cel b1 [.pointer (some ⟨p, 0, none⟩)] 62 :: row base c 2 69 (cvs x.log) :: A) ([_]) (fun g => good_same _ g) (rfl) <| WD.eff rfl <| ins Try.underlying101 Try.underlying3 rfl rfl rfl rfl (.new (by simp)) <| WL.nil <| WX.br <| WPl.bar (⟨[_], rfl⟩) <| dv (fun g => (vmM rfl)) <| dv (fun g => (vnil rfl)) <| dv (fun g => (vfld fl104f10 rfl)) <| WD.eff rfl <| pm (fun _ h => h.pk1) <| stc (v := .map _) pl101 sz101 rfl rfl rfl <| WL.nil <| WX.brT <| WPl.fin (trivial) <| WD.nil <| WX.thenN <| WC.seq <| WC.seq <| WC.region <| sv (vldc pl62 rfl) <| cl (raft_lead_no (x := runS x) ⟨by show 0 ≤ x.n; omega, by show x.n ≤ 5; omega⟩ hvn) ct96 rfl fun _ _ => sv (vaS rfl) <| WL.nil <| WX.thenN <| WC.seq <| WC.region <| sv (vldc pl62 rfl) <| sv (vnil rfl) <| sv (vfld fl104f5 rfl) <| sv (vldc pl3 rfl) <| sv (veq rfl rfl) <| WL.nil <| WX.thenN <| ?_
      refine WC.ite rfl (fun h4 => ?_) (fun h4 => ?_)
      · -- then
        exact absurd h4 (by show ¬ (1 : Int) = 2; decide)
      · -- else
        refine WC.skip <| WX.thenN <| WC.seq <| WC.region <| alz (cs := [.slice none 0 0]) zt50 (by rfl) fun b51 => WL.nil <| WX.thenN <| WC.seq <| WC.seq <| WC.region <| sv (vldc pl62 rfl) <| sv (vfnb rfl) <| WL.nil <| WX.thenN <| WC.block <| ?_
        refine WC.rangeF (bnd := [.pointer (some ⟨p, 0, none⟩)]) (fun k => [cel p (ncells (runS x) base c (.map (some b41)) pv) 104, mp (.int .i64) b41 (vents [x.id]), outC b51 ((oth x.id k).map (askM (runS x))), cel b1 [.pointer (some ⟨p, 0, none⟩)] 62, row base c 2 69 (cvs x.log)]) (0) (x.n.toNat) (fun k v => v = .int .i64 ((k : Int) + 1) ∧ k < x.n.toNat ∧ (k : Int) + 1 ≠ x.id) ct100 rfl (fun w h => (outC_nil h).ix [1, 2, 0]) (fun l Rr hY => raft_others (x := runS x) (C := fun k => mp (.int .i64) b41 (vents [x.id]) :: outC b51 ((oth x.id k).map (askM (runS x))) :: cel b1 [.pointer (some ⟨p, 0, none⟩)] 62 :: row base c 2 69 (cvs x.log) :: Rr) ⟨by show 0 ≤ x.n; omega, by show x.n ≤ 5; omega⟩ (fun k h => by simp only [oth_id (show (k : Int) + 1 = x.id from h)]) (fun k h1 h2 => hY k _ ⟨rfl, h1, h2⟩)) ?_ ?_
        · -- a round
          intro lR XR YR k v hS
          obtain ⟨rfl, hk1, hk2⟩ := hS
          refine WG.region (by kernel_rfl) <| sv (vaI rfl) <| WL.nil <| WX.asg <| ?_
          refine WG.perm (A' := cel p (ncells (runS x) base c (.map (some b41)) pv) 104 :: mp (.int .i64) b41 (vents [x.id]) :: outC b51 ((oth x.id k).map (askM (runS x))) :: cel b1 [.pointer (some ⟨p, 0, none⟩)] 62 :: row base c 2 69 (cvs x.log) :: YR :: A) ?_ (fun _ h => h)
          refine WG.ex (fun w h => outC_open h.pk2) ?_
          rintro ⟨ob, oc, ms⟩ ⟨hms, hmc⟩
          dsimp only at hms hmc ⊢
          have hml : ms.length ≤ 5 := by have := congrArg List.length hms; have h2 := oth_len (id := x.id) (n := k); rw [List.length_map, List.length_map] at this; omega
          have hmvl := mvs_length ms
          refine WG.block <| WG.seq <| WG.region (by kernel_rfl) <| sv (vldc pl62 rfl) <| sv (vmI rfl) <| cl (raft_mail (x := runS x) (base := base) (c := c) (vv := .map (some b41)) (pv := pv)) ct94 rfl fun _ _ => alz (cs := [.int .i64 0, .int .i64 0, .int .i64 0, .int .i64 0, .int .i64 0, .int .i64 0, .int .i64 0, .bool false, .slice none 0 0]) zt54 (by rfl) fun b55 => stA sz54 rfl rfl rfl rfl (hone) <| WL.nil <| WX.gthenM <| WG.seq <| WG.plan (.bar [0, 1, 2, 3, 4, 5, 6, 7, 8, 9, 10, 11, 12] 13 (.bar [14] 15 (.done []))) rfl (by kernel_rfl) <| WPl.bar (trivial) <| dv (fun g => (vldc pl62 rfl)) <| dv (fun g => (vnil rfl)) <| dv (fun g => (vfld fl104f4 rfl)) <| dv (fun g => (vldc pl31 rfl)) <| dv (fun g => (vlen Try.underlying31 rfl)) <| dv (fun g => (vldc pl62 rfl)) <| dv (fun g => (vldc pl62 rfl)) <| dv (fun g => (vnil rfl)) <| dv (fun g => (vfld fl104f4 rfl)) <| dv (fun g => (vldc pl31 rfl)) <| dv (fun g => (vlen Try.underlying31 rfl)) <| dcl (fun g => Fun.quiet (raft_at (x := runS x) (base := base) (c := c) (vv := .map (some b41)) (pv := pv) hl)) ct95 rfl <| dv (fun g => (vfld fl54f4 rfl)) <| WD.eff rfl <| stc (v := .int _ _) pl3 sz3 rfl rfl rfl <| WL.nil <| WX.brT <| WPl.bar (trivial) <| dv (fun g => (vfld fl54f5 rfl)) <| WD.eff rfl <| stc (v := .int _ _) pl3 sz3 rfl rfl rfl <| WL.nil <| WX.brT <| WPl.fin (trivial) <| WD.nil <| WX.gthenM <| WG.region (by kernel_rfl) <| sv (vldc pl50 rfl) <| sv (vldac ag54 sz54 rfl rfl (by decide)) <| pm (fun _ h => h.pk2) <| apA (v := .agg _) (cs := mv ⟨1, x.id, (k : Int) + 1, x.term + 1, x.log.length, atT x.log x.log.length, 0, false, ⟨none, [], 0⟩⟩) Try.underlying50 zt54 rfl (fun _ => rfl) (fun _ => rfl) rfl rfl rfl (by decide) (by decide) (mv_one _) hmvl (by simp only [maxLen]; omega) (by omega) fun _ base67 c67 hc67 =>pm (fun _ h => h.pk2) <| stc (v := .slice _ _ _) pl50 sz50 rfl rfl rfl <| WL.nil <| WX.gblockN <| WX.round (fun w h => ?_)
          have h1 := mrows_snoc (y := ⟨1, x.id, (k : Int) + 1, x.term + 1, x.log.length, atT x.log x.log.length, 0, false, ⟨none, [], 0⟩⟩) ((h.ix [3, 0, 1, 4, 5, 6, 7, 8, 2]).intro_row_nil)
          rw [← mvs_snoc] at h1
          have h2 := outC_mk (l := (oth x.id (k + 1)).map (askM (runS x))) (by rw [oth_snoc hk2, List.map_append, List.map_append, hms]; rfl) (by simp) hc67 h1
          exact (h2.ix [6, 1, 2, 0, 3, 4, 5]).tail
        · -- behind the rounds
          intro DR lR rR
          refine WX.perm (A' := cel p (ncells (runS x) base c (.map (some b41)) pv) 104 :: mp (.int .i64) b41 (vents [x.id]) :: outC b51 ((oth x.id x.n.toNat).map (askM (runS x))) :: cel b1 [.pointer (some ⟨p, 0, none⟩)] 62 :: row base c 2 69 (cvs x.log) :: lp DR lR rR :: A) ?_ (fun _ h => h)
          refine WX.exi (fun w h => outC_open h.pk2) ?_
          rintro ⟨ob, oc, ms⟩ ⟨hms, hmc⟩
          dsimp only at hms hmc ⊢
          exact WX.gblockN <| WX.gthenN <| WG.seq <| WG.region (by kernel_rfl) <| sv (vldc pl50 rfl) <| sv (vaS rfl) <| WL.nil <| WX.gthenM <| WG.ret <| WX.ret1G rfl ((ob, oc, ms)) (⟨hms, hmc⟩) rfl (fun w h => ((hnode_mk1 (x := runS x) rfl hc (h.ix [3, 6, 4, 7, 1, 2, 0, 5])).ix [4, 5, 1, 2, 3, 0]).tail.tail)
theorem raft_tick {w0 : World} {A : List HProp} {p : Nat} {x : Rn} (hx : RInv x) (hw : x.waited + 1 ≤ 9223372036854775807) :
    Fun Try.prog w0 103 [.pointer (some ⟨p, 0, none⟩)] (hnode p x :: A) (MR w0 p A (tickS x)) := by
  by_cases hr : x.role = 2
  · exact raft_tick_lead hx hr
  · by_cases hi : x.waited + 1 < 10 + 3 * x.id ∨ x.term = 1000000000
    · exact raft_tick_idle hx hr hw hi
    · by_cases h1 : x.n < 2
      · exact raft_tick_one hx hr hw hi h1
      · exact raft_tick_ask hx hr hw hi h1
end Go.Proofs.Ytigjompojlhomaa
end
section
set_option linter.unusedVariables false
set_option linter.unusedSimpArgs false
set_option maxRecDepth 4000
namespace Go.Proofs.Ytigjompojlhomaa
open Go.Sl Go.RowKit Go.Raft

theorem one_mail {w0 w : World} {A : List HProp} {b : Nat} {h : Mh} (H : Own w0 (cel b (mv h) 54 :: row h.cs.base h.cs.cap 2 69 (cvs h.cs.xs) :: A) w) : Own w0 (row (some ⟨b, 0, none⟩) 1 9 54 (mvs [h]) :: mrows [h] :: A) w := by
  have h1 := H.cel_row (c := 1) (s := 9) rfl (by simp [maxLen])
  have h2 : Own w0 (mrows [h] :: row (some ⟨b, 0, none⟩) 1 9 54 (mv h) :: A) w := (h1.pk1.intro_emp.pk1).intro_star
  exact h2.pk1
theorem one_mail0 {w0 w : World} {A : List HProp} {b : Nat} {h : Mh} (hc : h.cs = ⟨none, [], 0⟩) (H : Own w0 (cel b (mv h) 54 :: A) w) : Own w0 (row (some ⟨b, 0, none⟩) 1 9 54 (mvs [h]) :: mrows [h] :: A) w :=
  one_mail (by rw [hc]; exact H.intro_row_nil.pk1)
abbrev voteH (x : Rn) (m : Mh) (ok : Bool) : Mh := ⟨2, x.id, m.fr, x.term, 0, 0, 0, ok, ⟨none, [], 0⟩⟩
theorem raft_asked {w0 : World} {A : List HProp} {p : Nat} {x : Rn} {m : Mh} (hx : RInv x) :
    Fun Try.prog w0 90 [.pointer (some ⟨p, 0, none⟩), .agg (mv m).toArray] (hnode p x :: A) (MR w0 p A (askedS x m.ml)) := by
  refine Fun.ex (fun w h => hnode_open h) ?_
  rintro ⟨base, c, vv, pv⟩ hc
  dsimp only at hc ⊢
  have hl := hx.log
  obtain ⟨lst, hlst⟩ : ∃ lst, lst = atT x.log x.log.length := ⟨_, rfl⟩
  refine Fun.enter Try.func90 rfl Try.ntmps90 rfl ?_
  refine WC.seq <| WC.region <| bxc (v := .agg _) (cs := [.int _ _, .int _ _, .int _ _, .int _ _, .int _ _, .int _ _, .int _ _, .bool _, .slice _ _ _]) rfl rfl fun b1 => sv (vaS rfl) <| WL.nil <| WX.thenN <| WC.seq <| WC.region <| sv (vmP rfl) <| sv (vfld fl54f1 rfl) <| sv (vldc pl3 rfl) <| cl (raft_mail (x := x) (base := base) (c := c) (vv := vv) (pv := pv)) ct94 rfl fun _ _ => alz (cs := [.int .i64 0, .int .i64 0, .int .i64 0, .int .i64 0, .int .i64 0, .int .i64 0, .int .i64 0, .bool false, .slice none 0 0]) zt54 (by rfl) fun b4 => stA sz54 rfl rfl rfl rfl (hone) <| WL.nil <| WX.thenN <| WC.seq <| WC.region <| sv (vmP rfl) <| sv (vmP rfl) <| sv (vnil rfl) <| sv (vfld fl104f4 rfl) <| sv (vldc pl31 rfl) <| sv (vlen Try.underlying31 rfl) <| cl (raft_at (x := x) (base := base) (c := c) (vv := vv) (pv := pv) hl) ct95 rfl fun _ _ => ?_
  rw [← hlst]
  refine sv (vaI rfl) <| WL.nil <| WX.thenN <| ?_
  refine WC.cut0 [(7, .bool (decide (lst < m.prev ∨ m.prev = lst ∧ (x.log.length : Int) ≤ m.index)))] [(0, .pointer _), (3, _), (5, _)] (cel b4 (mv (voteH x m false)) 54 :: cel b1 (mv m) 54 :: cel p (ncells x base c vv pv) 104 :: row base c 2 69 (cvs x.log) :: extraC x vv pv :: A) ⟨rfl, rfl, rfl, trivial⟩ ?_ fun ρh => ?_
  · -- raft.go:184
    refine WC.draws rfl (by kernel_rfl) <| qv (vfld fl54f5 rfl) <| qv (vldc pl3 rfl) <| qv (vmI rfl) <| qvs (vgt rfl rfl) (fun q1 => ?_) (fun q1 => ?_)
    ·
      exact qv (vmB rfl) <| qng rfl <| qng rfl <| qng rfl <| qng rfl <| qng rfl <| qng rfl <| qng rfl <| qng rfl <| qng rfl <| qng rfl <| qng rfl <| qng rfl <| qng rfl <| qng rfl <| qv (vpkt rfl) <| qv (vaB rfl) <| WQ.nil <| WX.mid () trivial ⟨bT (by first | omega | simp_all | grind), trivial⟩ ⟨rfl, rfl, rfl, trivial⟩ (fun _ h => h)
    ·
      refine qv (vmB rfl) <| qvg rfl (vfld fl54f5 rfl) <| qvg rfl (vldc pl3 rfl) <| qvg rfl (vmI rfl) <| qvsg rfl (veq rfl rfl) (fun q2 => ?_) (fun q2 => ?_)
      ·
        exact qvg rfl (vmB rfl) <| qvg rfl (vfld fl54f4 rfl) <| qvg rfl (vldc pl3 rfl) <| qvg rfl (vmP rfl) <| qvg rfl (vnil rfl) <| qvg rfl (vfld fl104f4 rfl) <| qvg rfl (vldc pl31 rfl) <| qvg rfl (vlen Try.underlying31 rfl) <| qvg rfl (vge rfl rfl) <| qvg rfl (vpkt rfl) <| qv (vpkf rfl) <| qv (vaB rfl) <| WQ.nil <| WX.mid () trivial ⟨bI (by first | omega | simp_all | grind), trivial⟩ ⟨rfl, rfl, rfl, trivial⟩ (fun _ h => h)
      ·
        exact qvg rfl (vmB rfl) <| qng rfl <| qng rfl <| qng rfl <| qng rfl <| qng rfl <| qng rfl <| qng rfl <| qng rfl <| qvg rfl (vpkf rfl) <| qv (vpkf rfl) <| qv (vaB rfl) <| WQ.nil <| WX.mid () trivial ⟨bF (by first | omega | simp_all | grind), trivial⟩ ⟨rfl, rfl, rfl, trivial⟩ (fun _ h => h)
  refine WC.seq <| ?_
  refine WC.cut0 [(71, .bool (decide (m.term = x.term ∧ (x.vote = 0 ∨ x.vote = m.fr) ∧ x.role = 0 ∧ (lst < m.prev ∨ m.prev = lst ∧ (x.log.length : Int) ≤ m.index))))] [(0, .pointer _), (3, _), (5, _)] (cel b4 (mv (voteH x m false)) 54 :: cel b1 (mv m) 54 :: cel p (ncells x base c vv pv) 104 :: row base c 2 69 (cvs x.log) :: extraC x vv pv :: A) ⟨rfl, rfl, rfl, trivial⟩ ?_ fun ρh => ?_
  · -- raft.go:185
    refine WC.draws rfl (by kernel_rfl) <| qv (vfld fl54f3 rfl) <| qv (vldc pl3 rfl) <| qv (vmP rfl) <| qv (vnil rfl) <| qv (vfld fl104f2 rfl) <| qv (vldc pl3 rfl) <| qvs (veq rfl rfl) (fun q3 => ?_) (fun q3 => ?_)
    ·
      refine qv (vmB rfl) <| qvg rfl (vmP rfl) <| qvg rfl (vnil rfl) <| qvg rfl (vfld fl104f3 rfl) <| qvg rfl (vldc pl3 rfl) <| qvsg rfl (veq rfl rfl) (fun q4 => ?_) (fun q4 => ?_)
      ·
        refine qvg rfl (vmB rfl) <| qng rfl <| qng rfl <| qng rfl <| qng rfl <| qng rfl <| qng rfl <| qng rfl <| qvg rfl (vpkt rfl) <| qv (vpkt rfl) <| qv (vmB rfl) <| qvg rfl (vmP rfl) <| qvg rfl (vnil rfl) <| qvg rfl (vfld fl104f5 rfl) <| qvg rfl (vldc pl3 rfl) <| qvsg rfl (veq rfl rfl) (fun q5 => ?_) (fun q5 => ?_)
        ·
          exact qv (vpkt rfl) <| qv (vmB rfl) <| qvg rfl (vmB rfl) <| qv (vpkt rfl) <| WQ.nil <| WX.mid () trivial ⟨bI (by first | omega | simp_all | grind), trivial⟩ ⟨rfl, rfl, rfl, trivial⟩ (fun _ h => h)
        ·
          exact qv (vpkt rfl) <| qv (vmB rfl) <| qng rfl <| qv (vpkf rfl) <| WQ.nil <| WX.mid () trivial ⟨bF (by first | omega | simp_all | grind), trivial⟩ ⟨rfl, rfl, rfl, trivial⟩ (fun _ h => h)
      ·
        refine qvg rfl (vmB rfl) <| qvg rfl (vmP rfl) <| qvg rfl (vnil rfl) <| qvg rfl (vfld fl104f3 rfl) <| qvg rfl (vldc pl3 rfl) <| qvg rfl (vfld fl54f1 rfl) <| qvg rfl (vldc pl3 rfl) <| qvsg rfl (veq rfl rfl) (fun q6 => ?_) (fun q6 => ?_)
        ·
          refine qvg rfl (vpkf rfl) <| qv (vpkt rfl) <| qv (vmB rfl) <| qvg rfl (vmP rfl) <| qvg rfl (vnil rfl) <| qvg rfl (vfld fl104f5 rfl) <| qvg rfl (vldc pl3 rfl) <| qvsg rfl (veq rfl rfl) (fun q7 => ?_) (fun q7 => ?_)
          ·
            exact qv (vpkt rfl) <| qv (vmB rfl) <| qvg rfl (vmB rfl) <| qv (vpkt rfl) <| WQ.nil <| WX.mid () trivial ⟨bI (by first | omega | simp_all | grind), trivial⟩ ⟨rfl, rfl, rfl, trivial⟩ (fun _ h => h)
          ·
            exact qv (vpkt rfl) <| qv (vmB rfl) <| qng rfl <| qv (vpkf rfl) <| WQ.nil <| WX.mid () trivial ⟨bF (by first | omega | simp_all | grind), trivial⟩ ⟨rfl, rfl, rfl, trivial⟩ (fun _ h => h)
        ·
          exact qvg rfl (vpkf rfl) <| qv (vpkt rfl) <| qv (vmB rfl) <| qng rfl <| qng rfl <| qng rfl <| qng rfl <| qng rfl <| qv (vpkf rfl) <| qv (vmB rfl) <| qng rfl <| qv (vpkf rfl) <| WQ.nil <| WX.mid () trivial ⟨bF (by first | omega | simp_all | grind), trivial⟩ ⟨rfl, rfl, rfl, trivial⟩ (fun _ h => h)
    ·
      exact qv (vmB rfl) <| qng rfl <| qng rfl <| qng rfl <| qng rfl <| qng rfl <| qng rfl <| qng rfl <| qng rfl <| qng rfl <| qng rfl <| qng rfl <| qng rfl <| qng rfl <| qng rfl <| qv (vpkf rfl) <| qv (vmB rfl) <| qng rfl <| qng rfl <| qng rfl <| qng rfl <| qng rfl <| qv (vpkf rfl) <| qv (vmB rfl) <| qng rfl <| qv (vpkf rfl) <| WQ.nil <| WX.mid () trivial ⟨bF (by first | omega | simp_all | grind), trivial⟩ ⟨rfl, rfl, rfl, trivial⟩ (fun _ h => h)
  refine WC.ite rfl (fun h1 => ?_) (fun h1 => ?_)
  · -- then
    have hv : voteOk x m.ml := by unfold voteOk; rw [← hlst]; exact h1
    have ht : askedS x m.ml = ({ x with vote := m.fr, waited := 0 }, [(voteH x m true).ml]) := by unfold askedS; rw [if_pos hv, decide_eq_true hv]; rfl
    unfold MR
    rw [ht]
    · -- a
      exact WC.region <| sv (vmP rfl) <| sv (vmP rfl) <| sv (vfld fl54f1 rfl) <| sv (vldc pl3 rfl) <| sv (vnil rfl) <| sv (vfld fl104f3 rfl) <| pm (fun _ h => h.pk2) <| stc (v := .int _ _) pl3 sz3 rfl rfl rfl <| sv (vnil rfl) <| sv (vfld fl104f8 rfl) <| stc (v := .int _ _) pl3 sz3 rfl rfl rfl <| sv (vfld fl54f7 rfl) <| pm (fun _ h => h.pk1) <| stc (v := .bool _) pl4 sz4 rfl rfl rfl <| WL.nil <| WX.thenN <| WC.seq <| WC.region <| sv (vldac ag54 sz54 rfl rfl (by decide)) <| bslA (v := .agg _) (cs := mv (voteH x m true)) Try.underlying50 zt54 rfl rfl rfl (by decide) (by decide) fun b23 =>sv (vaS rfl) <| WL.nil <| WX.thenN <| WC.ret <| WX.ret1 rfl ((some ⟨b23, 0, none⟩, 1, [voteH x m true])) (⟨rfl, Nat.le_refl _⟩) rfl (fun w h => ((hnode_mk (x := { x with vote := m.fr, waited := 0 }) hc ((one_mail0 rfl h).ix [3, 5, 6, 0, 1, 2, 4])).ix [3, 4, 1, 2, 0]).tail.tail)
  · -- else
    have hv : ¬ voteOk x m.ml := by unfold voteOk; rw [← hlst]; exact h1
    have ht : askedS x m.ml = (x, [(voteH x m false).ml]) := by unfold askedS; rw [if_neg hv, decide_eq_false hv]; rfl
    unfold MR
    rw [ht]
    · -- b
      exact WC.skip <| WX.thenN <| WC.seq <| WC.region <| sv (vldac ag54 sz54 rfl rfl (by decide)) <| bslA (v := .agg _) (cs := mv (voteH x m false)) Try.underlying50 zt54 rfl rfl rfl (by decide) (by decide) fun b23 =>sv (vaS rfl) <| WL.nil <| WX.thenN <| WC.ret <| WX.ret1 rfl ((some ⟨b23, 0, none⟩, 1, [voteH x m false])) (⟨rfl, Nat.le_refl _⟩) rfl (fun w h => ((hnode_mk (x := x) hc ((one_mail0 rfl h).ix [4, 5, 6, 0, 1, 2, 3])).ix [3, 4, 1, 2, 0]).tail.tail)
end Go.Proofs.Ytigjompojlhomaa
end
