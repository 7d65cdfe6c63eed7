/-
  Texts one behind the other: DiskSpecB, DiskPure, DiskFiles, DiskSpecC, DiskSpecD, DiskSpecE, DiskOff, DiskSync, DiskAppend, DiskRead, DiskCut, DiskLawA, JournalSpecA, JournalSpecB, VaultSpecD, JournalOpen, JournalPureC, JournalLawA, VaultCalm, PackSpecB, PackSpecC, PackRefSum.
-/
import Derived.Test.YthljpljbpbkkcaaGreatDoorPb2
section
set_option linter.unusedVariables false
set_option linter.unusedSimpArgs false
set_option maxRecDepth 4000
namespace Go.Proofs.YthljpljbpbkkcaaGreatDoor
open Go.Sl Go.RowKit

/-- a file: its bytes, and how many of them are safe -/
def pfile (f : Nat) (bs : List UInt8) (safe : Nat) : HProp := fun h => ∃ base c, bs.length ≤ c ∧ star (cel f [.slice base bs.length c, .int .i64 (safe : Int)] 75) (row base c 1 5 (u8s bs)) h
theorem pfile_open {w0 w : World} {f : Nat} {bs : List UInt8} {safe : Nat} {A : List HProp} (H : Own w0 (pfile f bs safe :: A) w) :
    ∃ x : Option Addr × Nat, bs.length ≤ x.2 ∧ Own w0 (cel f [.slice x.1 bs.length x.2, .int .i64 (safe : Int)] 75 :: row x.1 x.2 1 5 (u8s bs) :: A) w := by
  obtain ⟨hb, h, ⟨h1, h2, ⟨base, c, hc, a⟩, a2, d, x⟩, hw⟩ := H
  exact ⟨(base, c), hc, Own.star ⟨hb, h, ⟨h1, h2, a, a2, d, x⟩, hw⟩⟩
theorem pfile_mk {w0 w : World} {f : Nat} {bs : List UInt8} {safe : Nat} {A : List HProp} {base : Option Addr} {c : Nat} (hc : bs.length ≤ c) (H : Own w0 (cel f [.slice base bs.length c, .int .i64 (safe : Int)] 75 :: row base c 1 5 (u8s bs) :: A) w) :
    Own w0 (pfile f bs safe :: A) w := H.intro_star.head fun _ h => ⟨base, c, hc, h⟩
/-- a file of a disk: name, place, bytes, safe ones -/
structure DF where
  name : ByteArray
  ptr : Nat
  bs : List UInt8
  safe : Nat
def pfiles : List DF → HProp
  | [] => emp
  | x :: l => star (pfile x.ptr x.bs x.safe) (pfiles l)
def ents (l : List DF) : List (Value × Value) := l.map fun x => (.string x.name, .pointer (some ⟨x.ptr, 0, none⟩))
/-- what is known of a disk -/
structure DSt where
  files : ByteArray → Option (List UInt8 × Nat)
  off : Bool
  fuse : Int
  keep : Int
  deeds : Int
def lookL : List DF → ByteArray → Option (List UInt8 × Nat)
  | [], _ => none
  | x :: l, k => if x.name = k then some (x.bs, x.safe) else lookL l k
/-- these files are the disk's -/
structure Rep (l : List DF) (st : DSt) : Prop where
  nodup : (l.map (·.name)).Nodup
  look : ∀ k, lookL l k = st.files k
  ok : ∀ x ∈ l, x.safe ≤ x.bs.length ∧ x.bs.length ≤ 16777216
  fuse : 0 ≤ st.fuse ∧ st.fuse ≤ 9223372036854775807
abbrev dcells (m : Nat) (st : DSt) : List Value := [.map (some m), .bool st.off, .int .i64 st.fuse, .int .i64 st.keep, .int .i64 st.deeds]
def pdisk (d : Nat) (st : DSt) : HProp := fun h => ∃ m l, Rep l st ∧ star (cel d (dcells m st) 68) (star (mp .string m (ents l)) (pfiles l)) h
theorem pdisk_open {w0 w : World} {d : Nat} {st : DSt} {A : List HProp} (H : Own w0 (pdisk d st :: A) w) :
    ∃ x : Nat × List DF, Rep x.2 st ∧ Own w0 (cel d (dcells x.1 st) 68 :: mp .string x.1 (ents x.2) :: pfiles x.2 :: A) w := by
  obtain ⟨hb, h, ⟨h1, h2, ⟨m, l, hc, a⟩, a2, dd, x⟩, hw⟩ := H
  have h3 : Own w0 (star (cel d (dcells m st) 68) (star (mp .string m (ents l)) (pfiles l)) :: A) w := ⟨hb, h, ⟨h1, h2, a, a2, dd, x⟩, hw⟩
  exact ⟨(m, l), hc, h3.star.pk1.star.pk2⟩
theorem pdisk_mk {w0 w : World} {d m : Nat} {st : DSt} {l : List DF} {A : List HProp} (hl : Rep l st) (H : Own w0 (cel d (dcells m st) 68 :: mp .string m (ents l) :: pfiles l :: A) w) :
    Own w0 (pdisk d st :: A) w := H.pk2.pk2.intro_star.pk1.intro_star.head fun _ h => ⟨m, l, hl, h⟩
def newD : DSt := ⟨fun _ => none, false, 0, 0, 0⟩
theorem Rep.new : Rep [] newD := ⟨by simp, fun _ => rfl, by simp, by simp [newD]⟩
theorem Rep.same {l : List DF} {st st' : DSt} (h : Rep l st) (hf : st'.files = st.files) (hu : 0 ≤ st'.fuse ∧ st'.fuse ≤ 9223372036854775807) : Rep l st' := ⟨h.nodup, fun k => by rw [h.look, hf], h.ok, hu⟩
theorem look_at {l : List DF} {k : ByteArray} {v : List UInt8 × Nat} (h : lookL l k = some v) : ∃ (j : Nat) (x : DF), l[j]? = some x ∧ x.name = k ∧ (x.bs, x.safe) = v := by
  induction l with
  | nil => cases h
  | cons y l ih =>
    unfold lookL at h
    split at h
    · exact ⟨0, y, rfl, by assumption, Option.some.inj h⟩
    · obtain ⟨j, x, h1, h2⟩ := ih h
      exact ⟨j + 1, x, by simpa using h1, h2⟩
theorem look_no {l : List DF} {k : ByteArray} (h : lookL l k = none) : ∀ x ∈ l, x.name ≠ k := by
  induction l with
  | nil => intro x hx; cases hx
  | cons y l ih =>
    unfold lookL at h
    split at h
    · cases h
    · intro x hx
      rcases List.mem_cons.1 hx with rfl | hx
      · assumption
      · exact ih h x hx
theorem look_of {l : List DF} {x : DF} (hn : (l.map (·.name)).Nodup) (hx : x ∈ l) : lookL l x.name = some (x.bs, x.safe) := by
  induction l with
  | nil => cases hx
  | cons y l ih =>
    unfold lookL
    simp only [List.map_cons, List.nodup_cons] at hn
    rcases List.mem_cons.1 hx with rfl | hx
    · simp
    · rw [if_neg (fun he => hn.1 (List.mem_map.2 ⟨x, hx, he.symm⟩)), ih hn.2 hx]
theorem Rep.at {l : List DF} {st : DSt} {k : ByteArray} {v : List UInt8 × Nat} (h : Rep l st) (hk : st.files k = some v) : ∃ (j : Nat) (x : DF), l[j]? = some x ∧ x.name = k ∧ (x.bs, x.safe) = v := look_at ((h.look k).trans hk)
theorem Rep.no {l : List DF} {st : DSt} {k : ByteArray} (h : Rep l st) (hk : st.files k = none) : ∀ x ∈ l, x.name ≠ k := look_no ((h.look k).trans hk)
theorem disk_new {w0 : World} {A : List HProp} : Fun Tryz.prog w0 6 [] A (Ret w0 (fun _ : Nat => True) (fun d => .pointer (some ⟨d, 0, none⟩)) (fun d => pdisk d newD :: A)) := by
  refine Fun.enter Tryz.func6 rfl Tryz.ntmps6 rfl ?_
  exact WC.seq <| WC.region <| sv (vaP rfl) <| WL.nil <| WX.thenN <| WC.seq <| WC.region <| mkm .string fun b1 =>sv (vbd (ps := [(0, .map _)]) (cs := [_, _, _, _, _]) bt68 zt68 rfl (by rfl)) <| bxc (v := .agg _) (cs := [.map _, .bool _, .int _ _, .int _ _, .int _ _]) rfl rfl fun b3 => sv (vaP rfl) <| WL.nil <| WX.thenN <| WC.ret <| WX.ret1 rfl (b3) (trivial) rfl (fun w h => pdisk_mk (l := []) Rep.new h.intro_emp.pk2.pk2)
theorem disk_up {w0 : World} {A : List HProp} {d : Nat} {st : DSt} : Fun Tryz.prog w0 54 [.pointer (some ⟨d, 0, none⟩)] (pdisk d st :: A) (Ret w0 (fun _ : Unit => True) (fun _ => .bool (!st.off)) (fun _ => pdisk d st :: A)) := by
  refine Fun.ex (fun w h => pdisk_open h) ?_
  rintro ⟨m, l⟩ hl
  dsimp only at hl ⊢
  refine Fun.enter Tryz.func54 rfl Tryz.ntmps54 rfl ?_
  refine WC.seq <| WC.region <| sv (vaB rfl) <| WL.nil <| WX.thenN <| ?_
  refine WC.cut0 [(2, .bool (!st.off))] [] (cel d (dcells m st) 68 :: mp .string m (ents l) :: pfiles l :: A) trivial ?_ fun ρh => ?_
  · -- disk.go:159
    exact WC.region <| sv (vmP rfl) <| sv (vpneT Tryz.underlying24 rfl rfl) <| sv (vmB rfl) <| svg rfl (vmP rfl) <| svg rfl (vnil rfl) <| svg rfl (vfld fl68f1 rfl) <| svg rfl (vldc pl4 rfl) <| svg rfl (vnot rfl) <| sv (vpkt rfl) <| sv (vaB rfl) <| WL.nil <| WX.mid () trivial ⟨rfl, trivial⟩ trivial (fun _ h => h)
  exact WC.ret <| WX.ret1 rfl (()) (trivial) rfl (fun w h => pdisk_mk hl h)
theorem disk_deeds {w0 : World} {A : List HProp} {d : Nat} {st : DSt} : Fun Tryz.prog w0 27 [.pointer (some ⟨d, 0, none⟩)] (pdisk d st :: A) (Ret w0 (fun _ : Unit => True) (fun _ => .int .i64 st.deeds) (fun _ => pdisk d st :: A)) := by
  refine Fun.ex (fun w h => pdisk_open h) ?_
  rintro ⟨m, l⟩ hl
  dsimp only at hl ⊢
  refine Fun.enter Tryz.func27 rfl Tryz.ntmps27 rfl ?_
  refine WC.seq <| WC.region <| sv (vaI rfl) <| WL.nil <| WX.thenN <| WC.seq <| WC.seq <| WC.region <| sv (vmP rfl) <| sv (vpeqF Tryz.underlying24 rfl rfl) <| WL.nil <| WX.thenN <| ?_
  refine WC.ff rfl ?_
  exact WC.skip <| WX.thenN <| WC.seq <| WC.region <| sv (vmP rfl) <| sv (vnil rfl) <| sv (vfld fl68f4 rfl) <| sv (vldc pl3 rfl) <| sv (vaI rfl) <| WL.nil <| WX.thenN <| WC.ret <| WX.ret1 rfl (()) (trivial) rfl (fun w h => pdisk_mk hl h)
theorem disk_arm {w0 : World} {A : List HProp} {d : Nat} {st : DSt} {x k : Int} (hx : x ≤ 9223372036854775807) : Fun Tryz.prog w0 15 [.pointer (some ⟨d, 0, none⟩), .int .i64 x, .int .i64 k] (pdisk d st :: A) (Ret w0 (fun _ : Unit => True) (fun _ => .tuple #[]) (fun _ => pdisk d { st with fuse := max x 0, keep := k } :: A)) := by
  refine Fun.ex (fun w h => pdisk_open h) ?_
  rintro ⟨m, l⟩ hl
  dsimp only at hl ⊢
  refine Fun.enter Tryz.func15 rfl Tryz.ntmps15 rfl ?_
  refine WC.seq <| WC.region <| sv (vmP rfl) <| sv (vpneT Tryz.underlying24 rfl rfl) <| WL.nil <| WX.thenN <| ?_
  refine WC.tt rfl ?_
  exact WC.region <| sv (vmP rfl) <| sv (vmP rfl) <| sv (vmI rfl) <| sv (vmax rfl rfl) <| sv (vmI rfl) <| sv (vnil rfl) <| sv (vfld fl68f2 rfl) <| stc (v := .int _ _) pl3 sz3 rfl rfl rfl <| sv (vnil rfl) <| sv (vfld fl68f3 rfl) <| stc (v := .int _ _) pl3 sz3 rfl rfl rfl <| WL.nil <| WX.end0 rfl (()) (trivial) rfl (fun w h => pdisk_mk (hl.same rfl (by dsimp only; omega)) h)
theorem disk_on {w0 : World} {A : List HProp} {d : Nat} {st : DSt} : Fun Tryz.prog w0 17 [.pointer (some ⟨d, 0, none⟩)] (pdisk d st :: A) (Ret w0 (fun _ : Unit => True) (fun _ => .tuple #[]) (fun _ => pdisk d { st with off := false } :: A)) := by
  refine Fun.ex (fun w h => pdisk_open h) ?_
  rintro ⟨m, l⟩ hl
  dsimp only at hl ⊢
  refine Fun.enter Tryz.func17 rfl Tryz.ntmps17 rfl ?_
  refine WC.seq <| WC.region <| sv (vmP rfl) <| sv (vpneT Tryz.underlying24 rfl rfl) <| WL.nil <| WX.thenN <| ?_
  refine WC.tt rfl ?_
  exact WC.region <| sv (vmP rfl) <| sv (vnil rfl) <| sv (vfld fl68f1 rfl) <| stc (v := .bool _) pl4 sz4 rfl rfl rfl <| WL.nil <| WX.end0 rfl (()) (trivial) rfl (fun w h => pdisk_mk (hl.same rfl hl.fuse) h)
end Go.Proofs.YthljpljbpbkkcaaGreatDoor
end
section
set_option linter.unusedVariables false
namespace Go.Proofs.YthljpljbpbkkcaaGreatDoor

/-- how many bytes of a file are there when the power has failed -/
def keptOf (keep : Int) (x : List UInt8 × Nat) : Nat := x.2 + min (max keep 0).toNat (x.1.length - x.2)
def offV (keep : Int) (x : List UInt8 × Nat) : List UInt8 × Nat := (x.1.take (keptOf keep x), keptOf keep x)
def offS (keep : Int) (st : DSt) : DSt := if st.off then st else { st with off := true, files := fun k => (st.files k).map (offV keep) }
def putV (nm : ByteArray) (v : List UInt8 × Nat) (f : ByteArray → Option (List UInt8 × Nat)) : ByteArray → Option (List UInt8 × Nat) := fun k => if k = nm then some v else f k
def findE (nm : ByteArray) (st : DSt) : Int := if st.off then 20 else if (st.files nm).isSome then 0 else 21
/-- one deed: what it does, and what it does in the last moment of a fuse -/
def deedS (dof late : (ByteArray → Option (List UInt8 × Nat)) → ByteArray → Option (List UInt8 × Nat)) (st : DSt) : DSt × Int :=
  if st.fuse - 1 = 0 then (offS st.keep { st with deeds := st.deeds + 1, fuse := 0, files := late st.files }, 20)
  else ({ st with deeds := st.deeds + 1, fuse := max (st.fuse - 1) 0, files := dof st.files }, 0)
def syncS (nm : ByteArray) (st : DSt) : DSt × Int :=
  if st.off then (st, 20) else match st.files nm with
  | none => (st, 21)
  | some v => deedS (putV nm (v.1, v.1.length)) id st
def cutS (nm : ByteArray) (n : Int) (st : DSt) : DSt × Int :=
  if st.off then (st, 20) else match st.files nm with
  | none => (st, 21)
  | some v => if n < 0 ∨ v.1.length < n then (st, 1) else deedS (putV nm (v.1.take n.toNat, min v.2 n.toNat)) id st
def readS (nm : ByteArray) (st : DSt) : List UInt8 × Int :=
  if st.off then ([], 20) else match st.files nm with
  | none => ([], 21)
  | some v => (v.1, 0)
end Go.Proofs.YthljpljbpbkkcaaGreatDoor
end
section
set_option linter.unusedVariables false
namespace Go.Proofs.YthljpljbpbkkcaaGreatDoor
open Go.Sl

theorem pfiles_out {w0 w : World} {A : List HProp} : ∀ {l : List DF} {j : Nat} {x : DF}, l[j]? = some x → Own w0 (pfiles l :: A) w → Own w0 (pfile x.ptr x.bs x.safe :: pfiles (l.eraseIdx j) :: A) w
  | [], _, _, h, _ => by simp at h
  | y :: l, 0, x, h, H => by
    simp at h; subst h
    exact H.star
  | y :: l, j + 1, x, h, H => by
    have h1 := H.star.pk1
    have h2 := pfiles_out (l := l) (j := j) (x := x) (by simpa using h) h1
    exact h2.pk2.pk2.pk1.intro_star.pk1
theorem pfiles_set {w0 w : World} {A : List HProp} {y : DF} : ∀ {l : List DF} {j : Nat} {x : DF}, l[j]? = some x → Own w0 (pfile y.ptr y.bs y.safe :: pfiles (l.eraseIdx j) :: A) w → Own w0 (pfiles (l.set j y) :: A) w
  | [], _, _, h, _ => by simp at h
  | z :: l, 0, x, h, H => H.intro_star
  | z :: l, j + 1, x, h, H => by
    have h1 : Own w0 (star (pfile z.ptr z.bs z.safe) (pfiles (l.eraseIdx j)) :: pfile y.ptr y.bs y.safe :: A) w := H.pk1
    have h2 := pfiles_set (l := l) (j := j) (x := x) (by simpa using h) (h1.star.pk1.pk2)
    exact h2.pk1.intro_star
theorem pfiles_snoc {w0 w : World} {y : DF} : ∀ {l : List DF} {A : List HProp}, Own w0 (pfile y.ptr y.bs y.safe :: pfiles l :: A) w → Own w0 (pfiles (l ++ [y]) :: A) w
  | [], A, H => H.intro_star
  | z :: l, A, H => by
    have h1 := H.pk1.star.pk1.pk2
    exact (pfiles_snoc (l := l) (h1.ix [0, 1, 2])).ix [1, 0] |>.intro_star
theorem ents_set {l : List DF} {j : Nat} {x y : DF} (h : l[j]? = some x) (hn : y.name = x.name) (hp : y.ptr = x.ptr) : ents (l.set j y) = ents l := by
  unfold ents
  rw [List.map_set]
  apply List.ext_getElem?
  intro i
  rw [List.getElem?_set]
  by_cases hi : j = i
  · subst hi
    have := (List.getElem?_eq_some_iff.1 h).1
    have hx : l[j] = x := (List.getElem?_eq_some_iff.1 h).2
    simp [this, hn, hp, hx]
  · simp [hi]
theorem ents_snoc {l : List DF} {y : DF} : ents (l ++ [y]) = ents l ++ [(.string y.name, .pointer (some ⟨y.ptr, 0, none⟩))] := by simp [ents]
theorem look_set {y x : DF} (hy : y.name = x.name) {k : ByteArray} : ∀ {l : List DF} {j : Nat}, (l.map (·.name)).Nodup → l[j]? = some x → lookL (l.set j y) k = if k = x.name then some (y.bs, y.safe) else lookL l k
  | [], _, _, h => by simp at h
  | z :: l, 0, hn, h => by
    simp at h; subst h
    simp only [List.set_cons_zero, lookL, hy]
    by_cases hk : z.name = k
    · simp [hk]
    · rw [if_neg hk, if_neg (Ne.symm hk), if_neg hk]
  | z :: l, j + 1, hn, h => by
    simp only [List.map_cons, List.nodup_cons] at hn
    have h' : l[j]? = some x := by simpa using h
    have hx : x ∈ l := List.mem_of_getElem? h'
    simp only [List.set_cons_succ, lookL]
    rw [look_set hy hn.2 h']
    by_cases hk : z.name = k
    · have : k ≠ x.name := fun he => hn.1 (List.mem_map.2 ⟨x, hx, by rw [← he, hk]⟩)
      rw [if_pos hk, if_neg this, if_pos hk]
    · rw [if_neg hk, if_neg hk]
theorem Rep.put {l : List DF} {st st' : DSt} {j : Nat} {x y : DF} (h : Rep l st) (hj : l[j]? = some x) (hy : y.name = x.name) (hok : y.safe ≤ y.bs.length ∧ y.bs.length ≤ 16777216) (hf : st'.files = putV x.name (y.bs, y.safe) st.files) (hu : 0 ≤ st'.fuse ∧ st'.fuse ≤ 9223372036854775807) :
    Rep (l.set j y) st' := by
  refine ⟨?_, fun k => ?_, fun z hz => ?_, hu⟩
  · have : (l.set j y).map (·.name) = l.map (·.name) := by
      rw [List.map_set]
      apply List.ext_getElem?
      intro i
      rw [List.getElem?_set]
      by_cases hi : j = i
      · subst hi
        have := (List.getElem?_eq_some_iff.1 hj).1
        have hx : l[j] = x := (List.getElem?_eq_some_iff.1 hj).2
        simp [this, hy, hx]
      · simp [hi]
    rw [this]; exact h.nodup
  · rw [look_set hy h.nodup hj, hf, h.look]; rfl
  · rcases List.mem_or_eq_of_mem_set hz with hz | rfl
    · exact h.ok z hz
    · exact hok
theorem look_snoc {l : List DF} {y : DF} {k : ByteArray} (h : ∀ x ∈ l, x.name ≠ y.name) : lookL (l ++ [y]) k = if k = y.name then some (y.bs, y.safe) else lookL l k := by
  induction l with
  | nil => simp only [List.nil_append, lookL]; by_cases hk : y.name = k
           · simp [hk]
           · rw [if_neg hk, if_neg (Ne.symm hk)]
  | cons z l ih =>
    simp only [List.cons_append, lookL]
    rw [ih fun x hx => h x (List.mem_cons_of_mem _ hx)]
    by_cases hk : z.name = k
    · have : k ≠ y.name := fun he => h z (List.mem_cons_self ..) (by rw [hk, he])
      rw [if_pos hk, if_neg this, if_pos hk]
    · rw [if_neg hk, if_neg hk]
theorem Rep.add {l : List DF} {st st' : DSt} {y : DF} (h : Rep l st) (hn : st.files y.name = none) (hok : y.safe ≤ y.bs.length ∧ y.bs.length ≤ 16777216) (hf : st'.files = putV y.name (y.bs, y.safe) st.files) (hu : 0 ≤ st'.fuse ∧ st'.fuse ≤ 9223372036854775807) :
    Rep (l ++ [y]) st' := by
  have hno := h.no hn
  refine ⟨?_, fun k => ?_, fun z hz => ?_, hu⟩
  · rw [List.map_append, List.nodup_append]
    refine ⟨h.nodup, by simp, fun a ha b hb => ?_⟩
    obtain ⟨x, hx, rfl⟩ := List.mem_map.1 ha
    simp at hb; subst hb
    exact hno x hx
  · rw [look_snoc hno, hf, h.look]; rfl
  · rcases List.mem_append.1 hz with hz | hz
    · exact h.ok z hz
    · simp at hz; subst hz; exact hok
end Go.Proofs.YthljpljbpbkkcaaGreatDoor
end
section
set_option linter.unusedVariables false
set_option linter.unusedSimpArgs false
set_option maxRecDepth 4000
namespace Go.Proofs.YthljpljbpbkkcaaGreatDoor
open Go.Sl Go.RowKit

theorem ents_at {l : List DF} {j : Nat} {x : DF} (h : l[j]? = some x) : (ents l)[j]? = some (.string x.name, .pointer (some ⟨x.ptr, 0, none⟩)) := by simp [ents, h]
theorem ents_no {l : List DF} {nm : ByteArray} (h : ∀ x ∈ l, x.name ≠ nm) : ∀ p ∈ ents l, p.1 ≠ .string nm := by
  intro p hp
  simp only [ents, List.mem_map] at hp
  obtain ⟨x, hx, rfl⟩ := hp
  intro he
  exact h x hx (Value.string.inj he)
theorem disk_find_off {w0 : World} {R : List HProp} {d m : Nat} {st : DSt} {nm : ByteArray} (ho : st.off = true) :
    Fun Tryz.prog w0 83 [.pointer (some ⟨d, 0, none⟩), .string nm] (cel d (dcells m st) 68 :: R)
      (Ret w0 (fun _ : Unit => True) (fun _ => .tuple #[.pointer none, .int .i64 20]) (fun _ => cel d (dcells m st) 68 :: R)) := by
  unfold dcells
  rw [ho]
  refine Fun.enter Tryz.func83 rfl Tryz.ntmps83 rfl ?_
  refine WC.seq <| WC.region <| sv (vaP rfl) <| sv (vaI rfl) <| WL.nil <| WX.thenN <| WC.seq <| WC.seq <| WC.region <| sv (vmP rfl) <| sv (vpeqF Tryz.underlying24 rfl rfl) <| WL.nil <| WX.thenN <| ?_
  refine WC.ff rfl ?_
  refine WC.skip <| WX.thenN <| WC.seq <| WC.seq <| WC.region <| sv (vmP rfl) <| sv (vnil rfl) <| sv (vfld fl68f1 rfl) <| sv (vldc pl4 rfl) <| WL.nil <| WX.thenN <| ?_
  refine WC.tt rfl ?_
  exact WC.seq <| WC.region <| sv (vaP rfl) <| sv (vaI rfl) <| WL.nil <| WX.thenN <| WC.ret <| WX.thenR <| WX.ret2 rfl (()) (trivial) rfl (fun _ h => h)
theorem disk_find_none {w0 : World} {R : List HProp} {d m : Nat} {st : DSt} {nm : ByteArray} {l : List DF} (ho : st.off = false) (hl : ∀ x ∈ l, x.name ≠ nm) :
    Fun Tryz.prog w0 83 [.pointer (some ⟨d, 0, none⟩), .string nm] (cel d (dcells m st) 68 :: mp .string m (ents l) :: R)
      (Ret w0 (fun _ : Unit => True) (fun _ => .tuple #[.pointer none, .int .i64 21]) (fun _ => cel d (dcells m st) 68 :: mp .string m (ents l) :: R)) := by
  unfold dcells
  rw [ho]
  refine Fun.enter Tryz.func83 rfl Tryz.ntmps83 rfl ?_
  refine WC.seq <| WC.region <| sv (vaP rfl) <| sv (vaI rfl) <| WL.nil <| WX.thenN <| WC.seq <| WC.seq <| WC.region <| sv (vmP rfl) <| sv (vpeqF Tryz.underlying24 rfl rfl) <| WL.nil <| WX.thenN <| ?_
  refine WC.ff rfl ?_
  refine WC.skip <| WX.thenN <| WC.seq <| WC.seq <| WC.region <| sv (vmP rfl) <| sv (vnil rfl) <| sv (vfld fl68f1 rfl) <| sv (vldc pl4 rfl) <| WL.nil <| WX.thenN <| ?_
  refine WC.ff rfl ?_
  refine WC.skip <| WX.thenN <| WC.seq <| WC.region <| sv (vmP rfl) <| sv (vnil rfl) <| sv (vfld fl68f0 rfl) <| sv (vldc pl66 rfl) <| sv (vmT rfl) <| sv (vlkz Tryz.underlying66 Tryz.underlying9 zt73 rfl rfl trivial (ents_no hl)) <| sv (vaP rfl) <| WL.nil <| WX.thenN <| WC.seq <| WC.seq <| WC.region <| sv (vmP rfl) <| sv (vpeqT Tryz.underlying73 rfl rfl) <| WL.nil <| WX.thenN <| ?_
  refine WC.tt rfl ?_
  exact WC.seq <| WC.region <| sv (vaP rfl) <| sv (vaI rfl) <| WL.nil <| WX.thenN <| WC.ret <| WX.thenR <| WX.ret2 rfl (()) (trivial) rfl (fun _ h => h)
theorem disk_find {w0 : World} {R : List HProp} {d m : Nat} {st : DSt} {l : List DF} {x : DF} {j : Nat} (ho : st.off = false) (hl : l[j]? = some x) :
    Fun Tryz.prog w0 83 [.pointer (some ⟨d, 0, none⟩), .string x.name] (cel d (dcells m st) 68 :: mp .string m (ents l) :: R)
      (Ret w0 (fun _ : Unit => True) (fun _ => .tuple #[.pointer (some ⟨x.ptr, 0, none⟩), .int .i64 0]) (fun _ => cel d (dcells m st) 68 :: mp .string m (ents l) :: R)) := by
  unfold dcells
  rw [ho]
  refine Fun.enter Tryz.func83 rfl Tryz.ntmps83 rfl ?_
  refine WC.seq <| WC.region <| sv (vaP rfl) <| sv (vaI rfl) <| WL.nil <| WX.thenN <| WC.seq <| WC.seq <| WC.region <| sv (vmP rfl) <| sv (vpeqF Tryz.underlying24 rfl rfl) <| WL.nil <| WX.thenN <| ?_
  refine WC.ff rfl ?_
  refine WC.skip <| WX.thenN <| WC.seq <| WC.seq <| WC.region <| sv (vmP rfl) <| sv (vnil rfl) <| sv (vfld fl68f1 rfl) <| sv (vldc pl4 rfl) <| WL.nil <| WX.thenN <| ?_
  refine WC.ff rfl ?_
  refine WC.skip <| WX.thenN <| WC.seq <| WC.region <| sv (vmP rfl) <| sv (vnil rfl) <| sv (vfld fl68f0 rfl) <| sv (vldc pl66 rfl) <| sv (vmT rfl) <| sv (vlk Tryz.underlying66 Tryz.underlying9 rfl rfl trivial (ents_at hl)) <| sv (vaP rfl) <| WL.nil <| WX.thenN <| WC.seq <| WC.seq <| WC.region <| sv (vmP rfl) <| sv (vpeqF Tryz.underlying73 rfl rfl) <| WL.nil <| WX.thenN <| ?_
  refine WC.ff rfl ?_
  exact WC.skip <| WX.thenN <| WC.seq <| WC.region <| sv (vmP rfl) <| sv (vaP rfl) <| sv (vaI rfl) <| WL.nil <| WX.thenN <| WC.ret <| WX.ret2 rfl (()) (trivial) rfl (fun _ h => h)
theorem disk_find_bad {w0 : World} {R : List HProp} {d m : Nat} {st : DSt} {nm : ByteArray} {l : List DF} (hr : Rep l st) (hne : findE nm st ≠ 0) :
    Fun Tryz.prog w0 83 [.pointer (some ⟨d, 0, none⟩), .string nm] (cel d (dcells m st) 68 :: mp .string m (ents l) :: R)
      (Ret w0 (fun _ : Unit => True) (fun _ => .tuple #[.pointer none, .int .i64 (findE nm st)]) (fun _ => cel d (dcells m st) 68 :: mp .string m (ents l) :: R)) := by
  by_cases ho : st.off = true
  · have : findE nm st = 20 := by unfold findE; rw [if_pos ho]
    rw [this]; exact disk_find_off ho
  · have ho' : st.off = false := by simpa using ho
    have h2 : findE nm st = 21 ∧ st.files nm = none := by
      unfold findE at hne ⊢
      rw [if_neg ho] at hne ⊢
      cases hf : st.files nm with
      | none => simp
      | some v => simp [hf] at hne
    rw [h2.1]; exact disk_find_none ho' (hr.no h2.2)
end Go.Proofs.YthljpljbpbkkcaaGreatDoor
end
section
set_option linter.unusedVariables false
set_option linter.unusedSimpArgs false
set_option maxRecDepth 4000
namespace Go.Proofs.YthljpljbpbkkcaaGreatDoor
open Go.Sl Go.RowKit

section
variable {w0 : World} {R : List HProp} {d m : Nat} {st : DSt} {ι κ : Type} {pr : ι → Prop} {post : ι → List HProp} {pr2 : κ → Prop} {post2 : κ → List HProp} {fdo fl : FuncId} {capdo capl : List Value} {vl : Value}
theorem disk_deed (hne : st.fuse - 1 ≠ 0) (hb : -9223372036854775808 ≤ st.fuse - 1 ∧ st.deeds + 1 ≤ 9223372036854775807) (hb2 : -9223372036854775808 ≤ st.deeds + 1 ∧ st.fuse - 1 ≤ 9223372036854775807) (hct : callT Tryz.prog fdo = true)
    (hdo : Fun Tryz.prog w0 fdo capdo (cel d (dcells m { st with deeds := st.deeds + 1, fuse := max (st.fuse - 1) 0 }) 68 :: R) (Ret w0 pr (fun _ => .tuple #[]) post)) :
    Fun Tryz.prog w0 32 [.pointer (some ⟨d, 0, none⟩), .func (.func fdo) #[] capdo.toArray, .func (.func fl) #[] capl.toArray] (cel d (dcells m st) 68 :: R)
      (Ret w0 pr (fun _ => .int .i64 0) post) := by
  refine Fun.enter Tryz.func32 rfl Tryz.ntmps32 rfl ?_
  refine WC.seq <| WC.region <| sv (vaI rfl) <| WL.nil <| WX.thenN <| WC.seq <| WC.region <| sv (vmP rfl) <| sv (vnil rfl) <| sv (vfld fl68f4 rfl) <| sv (vldc pl3 rfl) <| sv (vadd rfl rfl (by omega)) <| sv (vnil rfl) <| sv (vfld fl68f4 rfl) <| stc (v := .int _ _) pl3 sz3 rfl rfl rfl <| WL.nil <| WX.thenN <| WC.seq <| WC.seq <| WC.region <| sv (vmP rfl) <| sv (vnil rfl) <| sv (vfld fl68f2 rfl) <| sv (vldc pl3 rfl) <| sv (vsub rfl rfl (by omega)) <| sv (vnil rfl) <| sv (vfld fl68f2 rfl) <| stc (v := .int _ _) pl3 sz3 rfl rfl rfl <| WL.nil <| WX.thenN <| WC.seq <| WC.region <| sv (vmP rfl) <| sv (vnil rfl) <| sv (vfld fl68f2 rfl) <| sv (vldc pl3 rfl) <| sv (veq rfl rfl) <| WL.nil <| WX.thenN <| ?_
  refine WC.ite rfl (fun h1 => ?_) (fun h1 => ?_)
  · -- then
    exact absurd h1 hne
  · -- else
    exact WC.skip <| WX.thenN <| WC.seq <| WC.region <| sv (vmP rfl) <| sv (vmP rfl) <| sv (vnil rfl) <| sv (vfld fl68f2 rfl) <| sv (vldc pl3 rfl) <| sv (vmax rfl rfl) <| sv (vnil rfl) <| sv (vfld fl68f2 rfl) <| stc (v := .int _ _) pl3 sz3 rfl rfl rfl <| WL.nil <| WX.thenN <| WC.seq <| WC.region <| sv (vmF rfl) <| clv hdo hct rfl rfl fun i hi =>WL.nil <| WX.thenN <| WC.seq <| WC.region <| sv (vaI rfl) <| WL.nil <| WX.thenN <| WC.ret <| WX.ret1 rfl (i) (hi) rfl (fun _ h => h)
theorem disk_deed_fuse (he : st.fuse - 1 = 0) (hb : -9223372036854775808 ≤ st.deeds + 1 ∧ st.deeds + 1 ≤ 9223372036854775807) (hct : callT Tryz.prog fl = true)
    (hlate : Fun Tryz.prog w0 fl capl (cel d (dcells m { st with deeds := st.deeds + 1, fuse := 0 }) 68 :: R) (Ret w0 pr (fun _ => .tuple #[]) (fun i => cel d (dcells m { st with deeds := st.deeds + 1, fuse := 0 }) 68 :: post i)))
    (hoff : ∀ i, pr i → Fun Tryz.prog w0 24 [.pointer (some ⟨d, 0, none⟩), .int .i64 st.keep] (cel d (dcells m { st with deeds := st.deeds + 1, fuse := 0 }) 68 :: post i) (Ret w0 pr2 (fun _ => .tuple #[]) post2)) :
    Fun Tryz.prog w0 32 [.pointer (some ⟨d, 0, none⟩), .func (.func fdo) #[] capdo.toArray, .func (.func fl) #[] capl.toArray] (cel d (dcells m st) 68 :: R)
      (Ret w0 pr2 (fun _ => .int .i64 20) post2) := by
  have hf : st.fuse = 1 := by omega
  unfold dcells at *
  rw [hf]
  refine Fun.enter Tryz.func32 rfl Tryz.ntmps32 rfl ?_
  refine WC.seq <| WC.region <| sv (vaI rfl) <| WL.nil <| WX.thenN <| WC.seq <| WC.region <| sv (vmP rfl) <| sv (vnil rfl) <| sv (vfld fl68f4 rfl) <| sv (vldc pl3 rfl) <| sv (vadd rfl rfl (by omega)) <| sv (vnil rfl) <| sv (vfld fl68f4 rfl) <| stc (v := .int _ _) pl3 sz3 rfl rfl rfl <| WL.nil <| WX.thenN <| WC.seq <| WC.seq <| WC.region <| sv (vmP rfl) <| sv (vnil rfl) <| sv (vfld fl68f2 rfl) <| sv (vldc pl3 rfl) <| sv (vsub rfl rfl (by omega)) <| sv (vnil rfl) <| sv (vfld fl68f2 rfl) <| stc (v := .int _ _) pl3 sz3 rfl rfl rfl <| WL.nil <| WX.thenN <| WC.seq <| WC.region <| sv (vmP rfl) <| sv (vnil rfl) <| sv (vfld fl68f2 rfl) <| sv (vldc pl3 rfl) <| sv (veq rfl rfl) <| WL.nil <| WX.thenN <| ?_
  refine WC.tt rfl ?_
  exact WC.seq <| WC.region <| sv (vmF rfl) <| clv hlate hct rfl rfl fun i hi =>WL.nil <| WX.thenN <| WC.seq <| WC.region <| sv (vmP rfl) <| sv (vmP rfl) <| sv (vnil rfl) <| sv (vfld fl68f3 rfl) <| sv (vldc pl3 rfl) <| cl (hoff i hi) ct24 rfl fun j hj => WL.nil <| WX.thenN <| WC.seq <| WC.region <| sv (vaI rfl) <| WL.nil <| WX.thenN <| WC.ret <| WX.thenR <| WX.ret1 rfl (j) (hj) rfl (fun _ h => h)
end
end Go.Proofs.YthljpljbpbkkcaaGreatDoor
end
section
set_option linter.unusedVariables false
set_option linter.unusedSimpArgs false
set_option maxRecDepth 4000
namespace Go.Proofs.YthljpljbpbkkcaaGreatDoor
open Go.Sl Go.RowKit

theorem disk_sync_do {w0 : World} {R : List HProp} {v f k c : Nat} {base : Option Addr} {s : Int} :
    Fun Tryz.prog w0 120 [.pointer (some ⟨v, 0, none⟩)] (cel f [.slice base k c, .int .i64 s] 75 :: cel v [.pointer (some ⟨f, 0, none⟩)] 73 :: R)
      (Ret w0 (fun _ : Unit => True) (fun _ => .tuple #[]) (fun _ => cel f [.slice base k c, .int .i64 k] 75 :: cel v [.pointer (some ⟨f, 0, none⟩)] 73 :: R)) := by
  refine Fun.enter Tryz.func120 rfl Tryz.ntmps120 rfl ?_
  exact WC.plan (.bar [0, 1, 2, 3, 4, 5, 6, 7] 8 (.done [])) rfl (by kernel_rfl) <| WPl.bar (trivial) <| dv (fun g => (vldc pl73 rfl)) <| dv (fun g => (vldc pl73 rfl)) <| dv (fun g => (vnil rfl)) <| dv (fun g => (vfld fl75f0 rfl)) <| dv (fun g => (vldc pl23 rfl)) <| dv (fun g => (vlen Tryz.underlying23 rfl)) <| dv (fun g => (vnil rfl)) <| dv (fun g => (vfld fl75f1 rfl)) <| WD.eff rfl <| stc (v := .int _ _) pl3 sz3 rfl rfl rfl <| WL.nil <| WX.brT <| WPl.fin (trivial) <| WD.nil <| WX.end0 rfl (()) (trivial) rfl (fun _ h => h)
theorem disk_sync_late {w0 : World} {A : List HProp} : Fun Tryz.prog w0 121 [] A (Ret w0 (fun _ : Unit => True) (fun _ => .tuple #[]) (fun _ => A)) := by
  refine Fun.enter Tryz.func121 rfl Tryz.ntmps121 rfl ?_
  exact WC.skip <| WX.end0 rfl (()) (trivial) rfl (fun _ h => h)
end Go.Proofs.YthljpljbpbkkcaaGreatDoor
end
section
set_option linter.unusedVariables false
set_option linter.unusedSimpArgs false
set_option maxRecDepth 4000
namespace Go.Proofs.YthljpljbpbkkcaaGreatDoor
open Go.Sl Go.RowKit

def cutF (keep : Int) (x : DF) : DF := { x with bs := x.bs.take (keptOf keep (x.bs, x.safe)), safe := keptOf keep (x.bs, x.safe) }
instance memDec (n : ByteArray) (ns : List ByteArray) : Decidable (n ∈ ns) := decidable_of_iff (ns.any (fun k => decide (k = n)) = true) (by simp)
def cutL (keep : Int) (ns : List ByteArray) (l : List DF) : List DF := l.map fun (x : DF) => if x.name ∈ ns then cutF keep x else x
theorem ents_cut (keep : Int) (ns : List ByteArray) (l : List DF) : ents (cutL keep ns l) = ents l := by
  unfold ents cutL
  rw [List.map_map]
  apply List.map_congr_left
  intro x _
  simp only [Function.comp]
  split <;> rfl
theorem disk_off_off {w0 : World} {A : List HProp} {d : Nat} {st : DSt} {keep : Int} (ho : st.off = true) :
    Fun Tryz.prog w0 24 [.pointer (some ⟨d, 0, none⟩), .int .i64 keep] (pdisk d st :: A) (Ret w0 (fun _ : Unit => True) (fun _ => .tuple #[]) (fun _ => pdisk d st :: A)) := by
  refine Fun.ex (fun w h => pdisk_open h) ?_
  rintro ⟨m, l⟩ hl
  dsimp only at hl ⊢
  refine Fun.enter Tryz.func24 rfl Tryz.ntmps24 rfl ?_
  refine WC.seq <| ?_
  refine WC.cut0 [(14, .bool true)] [(0, .pointer _), (1, .int _ _)] (cel d (dcells m st) 68 :: mp .string m (ents l) :: pfiles l :: A) ⟨rfl, rfl, trivial⟩ ?_ fun ρh => ?_
  · -- disk.go:140
    exact WC.region <| sv (vmP rfl) <| sv (vpeqF Tryz.underlying24 rfl rfl) <| sv (vmB rfl) <| svg rfl (vmP rfl) <| svg rfl (vnil rfl) <| svg rfl (vfld fl68f1 rfl) <| svg rfl (vldc pl4 rfl) <| sv (vpkf rfl) <| WL.nil <| WX.mid () trivial ⟨(by rw [ho]; rfl), trivial⟩ ⟨rfl, rfl, trivial⟩ (fun _ h => h)
  refine WC.tt rfl ?_
  exact WC.ret <| WX.thenR <| WX.ret0 rfl (()) (trivial) rfl (fun w h => pdisk_mk hl h)
theorem cutL_at {keep : Int} {ns : List ByteArray} {l : List DF} {j : Nat} {x : DF} (h : l[j]? = some x) (hn : x.name ∉ ns) : (cutL keep ns l)[j]? = some x := by
  simp [cutL, h, hn]
theorem cutL_set {keep : Int} {ns : List ByteArray} {l : List DF} {j : Nat} {x : DF} (hnd : (l.map (·.name)).Nodup) (h : l[j]? = some x) : cutL keep (x.name :: ns) l = (cutL keep ns l).set j (cutF keep x) := by
  apply List.ext_getElem?
  intro i
  unfold cutL
  rw [List.getElem?_set, List.getElem?_map, List.getElem?_map]
  by_cases hij : j = i
  · subst hij
    have hl : j < l.length := (List.getElem?_eq_some_iff.1 h).1
    have hx : l[j] = x := (List.getElem?_eq_some_iff.1 h).2
    simp [h, hl, hx]
  · simp only [hij, if_false]
    cases hi : l[i]? with
    | none => rfl
    | some y =>
      have hne : y.name ≠ x.name := fun he => hij (by
        have g1 : (l.map (·.name))[j]? = some x.name := by simp [h]
        have g2 : (l.map (·.name))[i]? = some x.name := by simp [hi, he]
        exact (List.getElem?_inj (by simpa using (List.getElem?_eq_some_iff.1 h).1) hnd).1 (g1.trans g2.symm))
      simp [hne]
theorem cutL_all {keep : Int} {ns ms : List ByteArray} {l : List DF} (h : ∀ x ∈ l, (x.name ∈ ns ↔ x.name ∈ ms)) : cutL keep ns l = cutL keep ms l := by
  unfold cutL
  apply List.map_congr_left
  intro x hx
  simp only [h x hx]
theorem sub_len {α : Type} {ns l : List α} (hn : ns.Nodup) (hs : ∀ n ∈ ns, n ∈ l) : ns.length ≤ l.length := hn.length_le_of_subset hs
theorem cutL_len {keep : Int} {ns : List ByteArray} {l : List DF} : (cutL keep ns l).length = l.length := by simp [cutL]
theorem cutL_nil {keep : Int} {l : List DF} : cutL keep [] l = l := by simp [cutL]
theorem disk_off_on {w0 : World} {A : List HProp} {d m : Nat} {st : DSt} {keep : Int} {l : List DF} (ho : st.off = false) (hok : ∀ x ∈ l, x.safe ≤ x.bs.length ∧ x.bs.length ≤ 16777216) (hnd : (l.map (·.name)).Nodup) :
    Fun Tryz.prog w0 24 [.pointer (some ⟨d, 0, none⟩), .int .i64 keep] (cel d (dcells m st) 68 :: mp .string m (ents l) :: pfiles l :: A)
      (Ret w0 (fun _ : Unit => True) (fun _ => .tuple #[]) (fun _ => cel d (dcells m { st with off := true }) 68 :: mp .string m (ents l) :: pfiles (cutL keep (l.map (·.name)) l) :: A)) := by
  refine Fun.enter Tryz.func24 rfl Tryz.ntmps24 rfl ?_
  refine WC.seq <| ?_
  refine WC.cut0 [(14, .bool false)] [(0, .pointer _), (1, .int _ _)] (cel d (dcells m st) 68 :: mp .string m (ents l) :: pfiles l :: A) ⟨rfl, rfl, trivial⟩ ?_ fun ρh => ?_
  · -- disk.go:140
    exact WC.region <| sv (vmP rfl) <| sv (vpeqF Tryz.underlying24 rfl rfl) <| sv (vmB rfl) <| svg rfl (vmP rfl) <| svg rfl (vnil rfl) <| svg rfl (vfld fl68f1 rfl) <| svg rfl (vldc pl4 rfl) <| sv (vpkf rfl) <| WL.nil <| WX.mid () trivial ⟨(by rw [ho]; rfl), trivial⟩ ⟨rfl, rfl, trivial⟩ (fun _ h => h)
  refine WC.ff rfl ?_
  refine WC.skip <| WX.thenN <| WC.seq <| WC.region <| sv (vmP rfl) <| sv (vnil rfl) <| sv (vfld fl68f1 rfl) <| stc (v := .bool _) pl4 sz4 rfl rfl rfl <| WL.nil <| WX.thenN <| WC.seq <| WC.region <| sv (vmP rfl) <| sv (vnil rfl) <| sv (vfld fl68f0 rfl) <| sv (vldc pl66 rfl) <| pm (fun _ h => h.pk1) <| rgm Tryz.underlying66 rfl fun it5 => WL.nil <| WX.thenN <| WC.block <| ?_
  refine WC.loop (ι := List ByteArray) (fun i => []) [(1, .int _ _), (22, _)] (fun i => mr .string m (ents l) it5 (i.map Value.string) :: cel d (dcells m { st with off := true }) 68 :: pfiles (cutL keep i l) :: A) (fun i => i.Nodup ∧ ∀ n ∈ i, n ∈ l.map (·.name)) (fun i => l.length - i.length) ([]) (⟨by simp, by simp⟩) trivial ⟨rfl, rfl, trivial⟩ (fun w h => by rw [cutL_nil]; exact h) ?_
  intro ns hns ρh
  refine WC.seq <| WC.region <| nxm rfl (fun k6 v6 hk6 hv6 => ?_) (fun hall6 => ?_)
  ·
    obtain ⟨x, hx, hxe⟩ := List.mem_map.1 hk6
    cases hxe
    obtain ⟨j, hj⟩ := List.mem_iff_getElem?.1 hx
    have hxn : x.name ∉ ns := fun h => hv6 (List.mem_map.2 ⟨_, h, rfl⟩)
    have hxok := hok x hx
    have hcj := cutL_at (keep := keep) hj hxn
    refine WL.ex (fun w h => pfile_open (pfiles_out hcj h.pk2)) ?_
    rintro ⟨base, c⟩ hc
    dsimp only at hc ⊢
    have hK : (x.safe : Int) + min (max keep 0) ((x.bs.length : Int) - (x.safe : Int)) = (keptOf keep (x.bs, x.safe) : Int) := by unfold keptOf; dsimp only; omega
    have hKl : keptOf keep (x.bs, x.safe) ≤ x.bs.length := by unfold keptOf; dsimp only; omega
    refine sv (vex rfl rfl) <| WL.nil <| WX.thenN <| WC.seq <| ?_
    refine WC.tt rfl ?_
    refine WC.skip <| WX.thenN <| WC.block <| WC.seq <| WC.region <| pm (fun _ h => h.pk3) <| sv (ven rfl hk6) <| sv (vex rfl rfl) <| sv (vaP rfl) <| WL.nil <| WX.thenN <| WC.seq <| WC.draws rfl (by kernel_rfl) <| qv (vmP rfl) <| qv (vnil rfl) <| qv (vfld fl75f1 rfl) <| qv (vldc pl3 rfl) <| qv (vmI rfl) <| qv (vmax rfl rfl) <| qv (vmP rfl) <| qv (vnil rfl) <| qv (vfld fl75f0 rfl) <| qv (vldc pl23 rfl) <| qv (vlen Tryz.underlying23 rfl) <| qv (vmP rfl) <| qv (vnil rfl) <| qv (vfld fl75f1 rfl) <| qv (vldc pl3 rfl) <| qv (vsub rfl rfl (by omega)) <| qv (vmin rfl rfl) <| qv (vadd rfl rfl (by omega)) <| qv (vaI rfl) <| WQ.nil <| WX.thenN <| WC.seq <| WC.region <| sv (vmP rfl) <| sv (vmP rfl) <| sv (vnil rfl) <| sv (vfld fl75f0 rfl) <| sv (vldc pl23 rfl) <| sv (vmI rfl) <| sv (vmI rfl) <| sv (vslHM Tryz.underlying23 sz5 rfl rfl rfl (by omega) (by omega) (by omega)) <| sv (vnil rfl) <| sv (vfld fl75f0 rfl) <| pm (fun _ h => h.pk1) <| stc (v := .slice _ _ _) pl23 sz23 rfl rfl rfl <| WL.nil <| WX.thenN <| WC.region <| sv (vmP rfl) <| sv (vmI rfl) <| sv (vnil rfl) <| sv (vfld fl75f1 rfl) <| stc (v := .int _ _) pl3 sz3 rfl rfl rfl <| WL.nil <| WX.blockN <| WX.again (x.name :: ns) (⟨List.nodup_cons.2 ⟨hxn, hns.1⟩, fun n hn => by rcases List.mem_cons.1 hn with rfl | hn; exact List.mem_map.2 ⟨_, hx, rfl⟩; exact hns.2 n hn⟩) (by have := sub_len (List.nodup_cons.2 ⟨hxn, hns.1⟩) (l := l.map (·.name)) (fun n hn => by rcases List.mem_cons.1 hn with rfl | hn; exact List.mem_map.2 ⟨_, hx, rfl⟩; exact hns.2 n hn); simp at this; simp; omega) trivial ⟨rfl, rfl, trivial⟩ (fun w h => ?_)
    rw [cutL_set hnd hj]
    rw [hK] at h
    have h1 := h.pk2.row_cut (k := keptOf keep (x.bs, x.safe)) (by omega) (by rw [u8s_length]; omega)
    have hbl : (x.bs.take (keptOf keep (x.bs, x.safe))).length = keptOf keep (x.bs, x.safe) := by rw [List.length_take]; omega
    rw [Int.toNat_natCast, Nat.mul_one, u8s_take] at h1
    have h2 := h1.pk1
    have h3 := pfile_mk (bs := x.bs.take (keptOf keep (x.bs, x.safe))) (base := base) (c := keptOf keep (x.bs, x.safe)) (by omega) (by rw [hbl]; exact h2)
    exact (pfiles_set hcj (y := cutF keep x) (h3.pk2.pk1)).pk2.pk2
  ·
    refine sv (vex rfl rfl) <| WL.nil <| WX.thenN <| WC.seq <| ?_
    refine WC.ff rfl ?_
    refine WC.exit <| WX.thenE <| WX.thenE <| WX.blockH <| WX.end0 rfl (()) (trivial) rfl (fun w h => ?_)
    have h2 := h.mr_mp.pk1
    rw [cutL_all (ms := ns) fun x hx => ⟨fun _ => by have := hall6 _ (List.mem_map.2 ⟨x, hx, rfl⟩); simpa using this, fun _ => List.mem_map.2 ⟨x, hx, rfl⟩⟩]
    exact h2
theorem look_cut {keep : Int} {k : ByteArray} {l : List DF} : lookL (l.map (cutF keep)) k = (lookL l k).map (offV keep) := by
  induction l with
  | nil => rfl
  | cons z l ih =>
    simp only [List.map_cons, lookL]
    rw [ih]
    show (if z.name = k then _ else _) = _
    split <;> rfl
theorem cutL_map {keep : Int} {l : List DF} : cutL keep (l.map (·.name)) l = l.map (cutF keep) := by
  unfold cutL
  apply List.map_congr_left
  intro x hx
  rw [if_pos (List.mem_map.2 ⟨x, hx, rfl⟩)]
theorem Rep.offm {keep : Int} {l : List DF} {st : DSt} (h : Rep l st) (ho : st.off = false) : Rep (cutL keep (l.map (·.name)) l) (offS keep st) := by
  rw [cutL_map]
  have ho' : ¬ st.off = true := by rw [ho]; decide
  unfold offS
  rw [if_neg ho']
  refine ⟨?_, fun k => ?_, fun z hz => ?_, h.fuse⟩
  · rw [List.map_map]; exact h.nodup
  · rw [look_cut, h.look]
  · obtain ⟨x, hx, rfl⟩ := List.mem_map.1 hz
    have := h.ok x hx
    simp only [cutF, keptOf, List.length_take]
    omega
theorem disk_off {w0 : World} {A : List HProp} {d m : Nat} {st : DSt} {keep : Int} {l : List DF} (hr : Rep l st) :
    Fun Tryz.prog w0 24 [.pointer (some ⟨d, 0, none⟩), .int .i64 keep] (cel d (dcells m st) 68 :: mp .string m (ents l) :: pfiles l :: A) (Ret w0 (fun _ : Unit => True) (fun _ => .tuple #[]) (fun _ => pdisk d (offS keep st) :: A)) := by
  cases ho : st.off with
  | true =>
    have he : offS keep st = st := by unfold offS; rw [if_pos ho]
    rw [he]
    exact (disk_off_off (A := A) ho).perm fun w h => pdisk_mk hr h
  | false =>
    refine (disk_off_on ho hr.ok hr.nodup).mono fun e w ⟨i, hi, he, hO⟩ => ⟨i, hi, he, ?_⟩
    have hs : ({ st with off := true } : DSt).off = (offS keep st).off ∧ (offS keep st).fuse = st.fuse ∧ (offS keep st).keep = st.keep ∧ (offS keep st).deeds = st.deeds := by
      unfold offS; rw [ho]; exact ⟨rfl, rfl, rfl, rfl⟩
    refine pdisk_mk (m := m) (hr.offm ho) ?_
    rw [ents_cut]
    unfold dcells at hO ⊢
    rw [← hs.1, hs.2.1, hs.2.2.1, hs.2.2.2]
    exact hO
end Go.Proofs.YthljpljbpbkkcaaGreatDoor
end
section
set_option linter.unusedVariables false
set_option linter.unusedSimpArgs false
set_option maxRecDepth 4000
namespace Go.Proofs.YthljpljbpbkkcaaGreatDoor
open Go.Sl Go.RowKit

section
variable {w0 : World} {R : List HProp} {d m : Nat} {st : DSt} {fdo fl : FuncId} {capdo capl : List Value} {postdo postl post2 : List HProp}
theorem disk_deed_any (hu : 0 ≤ st.fuse ∧ st.fuse ≤ 9223372036854775807) (hd : 0 ≤ st.deeds ∧ st.deeds + 1 ≤ 9223372036854775807) (hct : callT Tryz.prog fdo = true) (hctl : callT Tryz.prog fl = true)
    (hdo : st.fuse - 1 ≠ 0 → Fun Tryz.prog w0 fdo capdo (cel d (dcells m { st with deeds := st.deeds + 1, fuse := max (st.fuse - 1) 0 }) 68 :: R) (Ret w0 (fun _ : Unit => True) (fun _ => .tuple #[]) (fun _ => postdo)))
    (hlate : st.fuse - 1 = 0 → Fun Tryz.prog w0 fl capl (cel d (dcells m { st with deeds := st.deeds + 1, fuse := 0 }) 68 :: R) (Ret w0 (fun _ : Unit => True) (fun _ => .tuple #[]) (fun _ => cel d (dcells m { st with deeds := st.deeds + 1, fuse := 0 }) 68 :: postl)))
    (hoff : st.fuse - 1 = 0 → Fun Tryz.prog w0 24 [.pointer (some ⟨d, 0, none⟩), .int .i64 st.keep] (cel d (dcells m { st with deeds := st.deeds + 1, fuse := 0 }) 68 :: postl) (Ret w0 (fun _ : Unit => True) (fun _ => .tuple #[]) (fun _ => post2))) :
    Fun Tryz.prog w0 32 [.pointer (some ⟨d, 0, none⟩), .func (.func fdo) #[] capdo.toArray, .func (.func fl) #[] capl.toArray] (cel d (dcells m st) 68 :: R)
      (Ret w0 (fun _ : Unit => True) (fun _ => .int .i64 (if st.fuse - 1 = 0 then 20 else 0)) (fun _ => if st.fuse - 1 = 0 then post2 else postdo)) := by
  by_cases hf : st.fuse - 1 = 0
  · rw [if_pos hf]
    simp only [if_pos hf]
    exact disk_deed_fuse hf (by omega) hctl (hlate hf) (fun _ _ => hoff hf)
  · rw [if_neg hf]
    simp only [if_neg hf]
    exact disk_deed hf (by omega) (by omega) hct (hdo hf)
end
theorem disk_sync_bad {w0 : World} {R : List HProp} {d m : Nat} {st : DSt} {nm : ByteArray} {l : List DF} (hr : Rep l st) (hne : findE nm st ≠ 0) :
    Fun Tryz.prog w0 100 [.pointer (some ⟨d, 0, none⟩), .string nm] (cel d (dcells m st) 68 :: mp .string m (ents l) :: R)
      (Ret w0 (fun _ : Unit => True) (fun _ => .int .i64 (findE nm st)) (fun _ => cel d (dcells m st) 68 :: mp .string m (ents l) :: R)) := by
  refine Fun.enter Tryz.func100 rfl Tryz.ntmps100 rfl ?_
  refine WC.seq <| WC.region <| sv (vaI rfl) <| WL.nil <| WX.thenN <| WC.seq <| WC.region <| sv (vmP rfl) <| sv (vmT rfl) <| cl (disk_find_bad hr hne) ct83 rfl fun u hu => sv vmv <| sv (vex rfl rfl) <| sv (vex rfl rfl) <| alz (cs := [.pointer none]) zt73 (by rfl) fun b2 => stc (v := .pointer _) pl73 sz73 rfl rfl rfl <| sv (vaI rfl) <| WL.nil <| WX.thenN <| WC.seq <| WC.seq <| WC.region <| sv (vmI rfl) <| sv (vne rfl rfl) <| WL.nil <| WX.thenN <| ?_
  refine WC.ite rfl (fun h1 => ?_) (fun h1 => ?_)
  · -- then
    exact WC.seq <| WC.region <| sv (vmI rfl) <| sv (vaI rfl) <| WL.nil <| WX.thenN <| WC.ret <| WX.thenR <| WX.ret1 rfl (()) (trivial) rfl (fun w h => h.tail)
  · -- else
    exact absurd h1 (by simpa using hne)
theorem sync_do {w0 : World} {A : List HProp} {d m v j : Nat} {st st' : DSt} {l : List DF} {x : DF} (hr : Rep l st) (hj : l[j]? = some x) (hu : 0 ≤ st'.fuse ∧ st'.fuse ≤ 9223372036854775807) (hf : st'.files = putV x.name (x.bs, x.bs.length) st.files) :
    Fun Tryz.prog w0 120 [.pointer (some ⟨v, 0, none⟩)] (cel d (dcells m st') 68 :: cel v [.pointer (some ⟨x.ptr, 0, none⟩)] 73 :: mp .string m (ents l) :: pfiles l :: A)
      (Ret w0 (fun _ : Unit => True) (fun _ => .tuple #[]) (fun _ => pdisk d st' :: A)) := by
  refine Fun.ex (fun w h => pfile_open (pfiles_out hj (h.ix [3, 0, 1, 2]))) ?_
  rintro ⟨base, c⟩ hc
  dsimp only at hc ⊢
  refine Fun.mono (Fun.perm disk_sync_do fun w h => h.ix [0, 4, 1, 2, 3, 5]) fun e w ⟨i, hi, he, hO⟩ => ⟨i, hi, he, ?_⟩
  have h1 := pfile_mk (bs := x.bs) (safe := x.bs.length) hc (hO.ix [0, 2, 1, 3, 4, 5])
  have h2 := pfiles_set (y := ⟨x.name, x.ptr, x.bs, x.bs.length⟩) hj (h1.ix [0, 2, 1, 3, 4])
  refine pdisk_mk (m := m) (l := l.set j ⟨x.name, x.ptr, x.bs, x.bs.length⟩) (hr.put hj rfl ⟨Nat.le_refl _, (hr.ok x (List.mem_of_getElem? hj)).2⟩ hf hu) ?_
  rw [ents_set (y := ⟨x.name, x.ptr, x.bs, x.bs.length⟩) hj rfl rfl]
  exact (h2.ix [2, 3, 0, 1]).perm (List.Perm.refl _) |>.ix [3, 0, 1, 2] |>.tail
theorem sync_off {w0 : World} {A : List HProp} {d m v : Nat} {st : DSt} {l : List DF} {cs : List Value} (hr : Rep l st) :
    Fun Tryz.prog w0 24 [.pointer (some ⟨d, 0, none⟩), .int .i64 st.keep] (cel d (dcells m { st with deeds := st.deeds + 1, fuse := 0 }) 68 :: cel v cs 73 :: mp .string m (ents l) :: pfiles l :: A)
      (Ret w0 (fun _ : Unit => True) (fun _ => .tuple #[]) (fun _ => pdisk d (offS st.keep { st with deeds := st.deeds + 1, fuse := 0 }) :: A)) :=
  Fun.mono (Fun.perm (disk_off (A := cel v cs 73 :: A) (hr.same (st' := { st with deeds := st.deeds + 1, fuse := 0 }) rfl (by simp))) fun w h => h.ix [0, 2, 3, 1]) fun e w ⟨i, hi, he, hO⟩ => ⟨i, hi, he, hO.pk1.tail⟩
theorem disk_sync_ok {w0 : World} {A : List HProp} {d m j : Nat} {st : DSt} {l : List DF} {x : DF} (hr : Rep l st) (hj : l[j]? = some x) (ho : st.off = false) (hd : 0 ≤ st.deeds ∧ st.deeds + 1 ≤ 9223372036854775807) :
    Fun Tryz.prog w0 100 [.pointer (some ⟨d, 0, none⟩), .string x.name] (cel d (dcells m st) 68 :: mp .string m (ents l) :: pfiles l :: A)
      (Ret w0 (fun _ : Unit => True) (fun _ => .int .i64 (if st.fuse - 1 = 0 then 20 else 0)) (fun _ => if st.fuse - 1 = 0 then pdisk d (offS st.keep { st with deeds := st.deeds + 1, fuse := 0 }) :: A
        else pdisk d { st with deeds := st.deeds + 1, fuse := max (st.fuse - 1) 0, files := putV x.name (x.bs, x.bs.length) st.files } :: A)) := by
  refine Fun.enter Tryz.func100 rfl Tryz.ntmps100 rfl ?_
  refine WC.seq <| WC.region <| sv (vaI rfl) <| WL.nil <| WX.thenN <| WC.seq <| WC.region <| sv (vmP rfl) <| sv (vmT rfl) <| cl (disk_find ho hj) ct83 rfl fun u hu => sv vmv <| sv (vex rfl rfl) <| sv (vex rfl rfl) <| alz (cs := [.pointer none]) zt73 (by rfl) fun b2 => stc (v := .pointer _) pl73 sz73 rfl rfl rfl <| sv (vaI rfl) <| WL.nil <| WX.thenN <| WC.seq <| WC.seq <| WC.region <| sv (vmI rfl) <| sv (vne rfl rfl) <| WL.nil <| WX.thenN <| ?_
  refine WC.ite rfl (fun h1 => ?_) (fun h1 => ?_)
  · -- then
    exact absurd rfl h1
  · -- else
    exact WC.skip <| WX.thenN <| WC.seq <| WC.region <| sv (vmP rfl) <| sv (vfn rfl) <| pm (fun _ h => h.pk1) <| cl (disk_deed_any hr.fuse hd ct120 ct121 (fun _ => sync_do (st' := { st with deeds := st.deeds + 1, fuse := max (st.fuse - 1) 0, files := putV x.name (x.bs, x.bs.length) st.files }) hr hj (by have := hr.fuse; dsimp only; omega) rfl) (fun _ => disk_sync_late) (fun _ => sync_off hr)) ct32 rfl fun u2 hu2 => sv (vaI rfl) <| WL.nil <| WX.thenN <| WC.ret <| WX.ret1 rfl (()) (trivial) rfl (fun _ h => h)
theorem disk_sync {w0 : World} {A : List HProp} {d : Nat} {st : DSt} {nm : ByteArray} (hd : 0 ≤ st.deeds ∧ st.deeds + 1 ≤ 9223372036854775807) :
    Fun Tryz.prog w0 100 [.pointer (some ⟨d, 0, none⟩), .string nm] (pdisk d st :: A)
      (Ret w0 (fun _ : Unit => True) (fun _ => .int .i64 (syncS nm st).2) (fun _ => pdisk d (syncS nm st).1 :: A)) := by
  refine Fun.ex (fun w h => pdisk_open h) ?_
  rintro ⟨m, l⟩ hl
  dsimp only at hl ⊢
  by_cases hne : findE nm st = 0
  · have ho : st.off = false := by
      cases ho : st.off with
      | false => rfl
      | true => simp [findE, ho] at hne
    cases hf : st.files nm with
    | none => simp [findE, ho, hf] at hne
    | some v =>
      obtain ⟨j, x, hj, rfl, rfl⟩ := hl.at hf
      have hk : syncS x.name st = deedS (putV x.name (x.bs, x.bs.length)) id st := by unfold syncS; rw [if_neg (by rw [ho]; decide), hf]
      refine (disk_sync_ok hl hj ho hd).mono fun e w ⟨i, hi, he, hO⟩ => ⟨i, hi, ?_, ?_⟩
      · rw [he, hk]; unfold deedS; split <;> rfl
      · rw [hk]; unfold deedS
        dsimp only at hO
        split at hO
        · rename_i h; rw [if_pos h]; exact hO
        · rename_i h; rw [if_neg h]; exact hO
  · refine (disk_sync_bad hl hne).mono fun e w ⟨i, hi, he, hO⟩ => ⟨i, hi, ?_, ?_⟩
    · rw [he]; unfold findE at hne ⊢; unfold syncS; split
      · rfl
      · cases hf : st.files nm with
        | none => rfl
        | some v => simp [hf] at hne; simp [hne] at *
    · have : (syncS nm st).1 = st := by
        unfold findE at hne; unfold syncS; split
        · rfl
        · cases hf : st.files nm with
          | none => rfl
          | some v => simp [hf] at hne; simp [hne] at *
      rw [this]; exact pdisk_mk hl hO
end Go.Proofs.YthljpljbpbkkcaaGreatDoor
end
section
set_option linter.unusedVariables false
set_option linter.unusedSimpArgs false
set_option maxRecDepth 4000
namespace Go.Proofs.YthljpljbpbkkcaaGreatDoor
open Go.Sl Go.RowKit

theorem set_same {α : Type} {l : List α} {j : Nat} {x : α} (h : l[j]? = some x) : l.set j x = l := by
  apply List.ext_getElem?
  intro i
  rw [List.getElem?_set]
  by_cases hi : j = i
  · subst hi
    rw [if_pos rfl, if_pos (List.getElem?_eq_some_iff.1 h).1, h]
  · rw [if_neg hi]
theorem append_put {w0 : World} {A : List HProp} {d m f v7 v3 v4 v5 c ca safe : Nat} {st : DSt} {nm : ByteArray} {ps ps' : List (Value × Value)} {base ba : Option Addr} {bs b : List UInt8} [hR : Reads w0 A ba (u8s b)]
    (hp : PutE ps (.string nm) (.pointer (some ⟨f, 0, none⟩)) ps') (hc : bs.length ≤ c) (hl : bs.length + b.length ≤ 16777216) :
    Fun Tryz.prog w0 31 [.pointer (some ⟨v7, 0, none⟩), .pointer (some ⟨v3, 0, none⟩), .pointer (some ⟨v4, 0, none⟩), .pointer (some ⟨v5, 0, none⟩)]
      (row base c 1 5 (u8s bs) :: cel f [.slice base bs.length c, .int .i64 safe] 75 :: mp .string m ps :: cel d (dcells m st) 68 :: cel v7 [.pointer (some ⟨f, 0, none⟩)] 73 :: cel v3 [.pointer (some ⟨d, 0, none⟩)] 24 :: cel v4 [.string nm] 9 :: cel v5 [.slice ba b.length ca] 23 :: A)
      (Ret w0 (fun i : Option Addr × Nat => (bs ++ b).length ≤ i.2) (fun _ => .tuple #[]) (fun i => cel f [.slice i.1 (bs ++ b).length i.2, .int .i64 safe] 75 :: row i.1 i.2 1 5 (u8s (bs ++ b)) :: mp .string m ps' :: cel d (dcells m st) 68 :: A)) := by
  refine Fun.enter Tryz.func31 rfl Tryz.ntmps31 rfl ?_
  exact WC.seq <| WC.plan (.bar [0, 1, 2, 3, 4, 5] 6 (.done [])) rfl (by kernel_rfl) <| WPl.bar (trivial) <| dv (fun g => (vldc pl24 rfl)) <| dv (fun g => (vnil rfl)) <| dv (fun g => (vfld fl68f0 rfl)) <| dv (fun g => (vldc pl66 rfl)) <| dv (fun g => (vldc pl9 rfl)) <| dv (fun g => (vldc pl73 rfl)) <| WD.eff rfl <| pm (fun _ h => h.pk2) <| mpu Tryz.underlying66 Tryz.underlying9 rfl rfl rfl trivial hp <| WL.nil <| WX.brT <| WPl.fin (trivial) <| WD.nil <| WX.thenN <| WC.plan (.pre [1, 2, 3, 4, 5] (.one [0] 6 (.bar [7, 8] 9 (.done [])))) rfl (by kernel_rfl) <| WPl.pre (trivial) <| dv (fun g => (vldc pl73 rfl)) <| dv (fun g => (vnil rfl)) <| dv (fun g => (vfld fl75f0 rfl)) <| dv (fun g => (vldc pl23 rfl)) <| dv (fun g => (vldc pl23 rfl)) <| WD.nil <| WPl.one (fun g => g ++ cel f [.slice base bs.length c, .int .i64 safe] 75 :: mp .string m ps' :: cel d (dcells m st) 68 :: cel v7 [.pointer (some ⟨f, 0, none⟩)] 73 :: cel v3 [.pointer (some ⟨d, 0, none⟩)] 24 :: cel v4 [.string nm] 9 :: cel v5 [.slice ba b.length ca] 23 :: A) ([row base c 1 5 (u8s bs)]) (fun _ => trivial) ((own_perm (List.Perm.trans (.swap _ _ _) (.cons _ (.swap _ _ _))))) <| dv (fun g => (vldc pl73 rfl)) <| WD.eff rfl <| pm (fun _ h => h.pk1) <| apb Tryz.underlying23 zt5 rfl rfl rfl rfl reads (by omega) fun base10 c10 hc10 =>WL.nil <| WX.br <| WPl.bar (good_perm [_] (List.Perm.cons _ (.swap _ _ _))) <| dv (fun g => (vnil rfl)) <| dv (fun g => (vfld fl75f0 rfl)) <| WD.eff rfl <| pm (fun _ h => h.pk2) <| stc (v := .slice _ _ _) pl23 sz23 rfl rfl rfl <| WL.nil <| WX.brT <| WPl.fin (trivial) <| WD.nil <| WX.end0 rfl ((base10, c10)) (by rw [List.length_append]; exact hc10) rfl (fun w h => by rw [List.length_append]; exact (h.ix [4, 5, 6, 7, 0, 1, 2, 3]).tail.tail.tail.tail)
theorem append_old {w0 : World} {A : List HProp} {d m v7 v3 v4 v5 ca j : Nat} {st : DSt} {l : List DF} {x : DF} {ba : Option Addr} {b : List UInt8} [hR : Reads w0 A ba (u8s b)] (hj : l[j]? = some x) (hl : x.bs.length + b.length ≤ 16777216) :
    Fun Tryz.prog w0 31 [.pointer (some ⟨v7, 0, none⟩), .pointer (some ⟨v3, 0, none⟩), .pointer (some ⟨v4, 0, none⟩), .pointer (some ⟨v5, 0, none⟩)]
      (cel d (dcells m st) 68 :: cel v7 [.pointer (some ⟨x.ptr, 0, none⟩)] 73 :: cel v5 [.slice ba b.length ca] 23 :: cel v4 [.string x.name] 9 :: cel v3 [.pointer (some ⟨d, 0, none⟩)] 24 :: mp .string m (ents l) :: pfiles l :: A)
      (Ret w0 (fun _ : Unit => True) (fun _ => .tuple #[]) (fun _ => cel d (dcells m st) 68 :: mp .string m (ents (l.set j ⟨x.name, x.ptr, x.bs ++ b, x.safe⟩)) :: pfiles (l.set j ⟨x.name, x.ptr, x.bs ++ b, x.safe⟩) :: A)) := by
  refine Fun.ex (fun w h => pfile_open (pfiles_out hj (h.ix [6, 0, 1, 2, 3, 4, 5]))) ?_
  rintro ⟨base, c⟩ hc
  dsimp only at hc ⊢
  have : Reads w0 (pfiles (l.eraseIdx j) :: A) ba (u8s b) := inferInstance
  refine Fun.mono (Fun.perm (append_put (A := pfiles (l.eraseIdx j) :: A) (safe := x.safe) (.old j _ (ents_at hj)) hc hl) fun w h => h.ix [1, 0, 8, 3, 4, 7, 6, 5, 2]) fun e w ⟨i, hi, he, hO⟩ => ⟨(), trivial, he, ?_⟩
  have h1 := pfile_mk hi hO
  have h2 := pfiles_set (y := ⟨x.name, x.ptr, x.bs ++ b, x.safe⟩) hj (h1.ix [0, 3, 1, 2])
  rw [ents_set (y := ⟨x.name, x.ptr, x.bs ++ b, x.safe⟩) hj rfl rfl]
  have h3 : (ents l).set j (.string x.name, .pointer (some ⟨x.ptr, 0, none⟩)) = ents l := by
    have := ents_at hj
    apply List.ext_getElem?
    intro i
    rw [List.getElem?_set]
    by_cases hi : j = i
    · subst hi
      have hlt := (List.getElem?_eq_some_iff.1 this).1
      rw [if_pos rfl, if_pos hlt, this]
    · rw [if_neg hi]
  rw [← h3]
  exact h2.ix [2, 1, 0]
theorem append_new {w0 : World} {A : List HProp} {d m f v7 v3 v4 v5 ca : Nat} {st : DSt} {l : List DF} {nm : ByteArray} {ba : Option Addr} {b : List UInt8} [hR : Reads w0 A ba (u8s b)] (hn : ∀ x ∈ l, x.name ≠ nm) (hl : b.length ≤ 16777216) :
    Fun Tryz.prog w0 31 [.pointer (some ⟨v7, 0, none⟩), .pointer (some ⟨v3, 0, none⟩), .pointer (some ⟨v4, 0, none⟩), .pointer (some ⟨v5, 0, none⟩)]
      (cel d (dcells m st) 68 :: cel v7 [.pointer (some ⟨f, 0, none⟩)] 73 :: cel f [.slice none 0 0, .int .i64 0] 75 :: cel v5 [.slice ba b.length ca] 23 :: cel v4 [.string nm] 9 :: cel v3 [.pointer (some ⟨d, 0, none⟩)] 24 :: mp .string m (ents l) :: pfiles l :: A)
      (Ret w0 (fun _ : Unit => True) (fun _ => .tuple #[]) (fun _ => cel d (dcells m st) 68 :: mp .string m (ents (l ++ [⟨nm, f, b, 0⟩])) :: pfiles (l ++ [⟨nm, f, b, 0⟩]) :: A)) := by
  have : Reads w0 (pfiles l :: A) ba (u8s b) := inferInstance
  refine Fun.mono (Fun.perm (append_put (A := pfiles l :: A) (bs := []) (base := none) (c := 0) (safe := 0) (.new (ents_no hn)) (by simp) (by simpa using hl)) fun w h => Own.intro_row_nil (h.ix [2, 6, 0, 1, 5, 4, 3, 7])) fun e w ⟨i, hi, he, hO⟩ => ⟨(), trivial, he, ?_⟩
  have h1 := pfile_mk (safe := 0) hi hO
  rw [ents_snoc]
  exact (pfiles_snoc (y := ⟨nm, f, b, 0⟩) (h1.ix [0, 3, 1, 2])).ix [2, 1, 0]
theorem append_go {w0 : World} {A X : List HProp} {d m : Nat} {st : DSt} {l : List DF} {cap : List Value} {F : ByteArray → Option (List UInt8 × Nat)} (hu : 0 ≤ st.fuse ∧ st.fuse ≤ 9223372036854775807) (hd : 0 ≤ st.deeds ∧ st.deeds + 1 ≤ 9223372036854775807)
    (hput : ∀ st', Fun Tryz.prog w0 31 cap (cel d (dcells m st') 68 :: X) (Ret w0 (fun _ : Unit => True) (fun _ => .tuple #[]) (fun _ => cel d (dcells m st') 68 :: mp .string m (ents l) :: pfiles l :: A)))
    (hrep : ∀ st' : DSt, st'.files = F → 0 ≤ st'.fuse ∧ st'.fuse ≤ 9223372036854775807 → Rep l st') :
    Fun Tryz.prog w0 32 [.pointer (some ⟨d, 0, none⟩), .func (.func 31) #[] cap.toArray, .func (.func 31) #[] cap.toArray] (cel d (dcells m st) 68 :: X)
      (Ret w0 (fun _ : Unit => True) (fun _ => .int .i64 (if st.fuse - 1 = 0 then 20 else 0)) (fun _ => if st.fuse - 1 = 0 then pdisk d (offS st.keep { st with deeds := st.deeds + 1, fuse := 0, files := F }) :: A
        else pdisk d { st with deeds := st.deeds + 1, fuse := max (st.fuse - 1) 0, files := F } :: A)) :=
  disk_deed_any hu hd ct31 ct31
    (fun _ => (hput { st with deeds := st.deeds + 1, fuse := max (st.fuse - 1) 0, files := F }).mono fun e w ⟨i, hi, he, hO⟩ => ⟨i, hi, he, pdisk_mk (hrep { st with deeds := st.deeds + 1, fuse := max (st.fuse - 1) 0, files := F } rfl (by dsimp only; omega)) hO⟩)
    (fun _ => hput { st with deeds := st.deeds + 1, fuse := 0, files := F })
    (fun _ => disk_off (st := { st with deeds := st.deeds + 1, fuse := 0, files := F }) (hrep _ rfl (by simp)))
theorem disk_append_off {w0 : World} {A : List HProp} {d m n ca : Nat} {st : DSt} {nm : ByteArray} {ba : Option Addr} (ho : st.off = true) :
    Fun Tryz.prog w0 8 [.pointer (some ⟨d, 0, none⟩), .string nm, .slice ba n ca] (cel d (dcells m st) 68 :: A)
      (Ret w0 (fun _ : Unit => True) (fun _ => .int .i64 20) (fun _ => cel d (dcells m st) 68 :: A)) := by
  unfold dcells
  rw [ho]
  refine Fun.enter Tryz.func8 rfl Tryz.ntmps8 rfl ?_
  refine WC.seq <| WC.region <| bxc (v := .pointer _) (cs := [.pointer _]) rfl rfl fun b1 => bxc (v := .string _) (cs := [.string _]) rfl rfl fun b2 => bxc (v := .slice _ _ _) (cs := [.slice _ _ _]) rfl rfl fun b3 => sv (vaI rfl) <| WL.nil <| WX.thenN <| WC.seq <| WC.block <| WC.seq <| WC.region <| sv (vldc pl24 rfl) <| sv (vpeqF Tryz.underlying24 rfl rfl) <| sv (vaB rfl) <| WL.nil <| WX.thenN <| ?_
  refine WC.ff rfl ?_
  refine WC.seq <| WC.region <| sv (vldc pl24 rfl) <| sv (vnil rfl) <| sv (vfld fl68f1 rfl) <| sv (vldc pl4 rfl) <| sv (vaB rfl) <| WL.nil <| WX.thenN <| ?_
  refine WC.tt rfl ?_
  exact WC.seq <| WC.region <| sv (vaI rfl) <| WL.nil <| WX.thenN <| WC.ret <| WX.blockR <| WX.thenR <| WX.ret1 rfl (()) (trivial) rfl (fun w h => h.tail.tail.tail)
theorem disk_append_name {w0 : World} {A : List HProp} {d m n ca : Nat} {st : DSt} {nm : ByteArray} {ba : Option Addr} (ho : st.off = false) (hs : nm.size ≤ 140737488351232) (hn : ¬ okName nm) :
    Fun Tryz.prog w0 8 [.pointer (some ⟨d, 0, none⟩), .string nm, .slice ba n ca] (cel d (dcells m st) 68 :: A)
      (Ret w0 (fun _ : Unit => True) (fun _ => .int .i64 51) (fun _ => cel d (dcells m st) 68 :: A)) := by
  unfold dcells
  rw [ho]
  have hd : decide (okName nm) = false := by simpa using hn
  refine Fun.enter Tryz.func8 rfl Tryz.ntmps8 rfl ?_
  refine WC.seq <| WC.region <| bxc (v := .pointer _) (cs := [.pointer _]) rfl rfl fun b1 => bxc (v := .string _) (cs := [.string _]) rfl rfl fun b2 => bxc (v := .slice _ _ _) (cs := [.slice _ _ _]) rfl rfl fun b3 => sv (vaI rfl) <| WL.nil <| WX.thenN <| WC.seq <| WC.block <| WC.seq <| WC.region <| sv (vldc pl24 rfl) <| sv (vpeqF Tryz.underlying24 rfl rfl) <| sv (vaB rfl) <| WL.nil <| WX.thenN <| ?_
  refine WC.ff rfl ?_
  refine WC.seq <| WC.region <| sv (vldc pl24 rfl) <| sv (vnil rfl) <| sv (vfld fl68f1 rfl) <| sv (vldc pl4 rfl) <| sv (vaB rfl) <| WL.nil <| WX.thenN <| ?_
  refine WC.ff rfl ?_
  refine WC.seq <| WC.region <| sv (vldc pl9 rfl) <| cl (hd ▸ disk_named hs) ct30 rfl fun u hu => sv (vnot rfl) <| sv (vaB rfl) <| WL.nil <| WX.thenN <| ?_
  refine WC.tt rfl ?_
  exact WC.seq <| WC.region <| sv (vaI rfl) <| WL.nil <| WX.thenN <| WC.ret <| WX.blockR <| WX.thenR <| WX.ret1 rfl (()) (trivial) rfl (fun w h => h.tail.tail.tail)
theorem pm_old {w0 w : World} {A : List HProp} {a b3 b2 b1 d m : HProp} {l : List DF} {j c : Nat} {x : DF} {base : Option Addr} (hj : l[j]? = some x) (hc : x.bs.length ≤ c)
    (h : Own w0 (a :: b3 :: b2 :: b1 :: cel x.ptr [.slice base x.bs.length c, .int .i64 x.safe] 75 :: row base c 1 5 (u8s x.bs) :: pfiles (l.eraseIdx j) :: d :: m :: A) w) : Own w0 (d :: a :: b3 :: b2 :: b1 :: m :: pfiles l :: A) w := by
  have h1 := pfile_mk hc (h.ix [4, 5, 6, 0, 1, 2, 3, 7, 8])
  have h2 := pfiles_set (y := x) hj h1
  rw [set_same hj] at h2
  exact h2.ix [5, 1, 2, 3, 4, 6, 0]
theorem disk_append_old {w0 : World} {A : List HProp} {d m ca j : Nat} {st : DSt} {l : List DF} {x : DF} {ba : Option Addr} {b : List UInt8} [hR : Reads w0 A ba (u8s b)] (hr : Rep l st) (hj : l[j]? = some x) (ho : st.off = false) (hs : x.name.size ≤ 140737488351232) (hn : okName x.name) (hd : 0 ≤ st.deeds ∧ st.deeds + 1 ≤ 9223372036854775807)
    (hb : b.length ≤ 140737488351232) :
    Fun Tryz.prog w0 8 [.pointer (some ⟨d, 0, none⟩), .string x.name, .slice ba b.length ca] (cel d (dcells m st) 68 :: mp .string m (ents l) :: pfiles l :: A)
      (Ret w0 (fun _ : Unit => True) (fun _ => .int .i64 (if x.bs.length + b.length ≤ 16777216 then (if st.fuse - 1 = 0 then 20 else 0) else 2)) (fun _ => if x.bs.length + b.length ≤ 16777216 then (if st.fuse - 1 = 0 then pdisk d (offS st.keep { st with deeds := st.deeds + 1, fuse := 0, files := putV x.name (x.bs ++ b, x.safe) st.files }) :: A
        else pdisk d { st with deeds := st.deeds + 1, fuse := max (st.fuse - 1) 0, files := putV x.name (x.bs ++ b, x.safe) st.files } :: A) else pdisk d st :: A)) := by
  have hdt : decide (okName x.name) = true := by simpa using hn
  obtain ⟨files, off, fuse, keep, deeds⟩ := st
  obtain rfl : off = false := ho
  have hxok := hr.ok x (List.mem_of_getElem? hj)
  dsimp only at hd
  refine Fun.ex (fun w h => pfile_open (pfiles_out hj h.pk2)) ?_
  rintro ⟨base, c⟩ hc
  dsimp only at hc ⊢
  refine Fun.enter Tryz.func8 rfl Tryz.ntmps8 rfl ?_
  refine WC.seq <| WC.region <| bxc (v := .pointer _) (cs := [.pointer _]) rfl rfl fun b1 => bxc (v := .string _) (cs := [.string _]) rfl rfl fun b2 => bxc (v := .slice _ _ _) (cs := [.slice _ _ _]) rfl rfl fun b3 => sv (vaI rfl) <| WL.nil <| WX.thenN <| WC.seq <| WC.block <| WC.seq <| WC.region <| sv (vldc pl24 rfl) <| sv (vpeqF Tryz.underlying24 rfl rfl) <| sv (vaB rfl) <| WL.nil <| WX.thenN <| ?_
  refine WC.ff rfl ?_
  refine WC.seq <| WC.region <| sv (vldc pl24 rfl) <| sv (vnil rfl) <| sv (vfld fl68f1 rfl) <| sv (vldc pl4 rfl) <| sv (vaB rfl) <| WL.nil <| WX.thenN <| ?_
  refine WC.ff rfl ?_
  refine WC.seq <| WC.region <| sv (vldc pl9 rfl) <| cl (hdt ▸ disk_named hs) ct30 rfl fun u hu => sv (vnot rfl) <| sv (vaB rfl) <| WL.nil <| WX.thenN <| ?_
  refine WC.ff rfl ?_
  refine WC.skip <| WX.blockN <| WX.thenN <| WC.seq <| WC.plan (.one [0, 1, 2, 3, 4, 5] 6 (.bar [] 7 (.done []))) rfl (by kernel_rfl) <| WPl.one (fun g => g ++ cel b3 [.slice ba b.length ca] 23 :: cel b2 [.string x.name] 9 :: cel b1 [.pointer (some ⟨d, 0, none⟩)] 24 :: cel x.ptr [.slice base x.bs.length c, .int .i64 x.safe] 75 :: row base c 1 5 (u8s x.bs) :: pfiles (l.eraseIdx j) :: cel d (dcells m ⟨files, false, fuse, keep, deeds⟩) 68 :: mp .string m (ents l) :: A) ([]) (fun _ => trivial) (rfl) <| dv (fun g => (vldc pl24 rfl)) <| dv (fun g => (vnil rfl)) <| dv (fun g => (vfld fl68f0 rfl)) <| dv (fun g => (vldc pl66 rfl)) <| dv (fun g => (vldc pl9 rfl)) <| dv (fun g => (vlk Tryz.underlying66 Tryz.underlying9 rfl rfl trivial (ents_at hj))) <| WD.eff rfl <| alz (cs := [.pointer none]) zt73 (by rfl) fun b14 => WL.nil <| WX.br <| WPl.bar (⟨[_], rfl⟩) <| WD.eff rfl <| stc (v := .pointer _) pl73 sz73 rfl rfl rfl <| WL.nil <| WX.brT <| WPl.fin (trivial) <| WD.nil <| WX.thenN <| WC.seq <| WC.seq <| WC.region <| sv (vldc pl73 rfl) <| sv (vpeqF Tryz.underlying73 rfl rfl) <| WL.nil <| WX.thenN <| ?_
  refine WC.ff rfl ?_
  refine WC.skip <| WX.thenN <| WC.seq <| WC.seq <| WC.draws rfl (by kernel_rfl) <| qv (vldc pl23 rfl) <| qv (vlen Tryz.underlying23 rfl) <| qv (vldc pl73 rfl) <| qv (vnil rfl) <| qv (vfld fl75f0 rfl) <| qv (vldc pl23 rfl) <| qv (vlen Tryz.underlying23 rfl) <| qv (vsub rfl rfl (by omega)) <| qv (vgt rfl rfl) <| WQ.nil <| WX.thenN <| ?_
  refine WC.ite rfl (fun h5 => ?_) (fun h5 => ?_)
  · -- then
    refine WC.seq <| WC.region <| sv (vaI rfl) <| WL.nil <| WX.thenN <| WC.ret <| WX.thenR <| WX.ret1 rfl (()) (trivial) (by rw [if_neg (by omega)]; rfl) (fun w h => ?_)
    have hlt : ¬ x.bs.length + b.length ≤ 16777216 := by omega
    simp only [if_neg hlt]
    have h1 := pfile_mk hc h.tail.tail.tail.tail
    exact pdisk_mk hr ((pfiles_set (y := x) hj h1).ix [1, 2, 0] |> fun h2 => by rw [set_same hj] at h2; exact h2)
  · -- else
    have hlt : x.bs.length + b.length ≤ 16777216 := by omega
    simp only [if_pos hlt]
    exact WC.skip <| WX.thenN <| WC.seq <| WC.region <| sv (vfn rfl) <| sv (vaF rfl) <| WL.nil <| WX.thenN <| WC.seq <| WC.region <| sv (vldc pl24 rfl) <| sv (vmF rfl) <| sv (vmF rfl) <| pm (fun _ h => (pm_old hj hc h)) <| cl (append_go hr.fuse hd (fun st' => append_old hj hlt) (fun st' hf hu => hr.put (y := ⟨x.name, x.ptr, x.bs ++ b, x.safe⟩) hj rfl (by simp only [List.length_append]; omega) hf hu)) ct32 rfl fun u2 hu2 => sv (vaI rfl) <| WL.nil <| WX.thenN <| WC.ret <| WX.ret1 rfl (()) (trivial) rfl (fun _ h => h)
theorem pm_new {w0 w : World} {A : List HProp} {f a b3 b2 b1 d m p : HProp} (h : Own w0 (a :: f :: b3 :: b2 :: b1 :: d :: m :: p :: A) w) : Own w0 (d :: a :: f :: b3 :: b2 :: b1 :: m :: p :: A) w := h.pk5
theorem disk_append_new {w0 : World} {A : List HProp} {d m ca : Nat} {st : DSt} {l : List DF} {nm : ByteArray} {ba : Option Addr} {b : List UInt8} [hR : Reads w0 A ba (u8s b)] (hr : Rep l st) (hno : st.files nm = none) (ho : st.off = false) (hs : nm.size ≤ 140737488351232) (hn : okName nm) (hd : 0 ≤ st.deeds ∧ st.deeds + 1 ≤ 9223372036854775807)
    (hb : b.length ≤ 140737488351232) :
    Fun Tryz.prog w0 8 [.pointer (some ⟨d, 0, none⟩), .string nm, .slice ba b.length ca] (cel d (dcells m st) 68 :: mp .string m (ents l) :: pfiles l :: A)
      (Ret w0 (fun _ : Unit => True) (fun _ => .int .i64 (if b.length ≤ 16777216 then (if st.fuse - 1 = 0 then 20 else 0) else 2)) (fun _ => if b.length ≤ 16777216 then (if st.fuse - 1 = 0 then pdisk d (offS st.keep { st with deeds := st.deeds + 1, fuse := 0, files := putV nm (b, 0) st.files }) :: A
        else pdisk d { st with deeds := st.deeds + 1, fuse := max (st.fuse - 1) 0, files := putV nm (b, 0) st.files } :: A) else pdisk d st :: A)) := by
  have hdt : decide (okName nm) = true := by simpa using hn
  obtain ⟨files, off, fuse, keep, deeds⟩ := st
  obtain rfl : off = false := ho
  dsimp only at hd
  refine Fun.enter Tryz.func8 rfl Tryz.ntmps8 rfl ?_
  refine WC.seq <| WC.region <| bxc (v := .pointer _) (cs := [.pointer _]) rfl rfl fun b1 => bxc (v := .string _) (cs := [.string _]) rfl rfl fun b2 => bxc (v := .slice _ _ _) (cs := [.slice _ _ _]) rfl rfl fun b3 => sv (vaI rfl) <| WL.nil <| WX.thenN <| WC.seq <| WC.block <| WC.seq <| WC.region <| sv (vldc pl24 rfl) <| sv (vpeqF Tryz.underlying24 rfl rfl) <| sv (vaB rfl) <| WL.nil <| WX.thenN <| ?_
  refine WC.ff rfl ?_
  refine WC.seq <| WC.region <| sv (vldc pl24 rfl) <| sv (vnil rfl) <| sv (vfld fl68f1 rfl) <| sv (vldc pl4 rfl) <| sv (vaB rfl) <| WL.nil <| WX.thenN <| ?_
  refine WC.ff rfl ?_
  refine WC.seq <| WC.region <| sv (vldc pl9 rfl) <| cl (hdt ▸ disk_named hs) ct30 rfl fun u hu => sv (vnot rfl) <| sv (vaB rfl) <| WL.nil <| WX.thenN <| ?_
  refine WC.ff rfl ?_
  refine WC.skip <| WX.blockN <| WX.thenN <| WC.seq <| WC.plan (.one [0, 1, 2, 3, 4, 5] 6 (.bar [] 7 (.done []))) rfl (by kernel_rfl) <| WPl.one (fun g => g ++ cel b3 [.slice ba b.length ca] 23 :: cel b2 [.string nm] 9 :: cel b1 [.pointer (some ⟨d, 0, none⟩)] 24 :: cel d (dcells m ⟨files, false, fuse, keep, deeds⟩) 68 :: mp .string m (ents l) :: pfiles l :: A) ([]) (fun _ => trivial) (rfl) <| dv (fun g => (vldc pl24 rfl)) <| dv (fun g => (vnil rfl)) <| dv (fun g => (vfld fl68f0 rfl)) <| dv (fun g => (vldc pl66 rfl)) <| dv (fun g => (vldc pl9 rfl)) <| dv (fun g => (vlkz Tryz.underlying66 Tryz.underlying9 zt73 rfl rfl trivial (ents_no (hr.no hno)))) <| WD.eff rfl <| alz (cs := [.pointer none]) zt73 (by rfl) fun b14 => WL.nil <| WX.br <| WPl.bar (⟨[_], rfl⟩) <| WD.eff rfl <| stc (v := .pointer _) pl73 sz73 rfl rfl rfl <| WL.nil <| WX.brT <| WPl.fin (trivial) <| WD.nil <| WX.thenN <| WC.seq <| WC.seq <| WC.region <| sv (vldc pl73 rfl) <| sv (vpeqT Tryz.underlying73 rfl rfl) <| WL.nil <| WX.thenN <| ?_
  refine WC.tt rfl ?_
  refine WC.region <| sv (vbd (ps := []) (cs := [_, _]) bt75 zt75 rfl (by rfl)) <| bxc (v := .agg _) (cs := [.slice _ _ _, .int _ _]) rfl rfl fun b19 => pm (fun _ h => h.pk1) <| stc (v := .pointer _) pl73 sz73 rfl rfl rfl <| WL.nil <| WX.thenN <| WC.seq <| WC.seq <| WC.draws rfl (by kernel_rfl) <| qv (vldc pl23 rfl) <| qv (vlen Tryz.underlying23 rfl) <| qv (vldc pl73 rfl) <| qv (vnil rfl) <| qv (vfld fl75f0 rfl) <| qv (vldc pl23 rfl) <| qv (vlen Tryz.underlying23 rfl) <| qv (vsub rfl rfl (by omega)) <| qv (vgt rfl rfl) <| WQ.nil <| WX.thenN <| ?_
  refine WC.ite rfl (fun h5 => ?_) (fun h5 => ?_)
  · -- then
    refine WC.seq <| WC.region <| sv (vaI rfl) <| WL.nil <| WX.thenN <| WC.ret <| WX.thenR <| WX.ret1 rfl (()) (trivial) (by rw [if_neg (by omega)]; rfl) (fun w h => ?_)
    have hlt : ¬ b.length ≤ 16777216 := by omega
    simp only [if_neg hlt]
    exact pdisk_mk hr h.tail.tail.tail.tail.tail
  · -- else
    have hlt : b.length ≤ 16777216 := by omega
    simp only [if_pos hlt]
    exact WC.skip <| WX.thenN <| WC.seq <| WC.region <| sv (vfn rfl) <| sv (vaF rfl) <| WL.nil <| WX.thenN <| WC.seq <| WC.region <| sv (vldc pl24 rfl) <| sv (vmF rfl) <| sv (vmF rfl) <| pm (fun _ h => pm_new h) <| cl (append_go hr.fuse hd (fun st' => append_new (hr.no hno) hlt) (fun st' hf hu => hr.add (y := ⟨nm, b19, b, 0⟩) hno (by simp only; omega) hf hu)) ct32 rfl fun u2 hu2 => sv (vaI rfl) <| WL.nil <| WX.thenN <| WC.ret <| WX.ret1 rfl (()) (trivial) rfl (fun _ h => h)
end Go.Proofs.YthljpljbpbkkcaaGreatDoor
end
section
set_option linter.unusedVariables false
set_option linter.unusedSimpArgs false
set_option maxRecDepth 4000
namespace Go.Proofs.YthljpljbpbkkcaaGreatDoor
open Go.Sl Go.RowKit

def appendV (nm : ByteArray) (b : List UInt8) (f : ByteArray → Option (List UInt8 × Nat)) : List UInt8 × Nat := (((f nm).getD ([], 0)).1 ++ b, ((f nm).getD ([], 0)).2)
def appendS (nm : ByteArray) (b : List UInt8) (st : DSt) : DSt × Int :=
  if st.off then (st, 20) else if ¬ okName nm then (st, 51) else if 16777216 < (appendV nm b st.files).1.length then (st, 2)
  else deedS (fun f => putV nm (appendV nm b f) f) (fun f => putV nm (appendV nm b f) f) st
theorem appendS_eq {nm : ByteArray} {b : List UInt8} {st : DSt} {V : List UInt8 × Nat} {n : Nat} (ho : st.off = false) (hnm : okName nm) (hV : appendV nm b st.files = V) (hn : V.1.length = n) :
    appendS nm b st = if n ≤ 16777216 then (if st.fuse - 1 = 0 then (offS st.keep { st with deeds := st.deeds + 1, fuse := 0, files := putV nm V st.files }, 20) else ({ st with deeds := st.deeds + 1, fuse := max (st.fuse - 1) 0, files := putV nm V st.files }, 0)) else (st, 2) := by
  unfold appendS
  rw [if_neg (by rw [ho]; decide), if_neg (fun h => h hnm)]
  rw [hV, hn]
  by_cases h : n ≤ 16777216
  · rw [if_pos h, if_neg (by omega)]; unfold deedS; dsimp only; rw [hV]
  · rw [if_neg h, if_pos (by omega)]
theorem disk_append {w0 : World} {A : List HProp} {d n ca : Nat} {st : DSt} {nm : ByteArray} {ba : Option Addr} {b : List UInt8} [hR : Reads w0 A ba (u8s b)] (hs : nm.size ≤ 140737488351232) (hd : 0 ≤ st.deeds ∧ st.deeds + 1 ≤ 9223372036854775807) (hb : b.length ≤ 140737488351232) (hn : n = b.length) :
    Fun Tryz.prog w0 8 [.pointer (some ⟨d, 0, none⟩), .string nm, .slice ba n ca] (pdisk d st :: A)
      (Ret w0 (fun _ : Unit => True) (fun _ => .int .i64 (appendS nm b st).2) (fun _ => pdisk d (appendS nm b st).1 :: A)) := by
  subst hn
  refine Fun.ex (fun w h => pdisk_open h) ?_
  rintro ⟨m, l⟩ hl
  dsimp only at hl ⊢
  cases ho : st.off with
  | true =>
    have hk : appendS nm b st = (st, 20) := by unfold appendS; rw [if_pos ho]
    rw [hk]
    exact (disk_append_off ho).mono fun e w ⟨i, hi, he, hO⟩ => ⟨i, hi, he, pdisk_mk hl hO⟩
  | false =>
    have hno : ¬ st.off = true := by rw [ho]; decide
    by_cases hnm : okName nm
    · cases hf : st.files nm with
      | none =>
        have hk := appendS_eq ho hnm (b := b) (V := (b, 0)) (by unfold appendV; rw [hf]; rfl) rfl
        rw [hk]
        refine (disk_append_new (ca := ca) hl hf ho hs hnm hd hb).mono fun e w ⟨i, hi, he, hO⟩ => ⟨i, hi, ?_, ?_⟩
        · rw [he]; split <;> (try split) <;> rfl
        · dsimp only at hO; split <;> (try split) <;> simp_all only [if_true, if_false, not_true, not_false_eq_true]
      | some v =>
        obtain ⟨j, x, hj, rfl, rfl⟩ := hl.at hf
        have hk := appendS_eq ho hnm (b := b) (V := (x.bs ++ b, x.safe)) (n := x.bs.length + b.length) (by unfold appendV; rw [hf]; rfl) (by simp)
        rw [hk]
        refine (disk_append_old (ca := ca) hl hj ho hs hnm hd hb).mono fun e w ⟨i, hi, he, hO⟩ => ⟨i, hi, ?_, ?_⟩
        · rw [he]; split <;> (try split) <;> rfl
        · dsimp only at hO; split <;> (try split) <;> simp_all only [if_true, if_false, not_true, not_false_eq_true]
    · have hk : appendS nm b st = (st, 51) := by unfold appendS; rw [if_neg hno, if_pos hnm]
      rw [hk]
      exact (disk_append_name ho hs hnm).mono fun e w ⟨i, hi, he, hO⟩ => ⟨i, hi, he, pdisk_mk hl hO⟩
theorem madeB (k : Nat) : (madeCells (Value.int .u8 0).cells k).toList = List.replicate k (.int .u8 0) := made_rep rfl k
theorem disk_read_bad {w0 : World} {R : List HProp} {d m : Nat} {st : DSt} {nm : ByteArray} {l : List DF} (hr : Rep l st) (hne : findE nm st ≠ 0) :
    Fun Tryz.prog w0 56 [.pointer (some ⟨d, 0, none⟩), .string nm] (cel d (dcells m st) 68 :: mp .string m (ents l) :: R)
      (Ret w0 (fun _ : Unit => True) (fun _ => .tuple #[.slice none 0 0, .int .i64 (findE nm st)]) (fun _ => cel d (dcells m st) 68 :: mp .string m (ents l) :: R)) := by
  refine Fun.enter Tryz.func56 rfl Tryz.ntmps56 rfl ?_
  refine WC.seq <| WC.region <| sv (vaS rfl) <| sv (vaI rfl) <| WL.nil <| WX.thenN <| WC.seq <| WC.region <| sv (vmP rfl) <| sv (vmT rfl) <| cl (disk_find_bad hr hne) ct83 rfl fun u hu => sv vmv <| sv (vex rfl rfl) <| sv (vex rfl rfl) <| sv (vaP rfl) <| sv (vaI rfl) <| WL.nil <| WX.thenN <| WC.seq <| WC.seq <| WC.region <| sv (vmI rfl) <| sv (vne rfl rfl) <| WL.nil <| WX.thenN <| ?_
  refine WC.ite rfl (fun h1 => ?_) (fun h1 => ?_)
  · -- then
    exact WC.seq <| WC.region <| sv (vmI rfl) <| sv (vaS rfl) <| sv (vaI rfl) <| WL.nil <| WX.thenN <| WC.ret <| WX.thenR <| WX.ret2 rfl (()) (trivial) rfl (fun _ h => h)
  · -- else
    exact absurd h1 (by simpa using hne)
theorem disk_read_ok {w0 : World} {A : List HProp} {d m j : Nat} {st : DSt} {l : List DF} {x : DF} (hr : Rep l st) (hj : l[j]? = some x) (ho : st.off = false) :
    Fun Tryz.prog w0 56 [.pointer (some ⟨d, 0, none⟩), .string x.name] (cel d (dcells m st) 68 :: mp .string m (ents l) :: pfiles l :: A)
      (Ret w0 (fun _ : Nat => True) (fun g => .tuple #[.slice (some ⟨g, 0, none⟩) x.bs.length x.bs.length, .int .i64 0]) (fun g => row (some ⟨g, 0, none⟩) x.bs.length 1 5 (u8s x.bs) :: pdisk d st :: A)) := by
  have hxok := hr.ok x (List.mem_of_getElem? hj)
  refine Fun.enter Tryz.func56 rfl Tryz.ntmps56 rfl ?_
  refine WC.seq <| WC.region <| sv (vaS rfl) <| sv (vaI rfl) <| WL.nil <| WX.thenN <| WC.seq <| WC.region <| sv (vmP rfl) <| sv (vmT rfl) <| cl (disk_find ho hj) ct83 rfl fun u hu => sv vmv <| sv (vex rfl rfl) <| sv (vex rfl rfl) <| sv (vaP rfl) <| sv (vaI rfl) <| WL.nil <| WX.thenN <| WC.seq <| WC.seq <| WC.region <| sv (vmI rfl) <| sv (vne rfl rfl) <| WL.nil <| WX.thenN <| ?_
  refine WC.ite rfl (fun h1 => ?_) (fun h1 => ?_)
  · -- then
    exact absurd rfl h1
  · -- else
    refine cm (fun w h => pfiles_out hj h.pk2) ?_
    refine WC.ex (fun w h => pfile_open h) ?_
    rintro ⟨base, c⟩ hc
    dsimp only at hc ⊢
    refine WC.skip <| WX.thenN <| WC.seq <| WC.region <| sv (vmP rfl) <| sv (vnil rfl) <| sv (vfld fl75f0 rfl) <| sv (vldc pl23 rfl) <| sv (vlen Tryz.underlying23 rfl) <| mk Tryz.underlying23 zt5 rfl rfl (by omega) (by omega) (by omega) (by omega) fun b3 => ?_
    rw [madeB, show ((x.bs.length : Int)).toNat * 1 = x.bs.length by omega]
    refine sv (vaS rfl) <| WL.nil <| WX.thenN <| WC.seq <| WC.region <| sv (vmS rfl) <| sv (vmP rfl) <| sv (vnil rfl) <| sv (vfld fl75f0 rfl) <| sv (vldc pl23 rfl) <| cp sz5 Tryz.underlying23 rfl rfl (reads (vs := u8s x.bs)) (by simp) (u8s_one x.bs) (by simp) <| WL.nil <| WX.thenN <| WC.seq <| WC.region <| sv (vmS rfl) <| sv (vaS rfl) <| sv (vaI rfl) <| WL.nil <| WX.thenN <| WC.ret <| WX.ret2 rfl (b3) (trivial) rfl (fun w h => ?_)
    have e : splice (List.replicate x.bs.length (Value.int .u8 0)) 0 (u8s x.bs) = u8s x.bs := by simp [splice]
    rw [e] at h
    have h1 := pfile_mk hc (h.ix [1, 2, 3, 4, 5, 0])
    have h2 := pfiles_set (y := x) hj h1
    rw [set_same hj] at h2
    exact (pdisk_mk hr (h2.ix [1, 2, 0, 3])).pk1.cel_row (by simp) (by simp only [maxLen]; omega)
theorem readS_bad {nm : ByteArray} {st : DSt} (h : findE nm st ≠ 0) : readS nm st = ([], findE nm st) ∧ syncS nm st = (st, findE nm st) ∧ ∀ n, cutS nm n st = (st, findE nm st) := by
  unfold findE at h ⊢
  unfold readS syncS cutS
  cases ho : st.off with
  | true => simp
  | false =>
    cases hf : st.files nm with
    | none => simp
    | some v => simp [ho, hf] at h
theorem findE_ok {nm : ByteArray} {st : DSt} (h : findE nm st = 0) : st.off = false ∧ ∃ v, st.files nm = some v := by
  unfold findE at h
  cases ho : st.off with
  | true => simp [ho] at h
  | false =>
    cases hf : st.files nm with
    | none => simp [ho, hf] at h
    | some v => exact ⟨rfl, v, rfl⟩
theorem disk_read {w0 : World} {A : List HProp} {d : Nat} {st : DSt} {nm : ByteArray} :
    Fun Tryz.prog w0 56 [.pointer (some ⟨d, 0, none⟩), .string nm] (pdisk d st :: A)
      (Ret w0 (fun i : Option Addr × Nat => (readS nm st).1.length ≤ i.2) (fun i => .tuple #[.slice i.1 (readS nm st).1.length i.2, .int .i64 (readS nm st).2]) (fun i => row i.1 i.2 1 5 (u8s (readS nm st).1) :: pdisk d st :: A)) := by
  refine Fun.ex (fun w h => pdisk_open h) ?_
  rintro ⟨m, l⟩ hl
  dsimp only at hl ⊢
  by_cases hne : findE nm st = 0
  · obtain ⟨ho, v, hf⟩ := findE_ok hne
    obtain ⟨j, x, hj, rfl, rfl⟩ := hl.at hf
    have hk : readS x.name st = (x.bs, 0) := by unfold readS; rw [if_neg (by rw [ho]; decide), hf]
    rw [hk]
    exact (disk_read_ok hl hj ho).mono fun e w ⟨i, hi, he, hO⟩ => ⟨(some ⟨i, 0, none⟩, x.bs.length), Nat.le_refl _, he, hO⟩
  · rw [(readS_bad hne).1]
    exact (disk_read_bad hl hne).mono fun e w ⟨i, hi, he, hO⟩ => ⟨(none, 0), Nat.le_refl _, he, Own.intro_row_nil (pdisk_mk hl hO)⟩
end Go.Proofs.YthljpljbpbkkcaaGreatDoor
end
section
set_option linter.unusedVariables false
set_option linter.unusedSimpArgs false
set_option maxRecDepth 4000
namespace Go.Proofs.YthljpljbpbkkcaaGreatDoor
open Go.Sl Go.RowKit

theorem cut_put {w0 : World} {A : List HProp} {f v7 v5 c safe : Nat} {n : Nat} {base : Option Addr} {bs : List UInt8} (hc : bs.length ≤ c) (hn : n ≤ bs.length) (hb : bs.length ≤ 16777216) :
    Fun Tryz.prog w0 86 [.pointer (some ⟨v7, 0, none⟩), .pointer (some ⟨v5, 0, none⟩)] (cel f [.slice base bs.length c, .int .i64 safe] 75 :: cel v7 [.pointer (some ⟨f, 0, none⟩)] 73 :: cel v5 [.int .i64 n] 3 :: A)
      (Ret w0 (fun _ : Unit => True) (fun _ => .tuple #[]) (fun _ => cel f [.slice base n n, .int .i64 (min safe n : Nat)] 75 :: A)) := by
  refine Fun.enter Tryz.func86 rfl Tryz.ntmps86 rfl ?_
  refine WC.plan (.pre [0, 2, 3, 4, 5, 6, 7, 8, 9, 10, 11, 12, 15, 16] (.one [1, 13, 14] 17 (.bar [18, 19] 20 (.done [])))) rfl (by kernel_rfl) <| WPl.pre (trivial) <| dv (fun g => (vldc pl73 rfl)) <| dv (fun g => (vldc pl73 rfl)) <| dv (fun g => (vnil rfl)) <| dv (fun g => (vfld fl75f0 rfl)) <| dv (fun g => (vldc pl23 rfl)) <| dv (fun g => (vldc pl3 rfl)) <| dv (fun g => (vldc pl3 rfl)) <| dv (fun g => (vslHM Tryz.underlying23 sz5 rfl rfl rfl (by omega) (by omega) (by omega))) <| dv (fun g => (vldc pl73 rfl)) <| dv (fun g => (vnil rfl)) <| dv (fun g => (vfld fl75f1 rfl)) <| dv (fun g => (vldc pl3 rfl)) <| dv (fun g => (vnil rfl)) <| dv (fun g => (vfld fl75f0 rfl)) <| WD.nil <| WPl.one (fun g => g ++ cel v7 [.pointer (some ⟨f, 0, none⟩)] 73 :: cel v5 [.int .i64 n] 3 :: A) ([_]) (fun _ => trivial) (rfl) <| dv (fun g => (vldc pl73 rfl)) <| dv (fun g => (vldc pl3 rfl)) <| dv (fun g => (vmin rfl rfl)) <| WD.eff rfl <| stc (v := .slice _ _ _) pl23 sz23 rfl rfl rfl <| WL.nil <| WX.br <| WPl.bar (⟨[_], rfl⟩) <| dv (fun g => (vnil rfl)) <| dv (fun g => (vfld fl75f1 rfl)) <| WD.eff rfl <| stc (v := .int _ _) pl3 sz3 rfl rfl rfl <| WL.nil <| WX.brT <| WPl.fin (trivial) <| WD.nil <| WX.end0 rfl (()) (trivial) rfl (fun w h => ?_)
  have e : min (safe : Int) (n : Int) = ((min safe n : Nat) : Int) := by omega
  rw [Int.toNat_natCast, e] at h
  exact h.pk1.tail.pk1.tail
theorem cut_do {w0 : World} {A : List HProp} {d m v7 v5 j n : Nat} {st st' : DSt} {l : List DF} {x : DF} (hr : Rep l st) (hj : l[j]? = some x) (hn : n ≤ x.bs.length) (hu : 0 ≤ st'.fuse ∧ st'.fuse ≤ 9223372036854775807) (hf : st'.files = putV x.name (x.bs.take n, min x.safe n) st.files) :
    Fun Tryz.prog w0 86 [.pointer (some ⟨v7, 0, none⟩), .pointer (some ⟨v5, 0, none⟩)] (cel d (dcells m st') 68 :: cel v7 [.pointer (some ⟨x.ptr, 0, none⟩)] 73 :: cel v5 [.int .i64 n] 3 :: mp .string m (ents l) :: pfiles l :: A)
      (Ret w0 (fun _ : Unit => True) (fun _ => .tuple #[]) (fun _ => pdisk d st' :: A)) := by
  have hxok := hr.ok x (List.mem_of_getElem? hj)
  refine Fun.ex (fun w h => pfile_open (pfiles_out hj h.pk4)) ?_
  rintro ⟨base, c⟩ hc
  dsimp only at hc ⊢
  refine Fun.mono (Fun.perm (cut_put hc hn hxok.2) fun w h => h.ix [0, 4, 5, 1, 2, 3, 6]) fun e w ⟨i, hi, he, hO⟩ => ⟨i, hi, he, ?_⟩
  have h1 : Own w0 (row base n 1 5 ((u8s x.bs).take (n * 1)) :: cel x.ptr [.slice base n n, .int .i64 (min x.safe n : Nat)] 75 :: pfiles (l.eraseIdx j) :: cel d (dcells m st') 68 :: mp .string m (ents l) :: A) w :=
    Own.row_cut (k := n) (by omega) (by rw [u8s_length]; omega) (hO.ix [1, 0, 2, 3, 4])
  have hbl : (x.bs.take n).length = n := by rw [List.length_take]; omega
  rw [Nat.mul_one, u8s_take] at h1
  have h3 := pfile_mk (f := x.ptr) (bs := x.bs.take n) (safe := min x.safe n) (base := base) (c := n) (by omega) (by rw [hbl]; exact h1.pk1)
  have h2 := pfiles_set (y := ⟨x.name, x.ptr, x.bs.take n, min x.safe n⟩) hj h3
  refine pdisk_mk (m := m) (l := l.set j ⟨x.name, x.ptr, x.bs.take n, min x.safe n⟩) (hr.put hj rfl ⟨by dsimp only; omega, by dsimp only; omega⟩ hf hu) ?_
  rw [ents_set (y := ⟨x.name, x.ptr, x.bs.take n, min x.safe n⟩) hj rfl rfl]
  exact h2.ix [1, 2, 0]
theorem cut_off {w0 : World} {A : List HProp} {d m v v5 : Nat} {st : DSt} {l : List DF} {cs ds : List Value} (hr : Rep l st) :
    Fun Tryz.prog w0 24 [.pointer (some ⟨d, 0, none⟩), .int .i64 st.keep] (cel d (dcells m { st with deeds := st.deeds + 1, fuse := 0 }) 68 :: cel v cs 73 :: cel v5 ds 3 :: mp .string m (ents l) :: pfiles l :: A)
      (Ret w0 (fun _ : Unit => True) (fun _ => .tuple #[]) (fun _ => pdisk d (offS st.keep { st with deeds := st.deeds + 1, fuse := 0 }) :: A)) :=
  Fun.mono (Fun.perm (disk_off (A := cel v cs 73 :: cel v5 ds 3 :: A) (hr.same (st' := { st with deeds := st.deeds + 1, fuse := 0 }) rfl (by simp))) fun w h => h.ix [0, 3, 4, 1, 2]) fun e w ⟨i, hi, he, hO⟩ => ⟨i, hi, he, hO.pk1.tail.pk1.tail⟩
theorem cut_late {w0 : World} {A : List HProp} : Fun Tryz.prog w0 87 [] A (Ret w0 (fun _ : Unit => True) (fun _ => .tuple #[]) (fun _ => A)) := by
  refine Fun.enter Tryz.func87 rfl Tryz.ntmps87 rfl ?_
  exact WC.skip <| WX.end0 rfl (()) (trivial) rfl (fun _ h => h)
theorem disk_cut_bad {w0 : World} {R : List HProp} {d m : Nat} {st : DSt} {nm : ByteArray} {n : Int} {l : List DF} (hr : Rep l st) (hne : findE nm st ≠ 0) :
    Fun Tryz.prog w0 58 [.pointer (some ⟨d, 0, none⟩), .string nm, .int .i64 n] (cel d (dcells m st) 68 :: mp .string m (ents l) :: R)
      (Ret w0 (fun _ : Unit => True) (fun _ => .int .i64 (findE nm st)) (fun _ => cel d (dcells m st) 68 :: mp .string m (ents l) :: R)) := by
  refine Fun.enter Tryz.func58 rfl Tryz.ntmps58 rfl ?_
  refine WC.seq <| WC.region <| bxc (v := .int _ _) (cs := [.int _ _]) rfl rfl fun b1 => sv (vaI rfl) <| WL.nil <| WX.thenN <| WC.seq <| WC.region <| sv (vmP rfl) <| sv (vmT rfl) <| pm (fun _ h => h.pk2.pk2) <| cl (disk_find_bad hr hne) ct83 rfl fun u hu => sv vmv <| sv (vex rfl rfl) <| sv (vex rfl rfl) <| alz (cs := [.pointer none]) zt73 (by rfl) fun b3 => stc (v := .pointer _) pl73 sz73 rfl rfl rfl <| sv (vaI rfl) <| WL.nil <| WX.thenN <| WC.seq <| WC.seq <| WC.region <| sv (vmI rfl) <| sv (vne rfl rfl) <| WL.nil <| WX.thenN <| ?_
  refine WC.ite rfl (fun h1 => ?_) (fun h1 => ?_)
  · -- then
    exact WC.seq <| WC.region <| sv (vmI rfl) <| sv (vaI rfl) <| WL.nil <| WX.thenN <| WC.ret <| WX.thenR <| WX.ret1 rfl (()) (trivial) rfl (fun w h => h.tail.pk2.tail)
  · -- else
    exact absurd h1 (by simpa using hne)
theorem pm_cut {w0 w : World} {A : List HProp} {a b d m : HProp} {l : List DF} {j c : Nat} {x : DF} {base : Option Addr} (hj : l[j]? = some x) (hc : x.bs.length ≤ c)
    (h : Own w0 (a :: d :: m :: b :: cel x.ptr [.slice base x.bs.length c, .int .i64 x.safe] 75 :: row base c 1 5 (u8s x.bs) :: pfiles (l.eraseIdx j) :: A) w) : Own w0 (d :: a :: b :: m :: pfiles l :: A) w := by
  have h1 := pfile_mk hc (h.ix [4, 5, 6, 0, 1, 2, 3])
  have h2 := pfiles_set (y := x) hj h1
  rw [set_same hj] at h2
  exact h2.ix [2, 1, 4, 3, 0]
theorem disk_cut_ok {w0 : World} {A : List HProp} {d m j : Nat} {n : Int} {st : DSt} {l : List DF} {x : DF} (hr : Rep l st) (hj : l[j]? = some x) (ho : st.off = false) (hd : 0 ≤ st.deeds ∧ st.deeds + 1 ≤ 9223372036854775807) (hn : 0 ≤ n ∧ n ≤ x.bs.length) :
    Fun Tryz.prog w0 58 [.pointer (some ⟨d, 0, none⟩), .string x.name, .int .i64 n] (cel d (dcells m st) 68 :: mp .string m (ents l) :: pfiles l :: A)
      (Ret w0 (fun _ : Unit => True) (fun _ => .int .i64 (if st.fuse - 1 = 0 then 20 else 0)) (fun _ => if st.fuse - 1 = 0 then pdisk d (offS st.keep { st with deeds := st.deeds + 1, fuse := 0 }) :: A
        else pdisk d { st with deeds := st.deeds + 1, fuse := max (st.fuse - 1) 0, files := putV x.name (x.bs.take n.toNat, min x.safe n.toNat) st.files } :: A)) := by
  have hxok := hr.ok x (List.mem_of_getElem? hj)
  obtain ⟨n, rfl⟩ : ∃ k : Nat, n = k := ⟨n.toNat, by omega⟩
  rw [Int.toNat_natCast]
  refine Fun.ex (fun w h => pfile_open (pfiles_out hj h.pk2)) ?_
  rintro ⟨base, c⟩ hc
  dsimp only at hc ⊢
  refine Fun.enter Tryz.func58 rfl Tryz.ntmps58 rfl ?_
  refine WC.seq <| WC.region <| bxc (v := .int _ _) (cs := [.int _ _]) rfl rfl fun b1 => sv (vaI rfl) <| WL.nil <| WX.thenN <| WC.seq <| WC.region <| sv (vmP rfl) <| sv (vmT rfl) <| pm (fun _ h => h.pk5.pk5) <| cl (disk_find ho hj) ct83 rfl fun u hu => sv vmv <| sv (vex rfl rfl) <| sv (vex rfl rfl) <| alz (cs := [.pointer none]) zt73 (by rfl) fun b3 => stc (v := .pointer _) pl73 sz73 rfl rfl rfl <| sv (vaI rfl) <| WL.nil <| WX.thenN <| WC.seq <| WC.seq <| WC.region <| sv (vmI rfl) <| sv (vne rfl rfl) <| WL.nil <| WX.thenN <| ?_
  refine WC.ite rfl (fun h1 => ?_) (fun h1 => ?_)
  · -- then
    exact absurd rfl h1
  · -- else
    refine WC.skip <| WX.thenN <| WC.seq <| ?_
    refine WC.cut0 [(28, .bool (decide ((n : Int) < 0 ∨ (x.bs.length : Int) < n)))] [(0, .pointer _), (5, _), (7, _)] (cel b3 [.pointer (some ⟨x.ptr, 0, none⟩)] 73 :: cel d (dcells m st) 68 :: mp .string m (ents l) :: cel b1 [.int .i64 n] 3 :: cel x.ptr [.slice base x.bs.length c, .int .i64 x.safe] 75 :: row base c 1 5 (u8s x.bs) :: pfiles (l.eraseIdx j) :: A) ⟨rfl, rfl, rfl, trivial⟩ ?_ fun ρh => ?_
    · -- disk.go:106
      refine WC.draws rfl (by kernel_rfl) <| qv (vldc pl3 rfl) <| qvs (vlt rfl rfl) (fun q1 => ?_) (fun q1 => ?_)
      ·
        exact qv (vmB rfl) <| qng rfl <| qng rfl <| qng rfl <| qng rfl <| qng rfl <| qng rfl <| qng rfl <| qv (vpkt rfl) <| WQ.nil <| WX.mid () trivial ⟨bT (by first | omega | simp_all | grind), trivial⟩ ⟨rfl, rfl, rfl, trivial⟩ (fun _ h => h)
      ·
        exact qv (vmB rfl) <| qvg rfl (vldc pl3 rfl) <| qvg rfl (vldc pl73 rfl) <| qvg rfl (vnil rfl) <| qvg rfl (vfld fl75f0 rfl) <| qvg rfl (vldc pl23 rfl) <| qvg rfl (vlen Tryz.underlying23 rfl) <| qvg rfl (vgt rfl rfl) <| qv (vpkf rfl) <| WQ.nil <| WX.mid () trivial ⟨bI (by first | omega | simp_all | grind), trivial⟩ ⟨rfl, rfl, rfl, trivial⟩ (fun _ h => h)
    refine WC.ite rfl (fun h2 => ?_) (fun h2 => ?_)
    · -- then
      omega
    · -- else
      exact WC.skip <| WX.thenN <| WC.seq <| WC.region <| sv (vmP rfl) <| sv (vfn rfl) <| pm (fun _ h => (pm_cut hj hc h)) <| cl (disk_deed_any hr.fuse hd ct86 ct87 (fun _ => cut_do (st' := { st with deeds := st.deeds + 1, fuse := max (st.fuse - 1) 0, files := putV x.name (x.bs.take n, min x.safe n) st.files }) hr hj (by omega) (by have := hr.fuse; dsimp only; omega) rfl) (fun _ => cut_late) (fun _ => cut_off hr)) ct32 rfl fun u2 hu2 => sv (vaI rfl) <| WL.nil <| WX.thenN <| WC.ret <| WX.ret1 rfl (()) (trivial) rfl (fun _ h => h)
theorem disk_cut_arg {w0 : World} {A : List HProp} {d m j : Nat} {n : Int} {st : DSt} {l : List DF} {x : DF} (hr : Rep l st) (hj : l[j]? = some x) (ho : st.off = false) (hn : n < 0 ∨ x.bs.length < n) :
    Fun Tryz.prog w0 58 [.pointer (some ⟨d, 0, none⟩), .string x.name, .int .i64 n] (cel d (dcells m st) 68 :: mp .string m (ents l) :: pfiles l :: A)
      (Ret w0 (fun _ : Unit => True) (fun _ => .int .i64 1) (fun _ => pdisk d st :: A)) := by
  have hxok := hr.ok x (List.mem_of_getElem? hj)
  refine Fun.ex (fun w h => pfile_open (pfiles_out hj h.pk2)) ?_
  rintro ⟨base, c⟩ hc
  dsimp only at hc ⊢
  refine Fun.enter Tryz.func58 rfl Tryz.ntmps58 rfl ?_
  refine WC.seq <| WC.region <| bxc (v := .int _ _) (cs := [.int _ _]) rfl rfl fun b1 => sv (vaI rfl) <| WL.nil <| WX.thenN <| WC.seq <| WC.region <| sv (vmP rfl) <| sv (vmT rfl) <| pm (fun _ h => h.pk5.pk5) <| cl (disk_find ho hj) ct83 rfl fun u hu => sv vmv <| sv (vex rfl rfl) <| sv (vex rfl rfl) <| alz (cs := [.pointer none]) zt73 (by rfl) fun b3 => stc (v := .pointer _) pl73 sz73 rfl rfl rfl <| sv (vaI rfl) <| WL.nil <| WX.thenN <| WC.seq <| WC.seq <| WC.region <| sv (vmI rfl) <| sv (vne rfl rfl) <| WL.nil <| WX.thenN <| ?_
  refine WC.ite rfl (fun h1 => ?_) (fun h1 => ?_)
  · -- then
    exact absurd rfl h1
  · -- else
    refine WC.skip <| WX.thenN <| WC.seq <| ?_
    refine WC.cut0 [(28, .bool (decide (n < 0 ∨ (x.bs.length : Int) < n)))] [(0, .pointer _), (5, _), (7, _)] (cel b3 [.pointer (some ⟨x.ptr, 0, none⟩)] 73 :: cel d (dcells m st) 68 :: mp .string m (ents l) :: cel b1 [.int .i64 n] 3 :: cel x.ptr [.slice base x.bs.length c, .int .i64 x.safe] 75 :: row base c 1 5 (u8s x.bs) :: pfiles (l.eraseIdx j) :: A) ⟨rfl, rfl, rfl, trivial⟩ ?_ fun ρh => ?_
    · -- disk.go:106
      refine WC.draws rfl (by kernel_rfl) <| qv (vldc pl3 rfl) <| qvs (vlt rfl rfl) (fun q1 => ?_) (fun q1 => ?_)
      ·
        exact qv (vmB rfl) <| qng rfl <| qng rfl <| qng rfl <| qng rfl <| qng rfl <| qng rfl <| qng rfl <| qv (vpkt rfl) <| WQ.nil <| WX.mid () trivial ⟨bT (by first | omega | simp_all | grind), trivial⟩ ⟨rfl, rfl, rfl, trivial⟩ (fun _ h => h)
      ·
        exact qv (vmB rfl) <| qvg rfl (vldc pl3 rfl) <| qvg rfl (vldc pl73 rfl) <| qvg rfl (vnil rfl) <| qvg rfl (vfld fl75f0 rfl) <| qvg rfl (vldc pl23 rfl) <| qvg rfl (vlen Tryz.underlying23 rfl) <| qvg rfl (vgt rfl rfl) <| qv (vpkf rfl) <| WQ.nil <| WX.mid () trivial ⟨bI (by first | omega | simp_all | grind), trivial⟩ ⟨rfl, rfl, rfl, trivial⟩ (fun _ h => h)
    refine WC.ite rfl (fun h2 => ?_) (fun h2 => ?_)
    · -- then
      exact WC.seq <| WC.region <| sv (vaI rfl) <| WL.nil <| WX.thenN <| WC.ret <| WX.thenR <| WX.ret1 rfl (()) (trivial) rfl (fun w h => pdisk_mk hr ((pm_cut hj hc h).ix [0, 3, 4, 1, 2] |> fun h2 => h2.pk4.tail.pk3.tail))
    · -- else
      omega
theorem disk_cut {w0 : World} {A : List HProp} {d : Nat} {n : Int} {st : DSt} {nm : ByteArray} (hd : 0 ≤ st.deeds ∧ st.deeds + 1 ≤ 9223372036854775807) :
    Fun Tryz.prog w0 58 [.pointer (some ⟨d, 0, none⟩), .string nm, .int .i64 n] (pdisk d st :: A)
      (Ret w0 (fun _ : Unit => True) (fun _ => .int .i64 (cutS nm n st).2) (fun _ => pdisk d (cutS nm n st).1 :: A)) := by
  refine Fun.ex (fun w h => pdisk_open h) ?_
  rintro ⟨m, l⟩ hl
  dsimp only at hl ⊢
  by_cases hne : findE nm st = 0
  · obtain ⟨ho, v, hf⟩ := findE_ok hne
    obtain ⟨j, x, hj, rfl, rfl⟩ := hl.at hf
    by_cases hn : n < 0 ∨ (x.bs.length : Int) < n
    · have hk : cutS x.name n st = (st, 1) := by unfold cutS; rw [if_neg (by rw [ho]; decide), hf]; dsimp only; rw [if_pos hn]
      rw [hk]
      exact disk_cut_arg hl hj ho hn
    · have hk : cutS x.name n st = deedS (putV x.name (x.bs.take n.toNat, min x.safe n.toNat)) id st := by unfold cutS; rw [if_neg (by rw [ho]; decide), hf]; dsimp only; rw [if_neg hn]
      refine (disk_cut_ok hl hj ho hd (by omega)).mono fun e w ⟨i, hi, he, hO⟩ => ⟨i, hi, ?_, ?_⟩
      · rw [he, hk]; unfold deedS; split <;> rfl
      · rw [hk]; unfold deedS
        dsimp only at hO
        split at hO
        · rename_i h; rw [if_pos h]; exact hO
        · rename_i h; rw [if_neg h]; exact hO
  · rw [(readS_bad hne).2.2 n]
    exact (disk_cut_bad hl hne).mono fun e w ⟨i, hi, he, hO⟩ => ⟨i, hi, he, pdisk_mk hl hO⟩
end Go.Proofs.YthljpljbpbkkcaaGreatDoor
end
section
set_option linter.unusedVariables false
set_option linter.unusedSimpArgs false
set_option maxRecDepth 4000
namespace Go.Proofs.YthljpljbpbkkcaaGreatDoor
open Go.Sl Go.RowKit

section
variable {w0 : World} {A : List HProp} {d : Nat} {st st' : DSt} {nm : ByteArray} {e : Int}
theorem disk_append_at {n ca : Nat} {ba : Option Addr} {b : List UInt8} [hR : Reads w0 A ba (u8s b)] (hs : nm.size ≤ 140737488351232) (hd : 0 ≤ st.deeds ∧ st.deeds + 1 ≤ 9223372036854775807) (hb : b.length ≤ 140737488351232) (hn : n = b.length) (h : appendS nm b st = (st', e)) :
    Fun Tryz.prog w0 8 [.pointer (some ⟨d, 0, none⟩), .string nm, .slice ba n ca] (pdisk d st :: A) (Ret w0 (fun _ : Unit => True) (fun _ => .int .i64 e) (fun _ => pdisk d st' :: A)) := by
  have := disk_append (w0 := w0) (A := A) (d := d) (ca := ca) (hR := hR) hs hd hb hn
  rw [h] at this; exact this
theorem disk_sync_at (hd : 0 ≤ st.deeds ∧ st.deeds + 1 ≤ 9223372036854775807) (h : syncS nm st = (st', e)) :
    Fun Tryz.prog w0 100 [.pointer (some ⟨d, 0, none⟩), .string nm] (pdisk d st :: A) (Ret w0 (fun _ : Unit => True) (fun _ => .int .i64 e) (fun _ => pdisk d st' :: A)) := by
  have := disk_sync (w0 := w0) (A := A) (d := d) (nm := nm) hd
  rw [h] at this; exact this
theorem disk_cut_at {n : Int} (hd : 0 ≤ st.deeds ∧ st.deeds + 1 ≤ 9223372036854775807) (h : cutS nm n st = (st', e)) :
    Fun Tryz.prog w0 58 [.pointer (some ⟨d, 0, none⟩), .string nm, .int .i64 n] (pdisk d st :: A) (Ret w0 (fun _ : Unit => True) (fun _ => .int .i64 e) (fun _ => pdisk d st' :: A)) := by
  have := disk_cut (w0 := w0) (A := A) (d := d) (nm := nm) (n := n) hd
  rw [h] at this; exact this
theorem disk_read_at {bs : List UInt8} (h : readS nm st = (bs, e)) :
    Fun Tryz.prog w0 56 [.pointer (some ⟨d, 0, none⟩), .string nm] (pdisk d st :: A)
      (Ret w0 (fun i : Option Addr × Nat => bs.length ≤ i.2) (fun i => .tuple #[.slice i.1 bs.length i.2, .int .i64 e]) (fun i => row i.1 i.2 1 5 (u8s bs) :: pdisk d st :: A)) := by
  have := disk_read (w0 := w0) (A := A) (d := d) (nm := nm) (st := st)
  rw [h] at this; exact this
theorem disk_off_at {keep : Int} : Fun Tryz.prog w0 24 [.pointer (some ⟨d, 0, none⟩), .int .i64 keep] (pdisk d st :: A) (Ret w0 (fun _ : Unit => True) (fun _ => .tuple #[]) (fun _ => pdisk d (offS keep st) :: A)) := by
  refine Fun.ex (fun w h => pdisk_open h) ?_
  rintro ⟨m, l⟩ hl
  exact disk_off hl
theorem disk_up_at {b : Bool} (h : st.off = b) : Fun Tryz.prog w0 54 [.pointer (some ⟨d, 0, none⟩)] (pdisk d st :: A) (Ret w0 (fun _ : Unit => True) (fun _ => .bool (!b)) (fun _ => pdisk d st :: A)) := h ▸ disk_up
theorem disk_deeds_at {n : Int} (h : st.deeds = n) : Fun Tryz.prog w0 27 [.pointer (some ⟨d, 0, none⟩)] (pdisk d st :: A) (Ret w0 (fun _ : Unit => True) (fun _ => .int .i64 n) (fun _ => pdisk d st :: A)) := h ▸ disk_deeds
end
/-- one file of a disk that is on and was not armed -/
structure One (st : DSt) (nm : ByteArray) (all : List UInt8) (safe : Nat) (n : Int) : Prop where
  off : st.off = false
  fuse : st.fuse = 0
  deeds : st.deeds = n
  file : st.files nm = some (all, safe)
section
variable {st : DSt} {nm : ByteArray} {all b : List UInt8} {safe : Nat} {n : Int}
theorem One.append0 (ho : st.off = false) (hf : st.fuse = 0) (hd : st.deeds = n) (hV : (st.files nm).getD ([], 0) = (all, safe)) (hn : okName nm) (hb : all.length + b.length ≤ 16777216) :
    ∃ st', appendS nm b st = (st', 0) ∧ One st' nm (all ++ b) safe (n + 1) := by
  have hk := appendS_eq (b := b) ho hn (V := (all ++ b, safe)) (n := all.length + b.length) (by unfold appendV; rw [hV]) (by simp)
  rw [if_pos hb, if_neg (by rw [hf]; decide)] at hk
  exact ⟨_, hk, ho, by dsimp only; rw [hf]; rfl, by dsimp only; rw [hd], by simp [putV]⟩
theorem One.append (h : One st nm all safe n) (hn : okName nm) (hb : all.length + b.length ≤ 16777216) : ∃ st', appendS nm b st = (st', 0) ∧ One st' nm (all ++ b) safe (n + 1) :=
  One.append0 h.off h.fuse h.deeds (by rw [h.file]; rfl) hn hb
theorem One.sync (h : One st nm all safe n) : ∃ st', syncS nm st = (st', 0) ∧ One st' nm all all.length (n + 1) := by
  have := h.deeds
  have hk : syncS nm st = deedS (putV nm (all, all.length)) id st := by unfold syncS; rw [if_neg (by rw [h.off]; decide), h.file]
  unfold deedS at hk
  rw [if_neg (by rw [h.fuse]; decide)] at hk
  exact ⟨_, hk, h.off, by dsimp only; rw [h.fuse]; rfl, by dsimp only; rw [h.deeds], by simp [putV]⟩
theorem One.offon (h : One st nm all safe n) (keep : Int) : readS nm (offS keep st) = ([], 20) ∧ One { offS keep st with off := false } nm (all.take (keptOf keep (all, safe))) (keptOf keep (all, safe)) n := by
  have ho : ¬ st.off = true := by rw [h.off]; decide
  constructor
  · unfold readS offS; rw [if_neg ho]; simp
  · unfold offS; rw [if_neg ho]
    refine ⟨rfl, h.fuse, h.deeds, ?_⟩
    dsimp only
    rw [h.file]; rfl
/-- armed for the second deed from now on -/
theorem One.armed (h : One st nm all safe n) (hn : okName nm) (hb : all.length + b.length ≤ 16777216) : ∃ st1 st2, appendS nm b { st with fuse := max 2 0, keep := 0 } = (st1, 0) ∧ st1.deeds = n + 1 ∧ syncS nm st1 = (st2, 20) ∧ st2.off = true ∧ st2.deeds = n + 2 := by
  have hk := appendS_eq (b := b) (st := { st with fuse := max 2 0, keep := 0 }) h.off hn (V := (all ++ b, safe)) (n := all.length + b.length) (by unfold appendV; dsimp only; rw [h.file]; rfl) (by simp)
  rw [if_pos hb, if_neg (by dsimp only; decide)] at hk
  have ho : ¬ st.off = true := by rw [h.off]; decide
  obtain ⟨st1, hst⟩ : ∃ st1, st1 = ({ st with fuse := 1, keep := 0, deeds := st.deeds + 1, files := putV nm (all ++ b, safe) st.files } : DSt) := ⟨_, rfl⟩
  have hk' : appendS nm b { st with fuse := max 2 0, keep := 0 } = (st1, 0) := by rw [hk, hst]; rfl
  have hs : syncS nm st1 = deedS (putV nm (all ++ b, (all ++ b).length)) id st1 := by unfold syncS; rw [if_neg (by rw [hst]; exact ho)]; rw [hst]; simp [putV]
  unfold deedS at hs
  rw [if_pos (by rw [hst]; rfl)] at hs
  refine ⟨_, _, hk', by rw [hst]; dsimp only; rw [h.deeds], hs, ?_, ?_⟩
  · unfold offS; rw [if_neg (by dsimp only; rw [hst]; exact ho)]
  · unfold offS; rw [if_neg (by dsimp only; rw [hst]; exact ho)]; dsimp only; rw [hst]; dsimp only; rw [h.deeds]; omega
theorem One.read (h : One st nm all safe n) : readS nm st = (all, 0) := by
  unfold readS; rw [if_neg (by rw [h.off]; decide), h.file]
end
end Go.Proofs.YthljpljbpbkkcaaGreatDoor
end
section
set_option linter.unusedVariables false
set_option linter.unusedSimpArgs false
set_option maxRecDepth 4000
namespace Go.Proofs.YthljpljbpbkkcaaGreatDoor
open Go.Sl Go.RowKit Go.Pack Go.Journal

theorem journal_low {w0 : World} {A : List HProp} {base : Option Addr} {c k n : Nat} {bs : List UInt8} (hk : k = bs.length) (hb : bs.length ≤ 1099511627776) :
    Fun Tryz.prog w0 119 [.slice base k c, .int .u32 n] (row base c 1 5 (u8s bs) :: A)
      (Ret w0 (fun i : Option Addr × Nat => k + 4 ≤ i.2) (fun i => .slice i.1 (k + 4) i.2) (fun i => row i.1 i.2 1 5 (u8s (bs ++ le4 n)) :: A)) := by
  refine Fun.enter Tryz.func119 rfl Tryz.ntmps119 rfl ?_
  exact WC.seq <| WC.region <| sv (vaS rfl) <| WL.nil <| WX.thenN <| WC.seq <| WC.region <| sv (vmS rfl) <| sv (vmI rfl) <| sv (vcv is70 Tryz.underlying5 rfl) <| sv (vmI rfl) <| sv (vshr rfl rfl (by omega)) <| sv (vcv is70 Tryz.underlying5 rfl) <| sv (vmI rfl) <| sv (vshr rfl rfl (by omega)) <| sv (vcv is70 Tryz.underlying5 rfl) <| sv (vmI rfl) <| sv (vshr rfl rfl (by omega)) <| sv (vcv is70 Tryz.underlying5 rfl) <| bsln [.int _ _, .int _ _, .int _ _, .int _ _] Tryz.underlying23 zt5 rfl rfl (by intro v hv; simp only [List.mem_cons, List.not_mem_nil, or_false] at hv; rcases hv with rfl | rfl | rfl | rfl <;> rfl) (by simp) fun b8 => pm (fun _ h => (cel_eq (low_vals n) h).pk1) <| apb Tryz.underlying23 zt5 rfl rfl hk rfl reads (by omega) fun base9 c9 hc9 =>sv (vaS rfl) <| WL.nil <| WX.thenN <| WC.ret <| WX.ret1 rfl ((base9, c9)) (hc9) rfl (fun w h => h.pk1.tail)
theorem u8s_at0 {bs : List UInt8} {i : Nat} (h : i < bs.length) : (u8s bs)[((i : Int)).toNat]? = some (.int .u8 ((bs.getD i 0).toNat : Int)) := by
  have : ((i : Int)).toNat = i := by omega
  rw [this, u8s_at h, List.getD_eq_getElem?_getD, List.getElem?_eq_getElem h]; rfl
theorem journal_number {w0 : World} {A : List HProp} {base : Option Addr} {c k : Nat} {bs : List UInt8} (hR : RdC w0 A base (u8s bs)) (hk : k = bs.length) (h4 : 4 ≤ bs.length) :
    Fun Tryz.prog w0 84 [.slice base k c] A (Ret w0 (fun _ : Unit => True) (fun _ => .int .u32 (num4 bs : Nat)) (fun _ => A)) := by
  refine Fun.enter Tryz.func84 rfl Tryz.ntmps84 rfl ?_
  exact WC.seq <| WC.region <| sv (vaI rfl) <| WL.nil <| WX.thenN <| WC.seq <| WC.draws rfl (by kernel_rfl) <| qv (vmS rfl) <| qv (vix1 Tryz.underlying23 sz5 rfl rfl (by omega) (by omega) hR (by simp; omega)) <| qv (vldo pl5 rfl hR (u8s_at0 (i := 0) (by omega))) <| qv (vcv is5 Tryz.underlying70 rfl) <| qv (vmS rfl) <| qv (vix1 Tryz.underlying23 sz5 rfl rfl (by omega) (by omega) hR (by simp; omega)) <| qv (vldo pl5 rfl hR (u8s_at0 (i := 1) (by omega))) <| qv (vcv is5 Tryz.underlying70 rfl) <| qv (vshl rfl rfl (by omega)) <| qv (vor rfl rfl) <| qv (vmS rfl) <| qv (vix1 Tryz.underlying23 sz5 rfl rfl (by omega) (by omega) hR (by simp; omega)) <| qv (vldo pl5 rfl hR (u8s_at0 (i := 2) (by omega))) <| qv (vcv is5 Tryz.underlying70 rfl) <| qv (vshl rfl rfl (by omega)) <| qv (vor rfl rfl) <| qv (vmS rfl) <| qv (vix1 Tryz.underlying23 sz5 rfl rfl (by omega) (by omega) hR (by simp; omega)) <| qv (vldo pl5 rfl hR (u8s_at0 (i := 3) (by omega))) <| qv (vcv is5 Tryz.underlying70 rfl) <| qv (vshl rfl rfl (by omega)) <| qv (vor rfl rfl) <| qv (vaI rfl) <| WQ.nil <| WX.thenN <| WC.ret <| WX.ret1 rfl (()) (trivial) (iv (number_raw bs)) (fun _ h => h)
theorem w32 {n : Nat} (h : n < 4294967296) : IntKind.u32.wrap (n : Int) = (n : Int) := by rw [IntKind.wrap_u32]; omega
theorem w64 {n : Nat} (h : n < 4294967296) : IntKind.i64.wrap (n : Int) = (n : Int) := by
  rw [IntKind.wrap_i64]; omega
theorem sum_lt (bs : List UInt8) : sum bs < 4294967296 := (~~~ (crc (BitVec.allOnes 32) bs)).isLt
theorem frameB_len (bs : List UInt8) : (frameB bs).length = bs.length + 8 := by simp [frameB, le4]
theorem pack_sum_k {w0 : World} {A : List HProp} {base : Option Addr} {c k : Nat} {bs : List UInt8} (hR : RdC w0 A base (u8s bs)) (hk : k = bs.length) (hb : bs.length ≤ 140737488355328) :
    Fun Tryz.prog w0 85 [.slice base k c] A (Ret w0 (fun _ : Unit => True) (fun _ => .int .u32 (sum bs)) (fun _ => A)) := hk ▸ pack_sum (hR := ⟨hR⟩) hb
theorem journal_frame {w0 : World} {A : List HProp} {base : Option Addr} {c k : Nat} {bs : List UInt8} (hR : RdC w0 A base (u8s bs)) (hk : k = bs.length) (hb : bs.length ≤ 1048576) :
    Fun Tryz.prog w0 99 [.slice base k c] A (Ret w0 (fun i : Option Addr × Nat => (frameB bs).length ≤ i.2) (fun i => .slice i.1 (frameB bs).length i.2) (fun i => row i.1 i.2 1 5 (u8s (frameB bs)) :: A)) := by
  refine Fun.enter Tryz.func99 rfl Tryz.ntmps99 rfl ?_
  refine WC.seq <| WC.region <| sv (vaS rfl) <| WL.nil <| WX.thenN <| WC.seq <| WC.region <| sv (vmS rfl) <| sv (vlen Tryz.underlying23 rfl) <| sv (vadd rfl rfl (by omega)) <| mk Tryz.underlying23 zt5 rfl rfl (by omega) (by omega) (by omega) (by omega) fun b2 => sv (vmS rfl) <| sv (vlen Tryz.underlying23 rfl) <| sv (vcw is3 Tryz.underlying70 rfl (w32 (by omega))) <| pm (fun _ h => made_row (by simp only [maxLen]; omega) h) <| cl (journal_low (bs := []) rfl (by simp)) ct119 rfl fun r4 hr4 => sv (vaS rfl) <| WL.nil <| WX.thenN <| WC.seq <| WC.region <| sv (vmS rfl) <| sv (vmS rfl) <| sv (vslHM Tryz.underlying23 sz5 rfl rfl rfl (by omega) (by omega) (by omega)) <| sv (vmS rfl) <| apf Tryz.underlying23 zt5 rfl rfl reads rfl hR.cons hk (by omega) fun base6 c6 X hc6 hX =>cl (pack_sum_k hX (by simp [le4, hk]; omega) (by simp [le4]; omega)) ct85 rfl fun _ _ => pm (fun _ h => h.pk1) <| cl (journal_low (bs := [] ++ le4 k) (n := sum ([] ++ le4 k ++ bs)) (by simp [le4]) (by simp [le4])) ct119 rfl fun r8 hr8 => sv (vaS rfl) <| WL.nil <| WX.thenN <| WC.seq <| WC.region <| sv (vmS rfl) <| sv (vmS rfl) <| apb Tryz.underlying23 zt5 rfl rfl (by simp [le4]) hk hR.cons.cons (by simp [le4]; omega) fun base9 c9 hc9 =>sv (vaS rfl) <| WL.nil <| WX.thenN <| WC.ret <| WX.ret1 rfl ((base9, c9)) (by rw [frameB_len]; omega) ?_ (fun w h => ?_)
  · show Value.slice _ _ _ = Value.slice _ _ _
    rw [frameB_len]
    congr 1
    rw [List.length_nil]; omega
  · have e : u8s (frameB bs) = u8s ([] ++ le4 k ++ le4 (sum ([] ++ le4 k ++ bs)) ++ bs) := by rw [hk]; rfl
    rw [e]
    exact h.pk1.tail
theorem nat8 (n : Nat) : ((8 : Int) + (n : Int)).toNat = 8 + n := by omega
theorem next_val {b1 b1' b2 b2' : Option Addr} {a1 a1' a2 a2' a3 a3' a4 a4' : Nat} (e0 : b1 = b1') (f0 : b2 = b2') (e1 : a1 = a1') (e2 : a2 = a2') (e3 : a3 = a3') (e4 : a4 = a4') : Value.tuple #[.slice b1 a1 a2, .slice b2 a3 a4, .bool true] = .tuple #[.slice b1' a1' a2', .slice b2' a3' a4', .bool true] := by rw [e0, f0, e1, e2, e3, e4]
theorem journal_next_none {w0 : World} {A : List HProp} {base : Option Addr} {c k : Nat} {bs : List UInt8} (hR : RdC w0 A base (u8s bs)) (hk : k = bs.length) (hc : bs.length ≤ c) (hb : bs.length ≤ 1099511627776) (hn : nextB bs = none) :
    Fun Tryz.prog w0 57 [.slice base k c] A (Ret w0 (fun _ : Unit => True) (fun _ => .tuple #[.slice none 0 0, .slice base k c, .bool false]) (fun _ => A)) := by
  have hlt := num4_lt bs
  have hlt2 := num4_lt (bs.drop 4)
  unfold nextB at hn
  refine Fun.enter Tryz.func57 rfl Tryz.ntmps57 rfl ?_
  refine WC.seq <| WC.region <| sv (vaS rfl) <| sv (vaS rfl) <| sv (vaB rfl) <| WL.nil <| WX.thenN <| WC.seq <| WC.seq <| WC.region <| sv (vmS rfl) <| sv (vlen Tryz.underlying23 rfl) <| sv (vlt rfl rfl) <| WL.nil <| WX.thenN <| ?_
  refine WC.ite rfl (fun h1 => ?_) (fun h1 => ?_)
  · -- then
    exact WC.seq <| WC.region <| sv (vmS rfl) <| sv (vaS rfl) <| sv (vaS rfl) <| sv (vaB rfl) <| WL.nil <| WX.thenN <| WC.ret <| WX.thenR <| WX.ret3 rfl (()) (trivial) rfl (fun _ h => h)
  · -- else
    rw [if_neg (by omega)] at hn
    refine WC.skip <| WX.thenN <| WC.seq <| WC.region <| sv (vmS rfl) <| cl (journal_number hR hk (by omega)) ct84 rfl fun _ _ => sv (vaI rfl) <| WL.nil <| WX.thenN <| WC.seq <| ?_
    refine WC.cut0 [(22, .bool (decide ((1048576 : Int) < (num4 bs : Nat) ∨ (bs.length : Int) - 8 < (num4 bs : Nat))))] [(0, .slice _ _ _), (5, .int _ _)] (A) ⟨rfl, rfl, trivial⟩ ?_ fun ρh => ?_
    · -- journal.go:39
      refine WC.region <| sv (vmI rfl) <| svs (vgt rfl rfl) (fun q1 => ?_) (fun q1 => ?_)
      ·
        exact sv (vmB rfl) <| sng rfl <| sng rfl <| sng rfl <| sng rfl <| sng rfl <| sng rfl <| sv (vpkt rfl) <| WL.nil <| WX.mid () trivial ⟨bT (by first | omega | simp_all | grind), trivial⟩ ⟨rfl, rfl, trivial⟩ (fun _ h => h)
      ·
        exact sv (vmB rfl) <| svg rfl (vmI rfl) <| svg rfl (vcw is70 Tryz.underlying3 rfl (w64 hlt)) <| svg rfl (vmS rfl) <| svg rfl (vlen Tryz.underlying23 rfl) <| svg rfl (vsub rfl rfl (by omega)) <| svg rfl (vgt rfl rfl) <| sv (vpkf rfl) <| WL.nil <| WX.mid () trivial ⟨bI (by first | omega | simp_all | grind), trivial⟩ ⟨rfl, rfl, trivial⟩ (fun _ h => h)
    refine WC.ite rfl (fun h2 => ?_) (fun h2 => ?_)
    · -- then
      exact WC.seq <| WC.region <| sv (vmS rfl) <| sv (vaS rfl) <| sv (vaS rfl) <| sv (vaB rfl) <| WL.nil <| WX.thenN <| WC.ret <| WX.thenR <| WX.ret3 rfl (()) (trivial) rfl (fun _ h => h)
    · -- else
      rw [if_neg (by omega)] at hn
      refine WC.skip <| WX.thenN <| WC.seq <| WC.region <| sv (vmI rfl) <| sv (vcw is70 Tryz.underlying3 rfl (w64 hlt)) <| sv (vadd rfl rfl (by omega)) <| sv (vaI rfl) <| WL.nil <| WX.thenN <| WC.seq <| WC.region <| sv (vmS rfl) <| sv (vmI rfl) <| sv (vmI rfl) <| sv (vslLHM Tryz.underlying23 sz5 rfl rfl rfl rfl (by omega) (by omega) (by omega) (by omega)) <| sv (vaS rfl) <| WL.nil <| WX.thenN <| WC.seq <| WC.seq <| WC.plan (.pre [0, 1, 2] (.one [5, 6] 3 (.done [4, 7, 8]))) rfl (by kernel_rfl) <| WPl.pre (trivial) <| dv (fun g => (vmS rfl)) <| dv (fun g => (vslHM Tryz.underlying23 sz5 rfl rfl rfl (by omega) (by omega) (by omega))) <| dv (fun g => (vmS rfl)) <| WD.nil <| WPl.one (fun g => g ++ A) ([]) (fun _ => trivial) (rfl) <| dv (fun g => (vmS rfl)) <| dv (fun g => (vslL Tryz.underlying23 sz5 rfl rfl (by omega) (by omega))) <| WD.eff rfl <| apf Tryz.underlying23 zt5 rfl rfl (rdbT hR 4) (by rw [List.length_take]; omega) (rdb hR 8 (8 + num4 bs) (num4 bs) (by omega)) (by rw [List.length_take, List.length_drop]; omega) (by omega) fun base8 c8 X hc8 hX =>WL.nil <| WX.br <| WPl.fin (⟨[_], rfl⟩) <| dcl (fun g => Fun.quiet (pack_sum_k hX (by rw [List.length_append, List.length_take, List.length_take, List.length_drop]; omega) (by rw [List.length_append, List.length_take, List.length_take, List.length_drop]; omega))) ct85 rfl <| dcl (fun g => Fun.quiet (journal_number (rdbL hR.cons 4 c hc) (by rw [List.length_drop]; omega) (by rw [List.length_drop]; omega))) ct84 rfl <| dv (fun g => (vne rfl rfl)) <| WD.nil <| WX.thenN <| ?_
      refine WC.ite rfl (fun h3 => ?_) (fun h3 => ?_)
      · -- then
        exact WC.seq <| WC.region <| sv (vmS rfl) <| sv (vaS rfl) <| sv (vaS rfl) <| sv (vaB rfl) <| WL.nil <| WX.thenN <| WC.ret <| WX.thenR <| WX.ret3 rfl (()) (trivial) rfl (fun w h => h.tail)
      · -- else
        exact absurd hn (by rw [if_neg (by omega)]; simp)
theorem journal_next_some {w0 : World} {A : List HProp} {base : Option Addr} {c k m : Nat} {bs : List UInt8} (hR : RdC w0 A base (u8s bs)) (hk : k = bs.length) (hc : bs.length ≤ c) (hb : bs.length ≤ 1099511627776) (hn : nextB bs = some m) :
    Fun Tryz.prog w0 57 [.slice base k c] A (Ret w0 (fun _ : Unit => True)
      (fun _ => .tuple #[.slice (slB base 8 (8 + m) 1) m m, .slice (slB base (8 + m) c 1) (bs.drop (8 + m)).length (c - (8 + m)), .bool true]) (fun _ => A)) := by
  have hlt := num4_lt bs
  have hlt2 := num4_lt (bs.drop 4)
  have hle := nextB_le hn
  unfold nextB at hn
  refine Fun.enter Tryz.func57 rfl Tryz.ntmps57 rfl ?_
  refine WC.seq <| WC.region <| sv (vaS rfl) <| sv (vaS rfl) <| sv (vaB rfl) <| WL.nil <| WX.thenN <| WC.seq <| WC.seq <| WC.region <| sv (vmS rfl) <| sv (vlen Tryz.underlying23 rfl) <| sv (vlt rfl rfl) <| WL.nil <| WX.thenN <| ?_
  refine WC.ite rfl (fun h1 => ?_) (fun h1 => ?_)
  · -- then
    exact absurd hn (by rw [if_pos (by omega)]; simp)
  · -- else
    rw [if_neg (by omega)] at hn
    refine WC.skip <| WX.thenN <| WC.seq <| WC.region <| sv (vmS rfl) <| cl (journal_number hR hk (by omega)) ct84 rfl fun _ _ => sv (vaI rfl) <| WL.nil <| WX.thenN <| WC.seq <| ?_
    refine WC.cut0 [(22, .bool (decide ((1048576 : Int) < (num4 bs : Nat) ∨ (bs.length : Int) - 8 < (num4 bs : Nat))))] [(0, .slice _ _ _), (5, .int _ _)] (A) ⟨rfl, rfl, trivial⟩ ?_ fun ρh => ?_
    · -- journal.go:39
      refine WC.region <| sv (vmI rfl) <| svs (vgt rfl rfl) (fun q1 => ?_) (fun q1 => ?_)
      ·
        exact sv (vmB rfl) <| sng rfl <| sng rfl <| sng rfl <| sng rfl <| sng rfl <| sng rfl <| sv (vpkt rfl) <| WL.nil <| WX.mid () trivial ⟨bT (by first | omega | simp_all | grind), trivial⟩ ⟨rfl, rfl, trivial⟩ (fun _ h => h)
      ·
        exact sv (vmB rfl) <| svg rfl (vmI rfl) <| svg rfl (vcw is70 Tryz.underlying3 rfl (w64 hlt)) <| svg rfl (vmS rfl) <| svg rfl (vlen Tryz.underlying23 rfl) <| svg rfl (vsub rfl rfl (by omega)) <| svg rfl (vgt rfl rfl) <| sv (vpkf rfl) <| WL.nil <| WX.mid () trivial ⟨bI (by first | omega | simp_all | grind), trivial⟩ ⟨rfl, rfl, trivial⟩ (fun _ h => h)
    refine WC.ite rfl (fun h2 => ?_) (fun h2 => ?_)
    · -- then
      exact absurd hn (by rw [if_pos (by omega)]; simp)
    · -- else
      rw [if_neg (by omega)] at hn
      have hm : m = num4 bs := by split at hn <;> simp at hn; exact hn.symm
      rw [hm] at hle ⊢
      refine WC.skip <| WX.thenN <| WC.seq <| WC.region <| sv (vmI rfl) <| sv (vcw is70 Tryz.underlying3 rfl (w64 hlt)) <| sv (vadd rfl rfl (by omega)) <| sv (vaI rfl) <| WL.nil <| WX.thenN <| WC.seq <| WC.region <| sv (vmS rfl) <| sv (vmI rfl) <| sv (vmI rfl) <| sv (vslLHM Tryz.underlying23 sz5 rfl rfl rfl rfl (by omega) (by omega) (by omega) (by omega)) <| sv (vaS rfl) <| WL.nil <| WX.thenN <| WC.seq <| WC.seq <| WC.plan (.pre [0, 1, 2] (.one [5, 6] 3 (.done [4, 7, 8]))) rfl (by kernel_rfl) <| WPl.pre (trivial) <| dv (fun g => (vmS rfl)) <| dv (fun g => (vslHM Tryz.underlying23 sz5 rfl rfl rfl (by omega) (by omega) (by omega))) <| dv (fun g => (vmS rfl)) <| WD.nil <| WPl.one (fun g => g ++ A) ([]) (fun _ => trivial) (rfl) <| dv (fun g => (vmS rfl)) <| dv (fun g => (vslL Tryz.underlying23 sz5 rfl rfl (by omega) (by omega))) <| WD.eff rfl <| apf Tryz.underlying23 zt5 rfl rfl (rdbT hR 4) (by rw [List.length_take]; omega) (rdb hR 8 (8 + num4 bs) (num4 bs) (by omega)) (by rw [List.length_take, List.length_drop]; omega) (by omega) fun base8 c8 X hc8 hX =>WL.nil <| WX.br <| WPl.fin (⟨[_], rfl⟩) <| dcl (fun g => Fun.quiet (pack_sum_k hX (by rw [List.length_append, List.length_take, List.length_take, List.length_drop]; omega) (by rw [List.length_append, List.length_take, List.length_take, List.length_drop]; omega))) ct85 rfl <| dcl (fun g => Fun.quiet (journal_number (rdbL hR.cons 4 c hc) (by rw [List.length_drop]; omega) (by rw [List.length_drop]; omega))) ct84 rfl <| dv (fun g => (vne rfl rfl)) <| WD.nil <| WX.thenN <| ?_
      refine WC.ite rfl (fun h3 => ?_) (fun h3 => ?_)
      · -- then
        exact absurd hn (by rw [if_pos (by omega)]; simp)
      · -- else
        exact WC.skip <| WX.thenN <| WC.seq <| WC.draws rfl (by kernel_rfl) <| qv (vmS rfl) <| qv (vmS rfl) <| qv (vmI rfl) <| qv (vslL Tryz.underlying23 sz5 rfl rfl (by omega) (by omega)) <| qv (vaS rfl) <| qv (vaS rfl) <| qv (vaB rfl) <| WQ.nil <| WX.thenN <| WC.ret <| WX.ret3 rfl (()) (trivial) (next_val (by rw [nat8]; rfl) (by rw [nat8]) (by rw [nat8]; show 8 + num4 bs - 8 = _; omega) (by rw [nat8]; show 8 + num4 bs - 8 = _; omega) (by rw [nat8, List.length_drop]; omega) (by rw [nat8])) (fun w h => h.tail)
end Go.Proofs.YthljpljbpbkkcaaGreatDoor
end
section
set_option linter.unusedVariables false
set_option linter.unusedSimpArgs false
set_option maxRecDepth 4000
namespace Go.Proofs.YthljpljbpbkkcaaGreatDoor
open Go.Sl Go.RowKit Go.Pack Go.Journal

theorem getD_lt {α : Type} {l : List α} {k : Nat} {d : α} (h : k < l.length) : l.getD k d = l[k] := by rw [List.getD_eq_getElem?_getD, List.getElem?_eq_getElem h]; rfl
theorem str_at {s : ByteArray} {i : Nat} (h : i < s.size) : s[((i : Int)).toNat]? = some (s.data.toList.getD i 0) := by
  have e : ((i : Int)).toNat = i := by omega
  have h2 : i < s.data.toList.length := by simpa using h
  rw [e, List.getD_eq_getElem?_getD, List.getElem?_eq_getElem h2, getElem?_pos s i h]
  rfl
theorem okName_at {s : ByteArray} (h : okName s) {i : Nat} (hi : i < s.size) : okByte (s.data.toList.getD i 0) := by
  have h2 : i < s.data.toList.length := by simpa using hi
  rw [getD_lt h2]
  exact h.1 _ (List.getElem_mem h2)
theorem okName_of {s : ByteArray} (h0 : s.size ≠ 0) (h16 : s.size ≤ 16) (h : ∀ j, j < s.size → okByte (s.data.toList.getD j 0)) : okName s := by
  refine ⟨fun c hc => ?_, h0, h16⟩
  obtain ⟨j, hj⟩ := List.mem_iff_getElem?.1 hc
  obtain ⟨hl, rfl⟩ := List.getElem?_eq_some_iff.1 hj
  have := h j (by simpa using hl)
  rwa [getD_lt hl] at this
theorem journal_may {w0 : World} {A : List HProp} {s : ByteArray} : Fun Tryz.prog w0 55 [.string s] A (Ret w0 (fun _ : Unit => True) (fun _ => .bool (decide (okName s))) (fun _ => A)) := by
  refine Fun.enter Tryz.func55 rfl Tryz.ntmps55 rfl ?_
  refine WC.seq <| WC.region <| sv (vaB rfl) <| WL.nil <| WX.thenN <| WC.seq <| ?_
  refine WC.cut0 [(11, .bool (decide (¬ (s.size ≠ 0 ∧ s.size ≤ 16))))] [(0, .string _)] (A) ⟨rfl, trivial⟩ ?_ fun ρh => ?_
  · -- journal.go:83
    refine WC.region <| sv (vmT rfl) <| svs (veqs rfl rfl) (fun q1 => ?_) (fun q1 => ?_)
    ·
      exact sv (vmB rfl) <| sng rfl <| sng rfl <| sng rfl <| sv (vpkt rfl) <| WL.nil <| WX.mid () trivial ⟨bT (fun h => h.1 (by rw [q1]; rfl)), trivial⟩ ⟨rfl, trivial⟩ (fun _ h => h)
    ·
      exact sv (vmB rfl) <| svg rfl (vmT rfl) <| svg rfl (vlens Tryz.underlying9 rfl) <| svg rfl (vgt rfl rfl) <| sv (vpkf rfl) <| WL.nil <| WX.mid () trivial ⟨bI ⟨fun h => by omega, fun h => by have : s.size ≠ 0 := size_ne.1 q1; omega⟩, trivial⟩ ⟨rfl, trivial⟩ (fun _ h => h)
  refine WC.ite rfl (fun h1 => ?_) (fun h1 => ?_)
  · -- then
    exact WC.seq <| WC.region <| sv (vaB rfl) <| WL.nil <| WX.thenN <| WC.ret <| WX.thenR <| WX.ret1 rfl (()) (trivial) (bF (fun h => h1 h.2)) (fun _ h => h)
  · -- else
    refine WC.skip <| WX.thenN <| WC.seq <| WC.seq <| WC.region <| sv (vmT rfl) <| sv (vlens Tryz.underlying9 rfl) <| sv (vmI rfl) <| WL.nil <| WX.thenN <| WC.block <| ?_
    refine WC.loop (ι := Nat) (fun i => [(14, .int .i64 i)]) [(0, .string _), (13, .int _ _)] (fun i => A) (fun i => i ≤ s.size ∧ ∀ j, j < i → okByte (s.data.toList.getD j 0)) (fun i => s.size - i) (0) (⟨Nat.zero_le _, fun j h => by omega⟩) ⟨rfl, trivial⟩ ⟨rfl, rfl, trivial⟩ (fun _ h => h) ?_
    intro i hi ρh
    refine WC.seq <| WC.region <| sv (vlt rfl rfl) <| WL.nil <| WX.thenN <| WC.seq <| ?_
    refine WC.ite rfl (fun h2 => ?_) (fun h2 => ?_)
    · -- then
      obtain ⟨c, hc⟩ : ∃ c, c = s.data.toList.getD i 0 := ⟨_, rfl⟩
      have hat := str_at (s := s) (i := i) (by omega)
      rw [← hc] at hat
      refine WC.skip <| WX.thenN <| WC.seq <| WC.block <| WC.seq <| WC.region <| sv (vmI rfl) <| sv (vaI rfl) <| WL.nil <| WX.thenN <| WC.seq <| WC.region <| sv (vmT rfl) <| sv (vmI rfl) <| sv (vixs Tryz.underlying9 rfl rfl (by omega) hat) <| sv (vaI rfl) <| WL.nil <| WX.thenN <| WC.block <| ?_
      refine WC.cutv (ι := Unit) (fun i => [(20, .bool (decide (okByte c)))]) [(0, .string _), (13, .int _ _), (14, .int _ _)] (fun i => A) (fun i => True) ⟨rfl, rfl, rfl, trivial⟩ ?_ ?_
      · -- up to the join
        refine WC.cut0 [(20, .bool (decide ((97 : Int) ≤ c.toNat ∧ (c.toNat : Int) ≤ 122)))] [(0, .string _), (4, .int _ _), (13, .int _ _), (14, .int _ _)] (A) ⟨rfl, rfl, rfl, rfl, trivial⟩ ?_ fun ρh => ?_
        · -- journal.go:88
          refine WC.region <| sv (vmI rfl) <| svs (vle rfl rfl) (fun q2 => ?_) (fun q2 => ?_)
          ·
            exact sv (vmB rfl) <| svg rfl (vmI rfl) <| svg rfl (vle rfl rfl) <| sv (vpkt rfl) <| sv (vaB rfl) <| WL.nil <| WX.mid () trivial ⟨bI (by first | omega | simp_all | grind), trivial⟩ ⟨rfl, rfl, rfl, rfl, trivial⟩ (fun _ h => h)
          ·
            exact sv (vmB rfl) <| sng rfl <| sng rfl <| sv (vpkf rfl) <| sv (vaB rfl) <| WL.nil <| WX.mid () trivial ⟨bF (by first | omega | simp_all | grind), trivial⟩ ⟨rfl, rfl, rfl, rfl, trivial⟩ (fun _ h => h)
        refine WC.ite rfl (fun h3 => ?_) (fun h3 => ?_)
        · -- then
          exact WC.skip <| WX.mid (()) (trivial) ⟨bI (by unfold okByte; omega), trivial⟩ ⟨rfl, rfl, rfl, trivial⟩ (fun _ h => h)
        · -- else
          refine WC.cut0 [(20, .bool (decide ((48 : Int) ≤ c.toNat ∧ (c.toNat : Int) ≤ 57)))] [(0, .string _), (4, .int _ _), (13, .int _ _), (14, .int _ _)] (A) ⟨rfl, rfl, rfl, rfl, trivial⟩ ?_ fun ρh => ?_
          · -- journal.go:88
            refine WC.region <| sv (vmI rfl) <| svs (vle rfl rfl) (fun q3 => ?_) (fun q3 => ?_)
            ·
              exact sv (vmB rfl) <| svg rfl (vmI rfl) <| svg rfl (vle rfl rfl) <| sv (vpkt rfl) <| sv (vaB rfl) <| WL.nil <| WX.mid () trivial ⟨bI (by first | omega | simp_all | grind), trivial⟩ ⟨rfl, rfl, rfl, rfl, trivial⟩ (fun _ h => h)
            ·
              exact sv (vmB rfl) <| sng rfl <| sng rfl <| sv (vpkf rfl) <| sv (vaB rfl) <| WL.nil <| WX.mid () trivial ⟨bF (by first | omega | simp_all | grind), trivial⟩ ⟨rfl, rfl, rfl, rfl, trivial⟩ (fun _ h => h)
          refine WC.ite rfl (fun h4 => ?_) (fun h4 => ?_)
          · -- then
            exact WC.skip <| WX.mid (()) (trivial) ⟨bI (by unfold okByte; omega), trivial⟩ ⟨rfl, rfl, rfl, trivial⟩ (fun _ h => h)
          · -- else
            refine WC.seq <| WC.region <| sv (vmI rfl) <| sv (veq rfl rfl) <| sv (vaB rfl) <| WL.nil <| WX.thenN <| ?_
            refine WC.ite rfl (fun h5 => ?_) (fun h5 => ?_)
            · -- then
              exact WC.skip <| WX.mid (()) (trivial) ⟨bI (by unfold okByte; omega), trivial⟩ ⟨rfl, rfl, rfl, trivial⟩ (fun _ h => h)
            · -- else
              exact WC.region <| sv (vmI rfl) <| sv (veq rfl rfl) <| sv (vaB rfl) <| WL.nil <| WX.mid (()) (trivial) ⟨bI (by unfold okByte; omega), trivial⟩ ⟨rfl, rfl, rfl, trivial⟩ (fun _ h => h)
      · -- behind the join
        intro _ _ ρh
        refine WC.ite rfl (fun h6 => ?_) (fun h6 => ?_)
        · -- then
          exact WC.skip <| WX.blockN <| WX.blockN <| WX.thenN <| WC.region <| sv (vadd rfl rfl (by omega)) <| sv (vmI rfl) <| WL.nil <| WX.again (i + 1) (⟨by omega, fun j hj => by rcases Nat.lt_succ_iff_lt_or_eq.1 hj with h | rfl; exact hi.2 j h; rw [← hc]; exact h6⟩) (by omega) ⟨rfl, trivial⟩ ⟨rfl, rfl, trivial⟩ (fun _ h => h)
        · -- else
          exact WC.seq <| WC.region <| sv (vaB rfl) <| WL.nil <| WX.thenN <| WC.ret <| WX.blockR <| WX.blockR <| WX.thenR <| WX.thenR <| WX.blockR <| WX.thenR <| WX.ret1 rfl (()) (trivial) (bF (fun h => h6 (by rw [hc]; exact okName_at h (by omega)))) (fun _ h => h)
    · -- else
      exact WC.exit <| WX.thenE <| WX.thenE <| WX.blockH <| WX.thenN <| WC.seq <| WC.region <| sv (vaB rfl) <| WL.nil <| WX.thenN <| WC.ret <| WX.ret1 rfl (()) (trivial) (bT (okName_of (by omega) (by omega) (fun j hj => hi.2 j (by omega)))) (fun _ h => h)
/-- a record added to a file: the disk, and the answer -/
def addP (nm : ByteArray) (rec : List UInt8) (st : DSt) : DSt × Int :=
  if (appendS nm (frameB rec) st).2 = 0 then syncS nm (appendS nm (frameB rec) st).1 else appendS nm (frameB rec) st
abbrev jcells (d : Nat) (nm : ByteArray) (n : Int) (sick : Bool) : List Value := [.pointer (some ⟨d, 0, none⟩), .string nm, .int .i64 n, .bool sick]
theorem offS_deeds (keep : Int) (st : DSt) : (offS keep st).deeds = st.deeds := by unfold offS; split <;> rfl
theorem deedS_deeds (f g) (st : DSt) : (deedS f g st).1.deeds = st.deeds + 1 := by unfold deedS; split; rw [offS_deeds]; rfl
theorem appendS_deeds (nm : ByteArray) (b : List UInt8) (st : DSt) : st.deeds ≤ (appendS nm b st).1.deeds ∧ (appendS nm b st).1.deeds ≤ st.deeds + 1 := by
  unfold appendS
  split
  · dsimp only; omega
  · split
    · dsimp only; omega
    · split
      · dsimp only; omega
      · rw [deedS_deeds]; omega
theorem journal_add_sick {w0 : World} {A : List HProp} {j d k c : Nat} {nm : ByteArray} {n : Int} {base : Option Addr} :
    Fun Tryz.prog w0 94 [.pointer (some ⟨j, 0, none⟩), .slice base k c] (cel j (jcells d nm n true) 112 :: A) (Ret w0 (fun _ : Unit => True) (fun _ => .int .i64 20) (fun _ => cel j (jcells d nm n true) 112 :: A)) := by
  refine Fun.enter Tryz.func94 rfl Tryz.ntmps94 rfl ?_
  refine WC.seq <| WC.region <| sv (vaI rfl) <| WL.nil <| WX.thenN <| WC.seq <| WC.block <| WC.seq <| WC.region <| sv (vmP rfl) <| sv (vpeqF Tryz.underlying80 rfl rfl) <| sv (vaB rfl) <| WL.nil <| WX.thenN <| ?_
  refine WC.ff rfl ?_
  refine WC.seq <| WC.region <| sv (vmP rfl) <| sv (vnil rfl) <| sv (vfld fl112f3 rfl) <| sv (vldc pl4 rfl) <| sv (vaB rfl) <| WL.nil <| WX.thenN <| ?_
  refine WC.tt rfl ?_
  exact WC.seq <| WC.region <| sv (vaI rfl) <| WL.nil <| WX.thenN <| WC.ret <| WX.blockR <| WX.thenR <| WX.ret1 rfl (()) (trivial) rfl (fun _ h => h)
theorem journal_add_long {w0 : World} {A : List HProp} {j d k c : Nat} {nm : ByteArray} {n : Int} {base : Option Addr} (hk : 1048576 < k) :
    Fun Tryz.prog w0 94 [.pointer (some ⟨j, 0, none⟩), .slice base k c] (cel j (jcells d nm n false) 112 :: A) (Ret w0 (fun _ : Unit => True) (fun _ => .int .i64 2) (fun _ => cel j (jcells d nm n false) 112 :: A)) := by
  refine Fun.enter Tryz.func94 rfl Tryz.ntmps94 rfl ?_
  refine WC.seq <| WC.region <| sv (vaI rfl) <| WL.nil <| WX.thenN <| WC.seq <| WC.block <| WC.seq <| WC.region <| sv (vmP rfl) <| sv (vpeqF Tryz.underlying80 rfl rfl) <| sv (vaB rfl) <| WL.nil <| WX.thenN <| ?_
  refine WC.ff rfl ?_
  refine WC.seq <| WC.region <| sv (vmP rfl) <| sv (vnil rfl) <| sv (vfld fl112f3 rfl) <| sv (vldc pl4 rfl) <| sv (vaB rfl) <| WL.nil <| WX.thenN <| ?_
  refine WC.ff rfl ?_
  refine WC.seq <| WC.region <| sv (vmS rfl) <| sv (vlen Tryz.underlying23 rfl) <| sv (vgt rfl rfl) <| sv (vaB rfl) <| WL.nil <| WX.thenN <| ?_
  refine WC.ite rfl (fun h3 => ?_) (fun h3 => ?_)
  · -- then
    exact WC.seq <| WC.region <| sv (vaI rfl) <| WL.nil <| WX.thenN <| WC.ret <| WX.blockR <| WX.thenR <| WX.ret1 rfl (()) (trivial) rfl (fun _ h => h)
  · -- else
    omega
theorem journal_add_ok {w0 : World} {A : List HProp} {j d k c : Nat} {nm : ByteArray} {n : Int} {base : Option Addr} {rec : List UInt8} {st : DSt} (hR : RdC w0 A base (u8s rec)) (hk : k = rec.length) (hl : rec.length ≤ 1048576) (hs : nm.size ≤ 140737488351232) (hd : 0 ≤ st.deeds ∧ st.deeds + 2 ≤ 9223372036854775807) (hn : 0 ≤ n ∧ n + 1 ≤ 9223372036854775807) :
    Fun Tryz.prog w0 94 [.pointer (some ⟨j, 0, none⟩), .slice base k c] (cel j (jcells d nm n false) 112 :: pdisk d st :: A)
      (Ret w0 (fun _ : Unit => True) (fun _ => .int .i64 (addP nm rec st).2) (fun _ => cel j (jcells d nm (if (addP nm rec st).2 = 0 then n + 1 else n) (decide ((addP nm rec st).2 = 20))) 112 :: pdisk d (addP nm rec st).1 :: A)) := by
  have hap := appendS_deeds nm (frameB rec) st
  refine Fun.enter Tryz.func94 rfl Tryz.ntmps94 rfl ?_
  refine WC.seq <| WC.region <| sv (vaI rfl) <| WL.nil <| WX.thenN <| WC.seq <| WC.block <| WC.seq <| WC.region <| sv (vmP rfl) <| sv (vpeqF Tryz.underlying80 rfl rfl) <| sv (vaB rfl) <| WL.nil <| WX.thenN <| ?_
  refine WC.ff rfl ?_
  refine WC.seq <| WC.region <| sv (vmP rfl) <| sv (vnil rfl) <| sv (vfld fl112f3 rfl) <| sv (vldc pl4 rfl) <| sv (vaB rfl) <| WL.nil <| WX.thenN <| ?_
  refine WC.ff rfl ?_
  refine WC.seq <| WC.region <| sv (vmS rfl) <| sv (vlen Tryz.underlying23 rfl) <| sv (vgt rfl rfl) <| sv (vaB rfl) <| WL.nil <| WX.thenN <| ?_
  refine WC.ite rfl (fun h3 => ?_) (fun h3 => ?_)
  · -- then
    omega
  · -- else
    refine WC.skip <| WX.blockN <| WX.thenN <| WC.seq <| WC.plan (.pre [8] (.one [0, 1, 2, 3, 4, 5, 6, 7] 9 (.bar [] 10 (.done [11])))) rfl (by kernel_rfl) <| WPl.pre (trivial) <| dv (fun g => (vmS rfl)) <| WD.nil <| WPl.one (fun g => g ++ cel j (jcells d nm n false) 112 :: pdisk d st :: A) ([]) (fun _ => trivial) (rfl) <| dv (fun g => (vmP rfl)) <| dv (fun g => (vnil rfl)) <| dv (fun g => (vfld fl112f0 rfl)) <| dv (fun g => (vldc pl24 rfl)) <| dv (fun g => (vmP rfl)) <| dv (fun g => (vnil rfl)) <| dv (fun g => (vfld fl112f1 rfl)) <| dv (fun g => (vldc pl9 rfl)) <| WD.eff rfl <| cl (journal_frame hR.cons.cons hk hl) ct99 rfl fun r5 hr5 => WL.nil <| WX.br <| WPl.bar (⟨[_], rfl⟩) <| WD.eff rfl <| pm (fun _ h => h.pk2) <| cl (disk_append (nm := nm) (b := frameB rec) hs (by omega) (by rw [frameB_len]; omega) rfl) ct8 rfl fun _ _ => WL.nil <| WX.brT <| WPl.fin (trivial) <| dv (fun g => (vaI rfl)) <| WD.nil <| WX.thenN <| ?_
    refine WC.cutv (ι := Unit) (fun i => [(5, .int .i64 (addP nm rec st).2)]) [(0, .pointer _)] (fun i => pdisk d (addP nm rec st).1 :: cel j (jcells d nm n false) 112 :: A) (fun i => True) ⟨rfl, trivial⟩ ?_ ?_
    · -- up to the join
      refine WC.seq <| WC.region <| sv (vmI rfl) <| sv (veq rfl rfl) <| WL.nil <| WX.thenN <| ?_
      refine WC.ite rfl (fun h4 => ?_) (fun h4 => ?_)
      · -- then
        refine WC.plan (.bar [0, 1, 2, 3, 4, 5, 6, 7] 8 (.done [9])) rfl (by kernel_rfl) <| WPl.bar (trivial) <| dv (fun g => (vmP rfl)) <| dv (fun g => (vnil rfl)) <| dv (fun g => (vfld fl112f0 rfl)) <| dv (fun g => (vldc pl24 rfl)) <| dv (fun g => (vmP rfl)) <| dv (fun g => (vnil rfl)) <| dv (fun g => (vfld fl112f1 rfl)) <| dv (fun g => (vldc pl9 rfl)) <| WD.eff rfl <| cl (disk_sync (nm := nm) (by omega)) ct100 rfl fun _ _ => WL.nil <| WX.brT <| WPl.fin (trivial) <| dv (fun g => (vaI rfl)) <| WD.nil <| WX.mid (()) (trivial) ⟨by show Value.int _ _ = Value.int _ _; unfold addP; rw [if_pos h4], trivial⟩ ⟨rfl, trivial⟩ (fun w h => ?_)
        unfold addP; rw [if_pos h4]
        exact h.pk1.tail
      · -- else
        refine WC.skip <| WX.mid (()) (trivial) ⟨by show Value.int _ _ = Value.int _ _; unfold addP; rw [if_neg h4], trivial⟩ ⟨rfl, trivial⟩ (fun w h => ?_)
        unfold addP; rw [if_neg h4]
        exact h.pk1.tail
    · -- behind the join
      intro _ _ ρh
      refine WC.seq <| WC.seq <| WC.region <| sv (vmI rfl) <| WL.nil <| WX.thenN <| WC.block <| WC.seq <| WC.region <| sv (veq rfl rfl) <| sv (vaB rfl) <| WL.nil <| WX.thenN <| ?_
      refine WC.ite rfl (fun h5 => ?_) (fun h5 => ?_)
      · -- then
        refine WC.region <| sv (vmP rfl) <| sv (vnil rfl) <| sv (vfld fl112f2 rfl) <| sv (vldc pl3 rfl) <| sv (vadd rfl rfl (by omega)) <| sv (vnil rfl) <| sv (vfld fl112f2 rfl) <| pm (fun _ h => h.pk1) <| stc (v := .int _ _) pl3 sz3 rfl rfl rfl <| WL.nil <| WX.blockN <| WX.thenN <| WC.seq <| WC.region <| sv (vmI rfl) <| sv (vaI rfl) <| WL.nil <| WX.thenN <| WC.ret <| WX.ret1 rfl (()) (trivial) rfl (fun w h => ?_)
        rw [if_pos h5, decide_eq_false (by omega)]; exact h
      · -- else
        refine WC.seq <| WC.region <| sv (veq rfl rfl) <| sv (vaB rfl) <| WL.nil <| WX.thenN <| ?_
        refine WC.ite rfl (fun h6 => ?_) (fun h6 => ?_)
        · -- then
          refine WC.region <| sv (vmP rfl) <| sv (vnil rfl) <| sv (vfld fl112f3 rfl) <| pm (fun _ h => h.pk1) <| stc (v := .bool _) pl4 sz4 rfl rfl rfl <| WL.nil <| WX.blockN <| WX.thenN <| WC.seq <| WC.region <| sv (vmI rfl) <| sv (vaI rfl) <| WL.nil <| WX.thenN <| WC.ret <| WX.ret1 rfl (()) (trivial) rfl (fun w h => ?_)
          rw [if_neg (by omega), decide_eq_true h6]; exact h
        · -- else
          refine WC.skip <| WX.blockN <| WX.thenN <| WC.seq <| WC.region <| sv (vmI rfl) <| sv (vaI rfl) <| WL.nil <| WX.thenN <| WC.ret <| WX.ret1 rfl (()) (trivial) rfl (fun w h => ?_)
          rw [if_neg h5, decide_eq_false h6]; exact h.pk1
end Go.Proofs.YthljpljbpbkkcaaGreatDoor
end
section
set_option linter.unusedVariables false
set_option linter.unusedSimpArgs false
set_option maxRecDepth 4000
namespace Go.Proofs.YthljpljbpbkkcaaGreatDoor
open Go.Sl Go.RowKit Go.Pack Go.Vault Go.Journal

abbrev vnm : ByteArray := ByteArray.mk #[118, 97, 117, 108, 116]
/-- a vault's journal: its disk, how many records, whether it is sick -/
structure JV where
  st : DSt
  n : Int
  sick : Bool
/-- a call that may be done, is done: what is there, and the answer -/
def actS (w : Int × Bool) (rec : List UInt8) (d' d : VD) (s : JV) : (VD × JV) × Int :=
  if w.1 ≠ 0 then ((d, s), w.1) else if s.sick = true then ((d, s), 20) else if w.2 = false then ((d, s), 0) else
    ((if (addP vnm rec s.st).2 = 0 then d' else d, ⟨(addP vnm rec s.st).1, if (addP vnm rec s.st).2 = 0 then s.n + 1 else s.n, decide ((addP vnm rec s.st).2 = 20)⟩), (addP vnm rec s.st).2)
def putS (k : PK) (b : List UInt8) (d : VD) (s : JV) : (VD × JV) × Int := actS (whyPut d k) (recPut k b) (putD d k b) d s
def dropS (f : ByteArray) (n : Int) (d : VD) (s : JV) : (VD × JV) × Int := actS (whyDrop d f n) (recDrop f n) (dropD d f n) d s
abbrev vall (v j dk : Nat) (d : VD) (s : JV) (A : List HProp) : List HProp := pv v j s.sick d :: cel j (jcells dk vnm s.n s.sick) 112 :: pdisk dk s.st :: A
abbrev AddF (w0 : World) (v j dk : Nat) (w : Int × Bool) (rec : List UInt8) (d' d : VD) (s : JV) (args : List Value) (A : List HProp) : Prop :=
  Fun Tryz.prog w0 73 args (vall v j dk d s A) (Ret w0 (fun _ : Unit => True) (fun _ => .int .i64 (actS w rec d' d s).2) (fun _ => vall v j dk (actS w rec d' d s).1.1 (actS w rec d' d s).1.2 A))
theorem v_add_err {w0 : World} {A : List HProp} {v j dk n c : Nat} {e : Int} {b : Bool} {d : VD} {s : JV} {rec : List UInt8} {d' : VD} {base : Option Addr} {fd : FuncId} {cap : List Value} (he : e ≠ 0) :
    AddF w0 v j dk (e, b) rec d' d s [.pointer (some ⟨v, 0, none⟩), .int .i64 e, .bool b, .slice base n c, .func (.func fd) #[] cap.toArray] A := by
  have h0 : actS (e, b) rec d' d s = ((d, s), e) := by unfold actS; rw [if_pos he]
  unfold AddF
  rw [h0]
  refine Fun.enter Tryz.func73 rfl Tryz.ntmps73 rfl ?_
  refine WC.seq <| WC.region <| sv (vaI rfl) <| WL.nil <| WX.thenN <| WC.seq <| WC.block <| WC.seq <| WC.region <| sv (vmI rfl) <| sv (vne rfl rfl) <| sv (vaB rfl) <| WL.nil <| WX.thenN <| ?_
  refine WC.ite rfl (fun h1 => ?_) (fun h1 => ?_)
  · -- then
    exact WC.seq <| WC.region <| sv (vmI rfl) <| sv (vaI rfl) <| WL.nil <| WX.thenN <| WC.ret <| WX.blockR <| WX.thenR <| WX.ret1 rfl (()) (trivial) rfl (fun _ h => Sb.own (by repeat' (first | with_reducible exact Sb.all | exact Sb.nil | (apply Sb.cons; focus (first | ((repeat (first | with_reducible exact Tk.here | with_reducible apply Tk.there)); done) | ((repeat (first | exact Tk.here | apply Tk.there)); done))) | apply Sb.drop)) h)
  · -- else
    exact absurd h1 (by simpa using he)
theorem v_add_down {w0 : World} {A : List HProp} {v j dk n c : Nat} {b : Bool} {d : VD} {st : DSt} {nn : Int} {rec : List UInt8} {d' : VD} {base : Option Addr} {fd : FuncId} {cap : List Value} :
    AddF w0 v j dk (0, b) rec d' d ⟨st, nn, true⟩ [.pointer (some ⟨v, 0, none⟩), .int .i64 0, .bool b, .slice base n c, .func (.func fd) #[] cap.toArray] A := by
  have h0 : actS (0, b) rec d' d ⟨st, nn, true⟩ = ((d, ⟨st, nn, true⟩), 20) := by unfold actS; rw [if_neg (by simp), if_pos rfl]
  unfold AddF vall
  rw [h0]
  refine Fun.ex (fun w h => pv_open h) ?_
  rintro ⟨mp, mf, l, fl⟩ hi
  dsimp only [vcl]
  refine Fun.enter Tryz.func73 rfl Tryz.ntmps73 rfl ?_
  refine WC.seq <| WC.region <| sv (vaI rfl) <| WL.nil <| WX.thenN <| WC.seq <| WC.block <| WC.seq <| WC.region <| sv (vmI rfl) <| sv (vne rfl rfl) <| sv (vaB rfl) <| WL.nil <| WX.thenN <| ?_
  refine WC.ite rfl (fun h1 => ?_) (fun h1 => ?_)
  · -- then
    exact absurd rfl h1
  · -- else
    refine WC.seq <| WC.region <| sv (vmP rfl) <| sv (vnil rfl) <| sv (vfldp fl86f3 rfl) <| sv (vldc pl4 rfl) <| sv (vaB rfl) <| WL.nil <| WX.thenN <| ?_
    refine WC.tt rfl ?_
    exact WC.seq <| WC.region <| sv (vaI rfl) <| WL.nil <| WX.thenN <| WC.ret <| WX.blockR <| WX.thenR <| WX.ret1 rfl (()) (trivial) rfl (fun w h => by have h2 := pv_mk (v := v) (j := j) (down := true) hi (Own.sp4 (by repeat' (first | exact Spl.nil | (apply Spl.cons; focus (first | ((repeat (first | with_reducible exact Tk.here | with_reducible apply Tk.there)); done) | ((repeat (first | exact Tk.here | apply Tk.there)); done))))) h); exact Sb.own (by repeat' (first | with_reducible exact Sb.all | exact Sb.nil | (apply Sb.cons; focus (first | ((repeat (first | with_reducible exact Tk.here | with_reducible apply Tk.there)); done) | ((repeat (first | exact Tk.here | apply Tk.there)); done))) | apply Sb.drop)) h2)
theorem v_add_not {w0 : World} {A : List HProp} {v j dk n c : Nat} {d : VD} {st : DSt} {nn : Int} {rec : List UInt8} {d' : VD} {base : Option Addr} {fd : FuncId} {cap : List Value} :
    AddF w0 v j dk (0, false) rec d' d ⟨st, nn, false⟩ [.pointer (some ⟨v, 0, none⟩), .int .i64 0, .bool false, .slice base n c, .func (.func fd) #[] cap.toArray] A := by
  have h0 : actS (0, false) rec d' d ⟨st, nn, false⟩ = ((d, ⟨st, nn, false⟩), 0) := by unfold actS; rw [if_neg (by simp), if_neg (by simp), if_pos rfl]
  unfold AddF vall
  rw [h0]
  refine Fun.ex (fun w h => pv_open h) ?_
  rintro ⟨mp, mf, l, fl⟩ hi
  dsimp only [vcl]
  refine Fun.enter Tryz.func73 rfl Tryz.ntmps73 rfl ?_
  refine WC.seq <| WC.region <| sv (vaI rfl) <| WL.nil <| WX.thenN <| WC.seq <| WC.block <| WC.seq <| WC.region <| sv (vmI rfl) <| sv (vne rfl rfl) <| sv (vaB rfl) <| WL.nil <| WX.thenN <| ?_
  refine WC.ite rfl (fun h1 => ?_) (fun h1 => ?_)
  · -- then
    exact absurd rfl h1
  · -- else
    refine WC.seq <| WC.region <| sv (vmP rfl) <| sv (vnil rfl) <| sv (vfldp fl86f3 rfl) <| sv (vldc pl4 rfl) <| sv (vaB rfl) <| WL.nil <| WX.thenN <| ?_
    refine WC.ff rfl ?_
    refine WC.seq <| WC.region <| sv (vmB rfl) <| sv (vnot rfl) <| sv (vaB rfl) <| WL.nil <| WX.thenN <| ?_
    refine WC.tt rfl ?_
    exact WC.seq <| WC.region <| sv (vaI rfl) <| WL.nil <| WX.thenN <| WC.ret <| WX.blockR <| WX.thenR <| WX.ret1 rfl (()) (trivial) rfl (fun w h => by have h2 := pv_mk (v := v) (j := j) (down := false) hi (Own.sp4 (by repeat' (first | exact Spl.nil | (apply Spl.cons; focus (first | ((repeat (first | with_reducible exact Tk.here | with_reducible apply Tk.there)); done) | ((repeat (first | exact Tk.here | apply Tk.there)); done))))) h); exact Sb.own (by repeat' (first | with_reducible exact Sb.all | exact Sb.nil | (apply Sb.cons; focus (first | ((repeat (first | with_reducible exact Tk.here | with_reducible apply Tk.there)); done) | ((repeat (first | exact Tk.here | apply Tk.there)); done))) | apply Sb.drop)) h2)
theorem v_add_go {w0 : World} {A : List HProp} {v j dk n c : Nat} {d : VD} {st : DSt} {nn : Int} {rec : List UInt8} {d' : VD} {base : Option Addr} {fd : FuncId} {cap : List Value} [hR : Reads w0 A base (u8s rec)] (hct : callT Tryz.prog fd = true) (hk : n = rec.length) (hl : rec.length ≤ 1048576) (hd : 0 ≤ st.deeds ∧ st.deeds + 2 ≤ 9223372036854775807) (hn : 0 ≤ nn ∧ nn + 1 ≤ 9223372036854775807)
    (hdone : ∀ (st' : DSt) (n' : Int), Fun Tryz.prog w0 fd cap (vall v j dk d ⟨st', n', false⟩ A) (Ret w0 (fun _ : Unit => True) (fun _ => .tuple #[]) (fun _ => vall v j dk d' ⟨st', n', false⟩ A))) :
    AddF w0 v j dk (0, true) rec d' d ⟨st, nn, false⟩ [.pointer (some ⟨v, 0, none⟩), .int .i64 0, .bool true, .slice base n c, .func (.func fd) #[] cap.toArray] A := by
  obtain ⟨e, he⟩ : ∃ e, e = (addP vnm rec st).2 := ⟨_, rfl⟩
  obtain ⟨st2, hst2⟩ : ∃ st2, st2 = (addP vnm rec st).1 := ⟨_, rfl⟩
  have h0 : actS (0, true) rec d' d ⟨st, nn, false⟩ = ((if e = 0 then d' else d, ⟨st2, if e = 0 then nn + 1 else nn, decide (e = 20)⟩), e) := by unfold actS; rw [if_neg (by simp), if_neg (by simp), if_neg (by simp), he, hst2]
  unfold AddF vall
  rw [h0]
  have hadd : ∀ {B : List HProp}, RdC w0 B base (u8s rec) → Fun Tryz.prog w0 94 [.pointer (some ⟨j, 0, none⟩), .slice base n c] (cel j (jcells dk vnm nn false) 112 :: pdisk dk st :: B) (Ret w0 (fun _ : Unit => True) (fun _ => .int .i64 e) (fun _ => cel j (jcells dk vnm (if e = 0 then nn + 1 else nn) (decide (e = 20))) 112 :: pdisk dk st2 :: B)) := fun h => by
    rw [he, hst2]; exact journal_add_ok h hk hl (by decide) hd hn
  refine Fun.ex (fun w h => pv_open h) ?_
  rintro ⟨mp, mf, l, fl⟩ hi
  dsimp only [vcl]
  refine Fun.enter Tryz.func73 rfl Tryz.ntmps73 rfl ?_
  refine WC.seq <| WC.region <| sv (vaI rfl) <| WL.nil <| WX.thenN <| WC.seq <| WC.block <| WC.seq <| WC.region <| sv (vmI rfl) <| sv (vne rfl rfl) <| sv (vaB rfl) <| WL.nil <| WX.thenN <| ?_
  refine WC.ite rfl (fun h1 => ?_) (fun h1 => ?_)
  · -- then
    exact absurd rfl h1
  · -- else
    refine WC.seq <| WC.region <| sv (vmP rfl) <| sv (vnil rfl) <| sv (vfldp fl86f3 rfl) <| sv (vldc pl4 rfl) <| sv (vaB rfl) <| WL.nil <| WX.thenN <| ?_
    refine WC.ff rfl ?_
    refine WC.seq <| WC.region <| sv (vmB rfl) <| sv (vnot rfl) <| sv (vaB rfl) <| WL.nil <| WX.thenN <| ?_
    refine WC.ff rfl ?_
    refine WC.skip <| WX.blockN <| WX.thenN <| WC.seq <| WC.region <| sv (vmP rfl) <| sv (vnil rfl) <| sv (vfldp fl86f2 rfl) <| sv (vldc pl80 rfl) <| sv (vmS rfl) <| clx (by repeat' (first | with_reducible exact Sb.all | exact Sb.nil | (apply Sb.cons; focus (first | ((repeat (first | with_reducible exact Tk.here | with_reducible apply Tk.there)); done) | ((repeat (first | exact Tk.here | apply Tk.there)); done))) | apply Sb.drop)) (hadd reads) ct94 rfl fun r3 hr3 => ?_
    refine sv (vaI rfl) <| WL.nil <| WX.thenN <| WC.seq <| WC.seq <| WC.region <| sv (vmI rfl) <| WL.nil <| WX.thenN <| WC.block <| WC.seq <| WC.region <| sv (veq rfl rfl) <| sv (vaB rfl) <| WL.nil <| WX.thenN <| ?_
    refine WC.ite rfl (fun h4 => ?_) (fun h4 => ?_)
    · -- then
      subst h4
      exact WC.region <| sv (vmF rfl) <| pm (fun _ h => (show Own w0 (pv v j false d :: cel j (jcells dk vnm (nn + 1) false) 112 :: pdisk dk st2 :: A) _ from by have h2 := pv_mk (v := v) (j := j) (down := false) hi (Own.sp4 (by repeat' (first | exact Spl.nil | (apply Spl.cons; focus (first | ((repeat (first | with_reducible exact Tk.here | with_reducible apply Tk.there)); done) | ((repeat (first | exact Tk.here | apply Tk.there)); done))))) h); exact Sb.own (by repeat' (first | with_reducible exact Sb.all | exact Sb.nil | (apply Sb.cons; focus (first | ((repeat (first | with_reducible exact Tk.here | with_reducible apply Tk.there)); done) | ((repeat (first | exact Tk.here | apply Tk.there)); done))) | apply Sb.drop)) h2)) <| clvx (cap := cap) (by repeat' (first | with_reducible exact Sb.all | exact Sb.nil | (apply Sb.cons; focus (first | ((repeat (first | with_reducible exact Tk.here | with_reducible apply Tk.there)); done) | ((repeat (first | exact Tk.here | apply Tk.there)); done))) | apply Sb.drop)) (hdone st2 (nn + 1)) hct rfl rfl fun r4 hr4 =>WL.nil <| WX.blockN <| WX.thenN <| WC.seq <| WC.region <| sv (vmI rfl) <| sv (vaI rfl) <| WL.nil <| WX.thenN <| WC.ret <| WX.ret1 rfl (()) (trivial) rfl (fun _ h => Sb.own (by repeat' (first | with_reducible exact Sb.all | exact Sb.nil | (apply Sb.cons; focus (first | ((repeat (first | with_reducible exact Tk.here | with_reducible apply Tk.there)); done) | ((repeat (first | exact Tk.here | apply Tk.there)); done))) | apply Sb.drop)) h)
    · -- else
      refine WC.seq <| WC.region <| sv (veq rfl rfl) <| sv (vaB rfl) <| WL.nil <| WX.thenN <| ?_
      refine WC.ite rfl (fun h5 => ?_) (fun h5 => ?_)
      · -- then
        subst h5
        exact WC.region <| sv (vmP rfl) <| sv (vnil rfl) <| sv (vfldp fl86f3 rfl) <| stp (v := .bool _) pl4 sz4 rfl rfl rfl <| WL.nil <| WX.blockN <| WX.thenN <| WC.seq <| WC.region <| sv (vmI rfl) <| sv (vaI rfl) <| WL.nil <| WX.thenN <| WC.ret <| WX.ret1 rfl (()) (trivial) rfl (fun w h => by have h2 := pv_mk (v := v) (j := j) (down := true) hi (Own.sp4 (by repeat' (first | exact Spl.nil | (apply Spl.cons; focus (first | ((repeat (first | with_reducible exact Tk.here | with_reducible apply Tk.there)); done) | ((repeat (first | exact Tk.here | apply Tk.there)); done))))) h); exact Sb.own (by repeat' (first | with_reducible exact Sb.all | exact Sb.nil | (apply Sb.cons; focus (first | ((repeat (first | with_reducible exact Tk.here | with_reducible apply Tk.there)); done) | ((repeat (first | exact Tk.here | apply Tk.there)); done))) | apply Sb.drop)) h2)
      · -- else
        rw [if_neg h4, if_neg h4, decide_eq_false h5]
        exact WC.skip <| WX.blockN <| WX.thenN <| WC.seq <| WC.region <| sv (vmI rfl) <| sv (vaI rfl) <| WL.nil <| WX.thenN <| WC.ret <| WX.ret1 rfl (()) (trivial) rfl (fun w h => by have h2 := pv_mk (v := v) (j := j) (down := false) hi (Own.sp4 (by repeat' (first | exact Spl.nil | (apply Spl.cons; focus (first | ((repeat (first | with_reducible exact Tk.here | with_reducible apply Tk.there)); done) | ((repeat (first | exact Tk.here | apply Tk.there)); done))))) h); exact Sb.own (by repeat' (first | with_reducible exact Sb.all | exact Sb.nil | (apply Sb.cons; focus (first | ((repeat (first | with_reducible exact Tk.here | with_reducible apply Tk.there)); done) | ((repeat (first | exact Tk.here | apply Tk.there)); done))) | apply Sb.drop)) h2)

theorem rsomeV {w0 w : World} {A : List HProp} {base : Option Addr} {vs : List Value} (h0 : 0 < vs.length) (hR : RdC w0 A base vs) (h : Own w0 A w) : base.isSome = true := by
  obtain ⟨a, rfl, _⟩ := hR w h 0 _ (List.getElem?_eq_getElem h0)
  rfl
theorem v_clone {w0 : World} {A : List HProp} {c : Nat} {base : Option Addr} {bs : List UInt8} (hl : bs.length ≤ 1099511627776) [hR : Reads w0 A base (u8s bs)] :
    Fun Tryz.prog w0 75 [.slice base bs.length c] A
      (Ret w0 (fun i : Option Addr × Nat => bs.length ≤ i.2) (fun i => .slice i.1 bs.length i.2) (fun i => row i.1 i.2 1 5 (u8s bs) :: A)) := by
  refine Fun.enter Tryz.func75 rfl Tryz.ntmps75 rfl ?_
  refine WC.seq <| WC.region <| sv (vaS rfl) <| WL.nil <| WX.thenN <| WC.seq <| WC.seq <| WC.region <| sv (vmS rfl) <| sv (vsnl Tryz.underlying23 rfl rfl) <| WL.nil <| WX.thenN <| ?_
  refine WC.iteb rfl (fun h1 => ?_) (fun h1 => ?_)
  · -- then
    refine WC.known (p := bs = []) (fun w h => ?_) fun hnil => ?_
    · rcases Nat.eq_zero_or_pos bs.length with h0 | h0
      · exact List.eq_nil_of_length_eq_zero h0
      · have := rsomeV (base := base) (vs := u8s bs) (by simpa using h0) reads h
        rw [Option.isSome_iff_ne_none] at this
        exact absurd (Option.isNone_iff_eq_none.1 h1) this
    subst hnil
    exact WC.seq <| WC.region <| sv (vaS rfl) <| WL.nil <| WX.thenN <| WC.ret <| WX.thenR <| WX.ret1 rfl ((none, 0)) (by simp) rfl (fun _ h => h.intro_row_nil)
  · -- else
    refine WC.skip <| WX.thenN <| WC.seq <| WC.region <| bsl0 Tryz.underlying23 zt5 fun b1 => sv (vmS rfl) <| pm (fun _ h => Sb.own (by repeat' (first | with_reducible exact Sb.all | exact Sb.nil | (apply Sb.cons; focus (first | ((repeat (first | with_reducible exact Tk.here | with_reducible apply Tk.there)); done) | ((repeat (first | exact Tk.here | apply Tk.there)); done))) | apply Sb.drop)) h) <| ap (vs := u8s []) (news := u8s bs) rfl Tryz.underlying23 zt5 rfl rfl rfl rfl (by simp) (u8s_one bs) reads (by simp only [maxLen]; omega) (by omega) fun base2 c2 hc2 =>?_
    exact sv (vaS rfl) <| WL.nil <| WX.thenN <| WC.ret <| WX.ret1 rfl ((base2, c2)) (by simpa using hc2) (by show Value.slice base2 (0 + bs.length) c2 = _; rw [Nat.zero_add]) (fun _ h => Sb.own (by repeat' (first | with_reducible exact Sb.all | exact Sb.nil | (apply Sb.cons; focus (first | ((repeat (first | with_reducible exact Tk.here | with_reducible apply Tk.there)); done) | ((repeat (first | exact Tk.here | apply Tk.there)); done))) | apply Sb.drop)) h)
theorem pents_snoc (l : List (PK × Sla UInt8)) (k : PK) (s : Sla UInt8) : pents (l ++ [(k, s)]) = pents l ++ [(pkv k, .slice s.base s.xs.length s.cap)] := by simp [pents]
theorem lookP_snoc : ∀ (l : List (PK × Sla UInt8)) (k : PK) (s : Sla UInt8) (q : PK), lookP (l ++ [(k, s)]) q = match lookP l q with | some b => some b | none => if k = q then some s.xs else none
  | [], k, s, q => rfl
  | x :: l, k, s, q => by
    show (if x.1 = q then some x.2.xs else lookP (l ++ [(k, s)]) q) = match (if x.1 = q then some x.2.xs else lookP l q) with | some b => some b | none => if k = q then some s.xs else none
    by_cases h : x.1 = q
    · rw [if_pos h, if_pos h]
    · rw [if_neg h, if_neg h, lookP_snoc l k s q]
theorem VRep.put {d : VD} {mp mf : Nat} {l : List (PK × Sla UInt8)} {fl : List (ByteArray × Int)} {k : PK} {s : Sla UInt8} (h : VRep d ⟨mp, mf, l, fl⟩) (hk : PkOk k) (hn : d.parts k = none) (hc : s.xs.length ≤ s.cap ∧ s.xs.length ≤ 1048576) : VRep (putD d k s.xs) ⟨mp, mf, l ++ [(k, s)], fl⟩ := by
  have hlk := (h.look k).trans hn
  refine ⟨?_, fun q => ?_, fun x hx => ?_, h.ndf, h.floor⟩
  · rw [List.map_append, List.nodup_append]
    refine ⟨h.nd, by simp, fun a ha b hb => ?_⟩
    simp only [List.map_cons, List.map_nil, List.mem_singleton] at hb
    obtain ⟨x, hx, rfl⟩ := List.mem_map.1 ha
    rw [hb]
    intro e
    have := lookP_mem h.nd hx
    rw [e] at this
    exact absurd (this.symm.trans hlk) (by simp)
  · show lookP (l ++ [(k, s)]) q = if q = k then some s.xs else d.parts q
    rw [lookP_snoc, h.look]
    by_cases hq : q = k
    · subst hq
      rw [hn]
    · rw [if_neg hq]
      have hq' : ¬ k = q := fun e => hq e.symm
      cases d.parts q <;> simp [hq']
  · rcases List.mem_append.1 hx with hx | hx
    · exact h.ok x hx
    · simp only [List.mem_singleton] at hx; subst hx; exact ⟨hk, hc⟩
theorem VRep.new_put {d : VD} {mp mf : Nat} {l : List (PK × Sla UInt8)} {fl : List (ByteArray × Int)} {k : PK} {v : Value} (h : VRep d ⟨mp, mf, l, fl⟩) (hn : d.parts k = none) : PutE (pents l) (pkv k) v (pents l ++ [(pkv k, v)]) := .new (pents_none ((h.look k).trans hn))
theorem v_put1 {w0 : World} {A : List HProp} {v j t0 t1 t2 c : Nat} {down : Bool} {d : VD} {k : PK} {base : Option Addr} {bs : List UInt8} (hk : PkOk k) (hn : d.parts k = none) (hl : bs.length ≤ 1048576) [hR : Reads w0 A base (u8s bs)] [h0 : CelAt A t0 [.slice base bs.length c] 23] [h1 : CelAt A t1 [.pointer (some ⟨v, 0, none⟩)] 33] [h2 : CelAt A t2 (pkl k) 117] :
    Fun Tryz.prog w0 74 [.pointer (some ⟨t0, 0, none⟩), .pointer (some ⟨t1, 0, none⟩), .pointer (some ⟨t2, 0, none⟩)] (pv v j down d :: A) (Ret w0 (fun _ : Unit => True) (fun _ => .tuple #[]) (fun _ => pv v j down (putD d k bs) :: A)) := by
  refine Fun.ex (fun w h => pv_open h) ?_
  rintro ⟨mp, mf, l, fl⟩ hi
  dsimp only [vcl]
  refine Fun.enter Tryz.func74 rfl Tryz.ntmps74 rfl ?_
  refine WC.plan (.pre [5] (.one [0, 1, 2, 3, 4] 6 (.bar [] 7 (.done [])))) rfl (by kernel_rfl) <| WPl.preC <| dv (fun g => (vldc pl23 rfl)) <| WD.nil <| WPl.oneE (fun g => by infer_instance) <| dv (fun g => (vldc pl33 rfl)) <| dv (fun g => (vnil rfl)) <| dv (fun g => (vfldpz fl86f0 rfl)) <| dv (fun g => (vldc pl83 rfl)) <| dv (fun g => (vldac ag117 sz117 rfl rfl (by decide))) <| WD.eff rfl <| clx (by repeat' (first | with_reducible exact Sb.all | exact Sb.nil | (apply Sb.cons; focus (first | ((repeat (first | with_reducible exact Tk.here | with_reducible apply Tk.there)); done) | ((repeat (first | exact Tk.here | apply Tk.there)); done))) | apply Sb.drop)) (v_clone (by omega)) ct75 rfl fun r5 hr5 => ?_
  refine WL.nil <| WX.br <| WPl.barC <| WD.eff rfl <| mpupK (k := pkv k) (v := .slice _ _ _) Tryz.underlying83 place_law rfl rfl rfl (kp_ok hk) (hi.new_put hn) ?_
  exact WL.nil <| WX.brT <| WPl.finC <| WD.nil <| WX.end0 rfl (()) (trivial) rfl (fun w h => by have h2 := rows_snoc (e := 5) (y := ⟨r5.1, bs, r5.2⟩) (l := l.map Prod.snd) (Own.sp2 (by repeat' (first | exact Spl.nil | (apply Spl.cons; focus (first | ((repeat (first | with_reducible exact Tk.here | with_reducible apply Tk.there)); done) | ((repeat (first | exact Tk.here | apply Tk.there)); done))))) h); have h3 := pv_mk (v := v) (j := j) (down := down) (d := putD d k bs) (i := ⟨mp, mf, l ++ [(k, ⟨r5.1, bs, r5.2⟩)], fl⟩) (hi.put (s := ⟨r5.1, bs, r5.2⟩) hk hn ⟨hr5, hl⟩) (show Own w0 _ w from by rw [pents_snoc, List.map_append]; exact Own.sp4 (by repeat' (first | exact Spl.nil | (apply Spl.cons; focus (first | ((repeat (first | with_reducible exact Tk.here | with_reducible apply Tk.there)); done) | ((repeat (first | exact Tk.here | apply Tk.there)); done))))) h2); exact Sb.own (by repeat' (first | with_reducible exact Sb.all | exact Sb.nil | (apply Sb.cons; focus (first | ((repeat (first | with_reducible exact Tk.here | with_reducible apply Tk.there)); done) | ((repeat (first | exact Tk.here | apply Tk.there)); done))) | apply Sb.drop)) h3)
theorem v_drop1 {w0 : World} {A : List HProp} {v j t0 t1 t2 : Nat} {down : Bool} {d : VD} {f : ByteArray} {n : Int} [h0 : CelAt A t0 [.pointer (some ⟨v, 0, none⟩)] 33] [h1 : CelAt A t1 [.string f] 9] [h2 : CelAt A t2 [.int .i64 n] 3] :
    Fun Tryz.prog w0 76 [.pointer (some ⟨t0, 0, none⟩), .pointer (some ⟨t1, 0, none⟩), .pointer (some ⟨t2, 0, none⟩)] (pv v j down d :: A) (Ret w0 (fun _ : Unit => True) (fun _ => .tuple #[]) (fun _ => pv v j down (dropD d f n) :: A)) := by
  refine Fun.enter Tryz.func76 rfl Tryz.ntmps76 rfl ?_
  refine WC.region <| sv (vldc pl33 rfl) <| sv (vldc pl9 rfl) <| sv (vldc pl3 rfl) <| clx (by repeat' (first | with_reducible exact Sb.all | exact Sb.nil | (apply Sb.cons; focus (first | ((repeat (first | with_reducible exact Tk.here | with_reducible apply Tk.there)); done) | ((repeat (first | exact Tk.here | apply Tk.there)); done))) | apply Sb.drop)) (v_drop) ct65 rfl fun r4 hr4 => ?_
  exact WL.nil <| WX.end0 rfl (()) (trivial) rfl (fun _ h => Sb.own (by repeat' (first | with_reducible exact Sb.all | exact Sb.nil | (apply Sb.cons; focus (first | ((repeat (first | with_reducible exact Tk.here | with_reducible apply Tk.there)); done) | ((repeat (first | exact Tk.here | apply Tk.there)); done))) | apply Sb.drop)) h)

theorem pk_num {w0 : World} {A : List HProp} {base : Option Addr} {n c : Nat} {x : Int} {out : List UInt8} (bs : List UInt8) (hR : RdC w0 A base (u8s bs)) (hn : n = bs.length) (ho : out = bs ++ num x) (hb : bs.length ≤ 140737488351232) (hx : -9223372036854775808 ≤ x ∧ x ≤ 9223372036854775807) :
    Fun Tryz.prog w0 71 [.slice base n c, .int .i64 x] A (Ret w0 (fun i : Option Addr × Nat => out.length ≤ i.2) (fun i => .slice i.1 out.length i.2) (fun i => row i.1 i.2 1 5 (u8s out) :: A)) := by
  subst hn; subst ho
  rw [List.length_append]
  exact pack_num (hR := ⟨hR⟩) hb hx
theorem pk_text {w0 : World} {A : List HProp} {base : Option Addr} {n c : Nat} {s : ByteArray} {out : List UInt8} (bs : List UInt8) (hR : RdC w0 A base (u8s bs)) (hn : n = bs.length) (ho : out = bs ++ text s.data.toList) (hb : bs.length ≤ 140737488351232) (hs : bs.length + s.size ≤ 140737488351232) :
    Fun Tryz.prog w0 72 [.slice base n c, .string s] A (Ret w0 (fun i : Option Addr × Nat => out.length ≤ i.2) (fun i => .slice i.1 out.length i.2) (fun i => row i.1 i.2 1 5 (u8s out) :: A)) := by
  subst hn; subst ho
  rw [List.length_append]
  exact pack_text (hR := ⟨hR⟩) hb hs
theorem text_len (l : List UInt8) (h : l.length ≤ 1099511627776) : (text l).length ≤ l.length + 10 := by
  have := num_len (x := (l.length : Int)) (by omega)
  unfold text
  rw [List.length_append]; omega
/-- a call that may be done is done -/
theorem v_add {w0 : World} {A : List HProp} {v j dk n c : Nat} {w : Int × Bool} {d : VD} {s : JV} {rec : List UInt8} {d' : VD} {base : Option Addr} {fd : FuncId} {cap : List Value} (hR : RdC w0 A base (u8s rec)) (hct : callT Tryz.prog fd = true) (hk : n = rec.length) (hl : rec.length ≤ 1048576) (hd : 0 ≤ s.st.deeds ∧ s.st.deeds + 2 ≤ 9223372036854775807) (hn : 0 ≤ s.n ∧ s.n + 1 ≤ 9223372036854775807)
    (hdone : w = (0, true) → ∀ (st' : DSt) (n' : Int), Fun Tryz.prog w0 fd cap (vall v j dk d ⟨st', n', false⟩ A) (Ret w0 (fun _ : Unit => True) (fun _ => .tuple #[]) (fun _ => vall v j dk d' ⟨st', n', false⟩ A))) :
    AddF w0 v j dk w rec d' d s [.pointer (some ⟨v, 0, none⟩), .int .i64 w.1, .bool w.2, .slice base n c, .func (.func fd) #[] cap.toArray] A := by
  obtain ⟨e, b⟩ := w
  obtain ⟨st, nn, sick⟩ := s
  by_cases he : e = 0
  · subst he
    cases sick with
    | true => exact v_add_down
    | false =>
      cases b with
      | false => exact v_add_not
      | true => exact v_add_go (hR := ⟨hR⟩) hct hk hl hd hn (hdone rfl)
  · exact v_add_err he
theorem whyPut_do {d : VD} {k : PK} (h : whyPut d k = (0, true)) : d.parts k = none := by
  unfold whyPut at h
  split at h
  · cases h
  · split at h
    · cases h
    · split at h
      · cases h
      · have := congrArg Prod.snd h
        simpa using this
theorem v_put {w0 : World} {A : List HProp} {v j dk c : Nat} {d : VD} {s : JV} {k : PK} {base : Option Addr} {bs : List UInt8} [hR : Reads w0 A base (u8s bs)] (hk : PkOk k) (hf : k.flow.size ≤ 4096) (hb : bs.length ≤ 4096) (hd : 0 ≤ s.st.deeds ∧ s.st.deeds + 2 ≤ 9223372036854775807) (hn : 0 ≤ s.n ∧ s.n + 1 ≤ 9223372036854775807) :
    Fun Tryz.prog w0 40 [.pointer (some ⟨v, 0, none⟩), .string k.flow, .int .i64 k.num, .agg #[.int .i64 k.kind, .int .i64 k.n], .slice base bs.length c] (vall v j dk d s A) (Ret w0 (fun _ : Unit => True) (fun _ => .int .i64 (putS k bs d s).2) (fun _ => vall v j dk (putS k bs d s).1.1 (putS k bs d s).1.2 A)) := by
  have l1 := num_len (x := 1) (by omega)
  have l2 := num_len (x := k.num) hk.num
  have l3 := num_len (x := k.kind) hk.kind
  have l4 := num_len (x := k.n) hk.n
  have hfl : k.flow.data.toList.length = k.flow.size := rfl
  have l5 := text_len k.flow.data.toList (by omega)
  have l6 := text_len bs (by omega)
  have hrl : (recPut k bs).length ≤ 1048576 := by unfold recPut; simp only [List.length_append]; omega
  obtain ⟨w, hw⟩ : ∃ w, w = whyPut d k := ⟨_, rfl⟩
  unfold putS
  rw [← hw]
  refine Fun.enter Tryz.func40 rfl Tryz.ntmps40 rfl ?_
  refine WC.seq <| WC.region <| bxc (v := .pointer _) (cs := [.pointer _]) rfl rfl fun b1 => bxc (v := .agg _) (cs := [.int _ _, .int _ _]) rfl rfl fun b2 => bxc (v := .slice _ _ _) (cs := [.slice _ _ _]) rfl rfl fun b3 => sv (vaI rfl) <| WL.nil <| WX.thenN <| WC.seq <| WC.seq <| WC.region <| sv (vldc pl33 rfl) <| sv (vpeqF Tryz.underlying33 rfl rfl) <| WL.nil <| WX.thenN <| ?_
  refine WC.ff rfl ?_
  refine WC.skip <| WX.thenN <| WC.seq <| WC.region <| sv (vmT rfl) <| sv (vmI rfl) <| sv (vldac ag46 sz46 rfl rfl (by decide)) <| sv (vbd (ps := [(0, .string _), (1, .int _ _), (2, .agg _)]) (cs := pkl k) bt117 zt117 rfl (by rfl)) <| alz (cs := [.string ByteArray.empty, .int .i64 0, .int .i64 0, .int .i64 0]) zt117 (by rfl) fun b8 => stAp sz117 rfl rfl rfl (by intro v hv; simp only [List.mem_cons, List.not_mem_nil, or_false] at hv; rcases hv with rfl | rfl | rfl | rfl <;> rfl) rfl <| WL.nil <| WX.thenN <| WC.seq <| WC.region <| sv (vldc pl33 rfl) <| sv (vldac ag117 sz117 rfl rfl (by decide)) <| clx (by repeat' (first | with_reducible exact Sb.all | exact Sb.nil | (apply Sb.cons; focus (first | ((repeat (first | with_reducible exact Tk.here | with_reducible apply Tk.there)); done) | ((repeat (first | exact Tk.here | apply Tk.there)); done))) | apply Sb.drop)) ((show Fun Tryz.prog w0 62 [.pointer (some ⟨v, 0, none⟩), .agg (pkl k).toArray] (pv v j s.sick d :: _) (Ret w0 (fun _ : Unit => True) (fun _ => .tuple #[.int .i64 w.1, .bool w.2]) (fun _ => pv v j s.sick d :: _)) from by rw [hw]; exact v_puts hk)) ct62 rfl fun r12 hr12 => ?_
  refine sv vmv <| sv (vex rfl rfl) <| sv (vex rfl rfl) <| sv (vaI rfl) <| sv (vaB rfl) <| WL.nil <| WX.thenN <| WC.seq <| WC.region <| clx (by repeat' (first | with_reducible exact Sb.all | exact Sb.nil | (apply Sb.cons; focus (first | ((repeat (first | with_reducible exact Tk.here | with_reducible apply Tk.there)); done) | ((repeat (first | exact Tk.here | apply Tk.there)); done))) | apply Sb.drop)) (pk_num (out := num 1) [] RdC.nil rfl rfl (by simp) (by omega)) ct71 rfl fun r13 hr13 => ?_
  refine sv (vmT rfl) <| clx (by repeat' (first | with_reducible exact Sb.all | exact Sb.nil | (apply Sb.cons; focus (first | ((repeat (first | with_reducible exact Tk.here | with_reducible apply Tk.there)); done) | ((repeat (first | exact Tk.here | apply Tk.there)); done))) | apply Sb.drop)) (pk_text (out := num 1 ++ text k.flow.data.toList) (num 1) reads rfl rfl (by omega) (by omega)) ct72 rfl fun r14 hr14 => ?_
  refine sv (vmI rfl) <| clx (by repeat' (first | with_reducible exact Sb.all | exact Sb.nil | (apply Sb.cons; focus (first | ((repeat (first | with_reducible exact Tk.here | with_reducible apply Tk.there)); done) | ((repeat (first | exact Tk.here | apply Tk.there)); done))) | apply Sb.drop)) (pk_num (out := num 1 ++ text k.flow.data.toList ++ num k.num) (num 1 ++ text k.flow.data.toList) reads rfl rfl (by simp only [List.length_append]; omega) hk.num) ct71 rfl fun r15 hr15 => ?_
  refine sv (vaS rfl) <| WL.nil <| WX.thenN <| WC.seq <| WC.plan (.pre [0, 1, 2] (.one [4, 5, 7, 8] 3 (.one [] 6 (.bar [] 9 (.done [10]))))) rfl (by kernel_rfl) <| WPl.preC <| dv (fun g => (vmS rfl)) <| dv (fun g => (vfldpz fl46f0 rfl)) <| dv (fun g => (vldc pl3 rfl)) <| WD.nil <| WPl.oneE (fun g => by infer_instance) <| dv (fun g => (vfldp fl46f1 rfl)) <| dv (fun g => (vldc pl3 rfl)) <| dv (fun g => (vldc pl23 rfl)) <| dv (fun g => (vstr (bs := bs) Tryz.underlying23 Tryz.underlying5 Tryz.underlying9 rfl reads rfl)) <| WD.eff rfl <| clx (by repeat' (first | with_reducible exact Sb.all | exact Sb.nil | (apply Sb.cons; focus (first | ((repeat (first | with_reducible exact Tk.here | with_reducible apply Tk.there)); done) | ((repeat (first | exact Tk.here | apply Tk.there)); done))) | apply Sb.drop)) (pk_num (out := num 1 ++ text k.flow.data.toList ++ num k.num ++ num k.kind) (num 1 ++ text k.flow.data.toList ++ num k.num) reads rfl rfl (by simp only [List.length_append]; omega) hk.kind) ct71 rfl fun r17 hr17 => ?_
  refine WL.nil <| WX.br <| WPl.oneE (fun g => by infer_instance) <| WD.eff rfl <| clx (by repeat' (first | with_reducible exact Sb.all | exact Sb.nil | (apply Sb.cons; focus (first | ((repeat (first | with_reducible exact Tk.here | with_reducible apply Tk.there)); done) | ((repeat (first | exact Tk.here | apply Tk.there)); done))) | apply Sb.drop)) (pk_num (out := num 1 ++ text k.flow.data.toList ++ num k.num ++ num k.kind ++ num k.n) (num 1 ++ text k.flow.data.toList ++ num k.num ++ num k.kind) reads rfl rfl (by simp only [List.length_append]; omega) hk.n) ct71 rfl fun r19 hr19 => ?_
  refine WL.nil <| WX.br <| WPl.barC <| WD.eff rfl <| clx (by repeat' (first | with_reducible exact Sb.all | exact Sb.nil | (apply Sb.cons; focus (first | ((repeat (first | with_reducible exact Tk.here | with_reducible apply Tk.there)); done) | ((repeat (first | exact Tk.here | apply Tk.there)); done))) | apply Sb.drop)) (pk_text (out := recPut k bs) (num 1 ++ text k.flow.data.toList ++ num k.num ++ num k.kind ++ num k.n) reads rfl rfl (by simp only [List.length_append]; omega) (by simp only [List.length_append]; show _ + bs.length ≤ _; omega)) ct72 rfl fun r22 hr22 => ?_
  refine WL.nil <| WX.brT <| WPl.finC <| dv (fun g => (vaS rfl)) <| WD.nil <| WX.thenN <| WC.seq <| WC.region <| sv (vldc pl33 rfl) <| sv (vmI rfl) <| sv (vmB rfl) <| sv (vmS rfl) <| sv (vfn rfl) <| clx (by repeat' (first | with_reducible exact Sb.all | exact Sb.nil | (apply Sb.cons; focus (first | ((repeat (first | with_reducible exact Tk.here | with_reducible apply Tk.there)); done) | ((repeat (first | exact Tk.here | apply Tk.there)); done))) | apply Sb.drop)) (v_add (w := w) (rec := recPut k bs) (d' := putD d k bs) (cap := [.pointer (some ⟨b3, 0, none⟩), .pointer (some ⟨b1, 0, none⟩), .pointer (some ⟨b8, 0, none⟩)]) reads ct74 rfl hrl hd hn (fun h st' n' => v_put1 hk (whyPut_do (hw ▸ h)) (by omega))) ct73 rfl fun r24 hr24 => ?_
  exact sv (vaI rfl) <| WL.nil <| WX.thenN <| WC.ret <| WX.ret1 rfl (()) (trivial) rfl (fun _ h => Sb.own (by repeat' (first | with_reducible exact Sb.all | exact Sb.nil | (apply Sb.cons; focus (first | ((repeat (first | with_reducible exact Tk.here | with_reducible apply Tk.there)); done) | ((repeat (first | exact Tk.here | apply Tk.there)); done))) | apply Sb.drop)) h)
theorem v_dropc {w0 : World} {A : List HProp} {v j dk : Nat} {d : VD} {s : JV} {f : ByteArray} {n : Int} (hf : f.size ≤ 4096) (hn0 : -9223372036854775808 ≤ n ∧ n ≤ 9223372036854775807) (hd : 0 ≤ s.st.deeds ∧ s.st.deeds + 2 ≤ 9223372036854775807) (hn : 0 ≤ s.n ∧ s.n + 1 ≤ 9223372036854775807) :
    Fun Tryz.prog w0 42 [.pointer (some ⟨v, 0, none⟩), .string f, .int .i64 n] (vall v j dk d s A) (Ret w0 (fun _ : Unit => True) (fun _ => .int .i64 (dropS f n d s).2) (fun _ => vall v j dk (dropS f n d s).1.1 (dropS f n d s).1.2 A)) := by
  have l1 := num_len (x := 2) (by omega)
  have l2 := num_len (x := n) hn0
  have hfl : f.data.toList.length = f.size := rfl
  have l5 := text_len f.data.toList (by omega)
  have hrl : (recDrop f n).length ≤ 1048576 := by unfold recDrop; simp only [List.length_append]; omega
  obtain ⟨w, hw⟩ : ∃ w, w = whyDrop d f n := ⟨_, rfl⟩
  unfold dropS
  rw [← hw]
  refine Fun.enter Tryz.func42 rfl Tryz.ntmps42 rfl ?_
  refine WC.seq <| WC.region <| bxc (v := .pointer _) (cs := [.pointer _]) rfl rfl fun b1 => bxc (v := .string _) (cs := [.string _]) rfl rfl fun b2 => bxc (v := .int _ _) (cs := [.int _ _]) rfl rfl fun b3 => sv (vaI rfl) <| WL.nil <| WX.thenN <| WC.seq <| WC.seq <| WC.region <| sv (vldc pl33 rfl) <| sv (vpeqF Tryz.underlying33 rfl rfl) <| WL.nil <| WX.thenN <| ?_
  refine WC.ff rfl ?_
  refine WC.skip <| WX.thenN <| WC.seq <| WC.region <| sv (vldc pl33 rfl) <| sv (vldc pl9 rfl) <| sv (vldc pl3 rfl) <| clx (by repeat' (first | with_reducible exact Sb.all | exact Sb.nil | (apply Sb.cons; focus (first | ((repeat (first | with_reducible exact Tk.here | with_reducible apply Tk.there)); done) | ((repeat (first | exact Tk.here | apply Tk.there)); done))) | apply Sb.drop)) ((show Fun Tryz.prog w0 64 [.pointer (some ⟨v, 0, none⟩), .string f, .int .i64 n] (pv v j s.sick d :: _) (Ret w0 (fun _ : Unit => True) (fun _ => .tuple #[.int .i64 w.1, .bool w.2]) (fun _ => pv v j s.sick d :: _)) from by rw [hw]; exact v_drops (by omega))) ct64 rfl fun r9 hr9 => ?_
  refine sv vmv <| sv (vex rfl rfl) <| sv (vex rfl rfl) <| sv (vaI rfl) <| sv (vaB rfl) <| WL.nil <| WX.thenN <| WC.seq <| WC.plan (.one [0, 1, 2, 4, 6, 8] 3 (.one [] 5 (.one [] 7 (.bar [] 9 (.done [10]))))) rfl (by kernel_rfl) <| WPl.oneE (fun g => by infer_instance) <| dv (fun g => (vldc pl33 rfl)) <| dv (fun g => (vmI rfl)) <| dv (fun g => (vmB rfl)) <| dv (fun g => (vldc pl9 rfl)) <| dv (fun g => (vldc pl3 rfl)) <| dv (fun g => (vfn rfl)) <| WD.eff rfl <| clx (by repeat' (first | with_reducible exact Sb.all | exact Sb.nil | (apply Sb.cons; focus (first | ((repeat (first | with_reducible exact Tk.here | with_reducible apply Tk.there)); done) | ((repeat (first | exact Tk.here | apply Tk.there)); done))) | apply Sb.drop)) (pk_num (out := num 2) [] RdC.nil rfl rfl (by simp) (by omega)) ct71 rfl fun r11 hr11 => ?_
  refine WL.nil <| WX.br <| WPl.oneE (fun g => by infer_instance) <| WD.eff rfl <| clx (by repeat' (first | with_reducible exact Sb.all | exact Sb.nil | (apply Sb.cons; focus (first | ((repeat (first | with_reducible exact Tk.here | with_reducible apply Tk.there)); done) | ((repeat (first | exact Tk.here | apply Tk.there)); done))) | apply Sb.drop)) (pk_text (out := num 2 ++ text f.data.toList) (num 2) reads rfl rfl (by omega) (by omega)) ct72 rfl fun r13 hr13 => ?_
  refine WL.nil <| WX.br <| WPl.oneE (fun g => by infer_instance) <| WD.eff rfl <| clx (by repeat' (first | with_reducible exact Sb.all | exact Sb.nil | (apply Sb.cons; focus (first | ((repeat (first | with_reducible exact Tk.here | with_reducible apply Tk.there)); done) | ((repeat (first | exact Tk.here | apply Tk.there)); done))) | apply Sb.drop)) (pk_num (out := recDrop f n) (num 2 ++ text f.data.toList) reads rfl rfl (by simp only [List.length_append]; omega) hn0) ct71 rfl fun r15 hr15 => ?_
  refine WL.nil <| WX.br <| WPl.barC <| WD.eff rfl <| clx (by repeat' (first | with_reducible exact Sb.all | exact Sb.nil | (apply Sb.cons; focus (first | ((repeat (first | with_reducible exact Tk.here | with_reducible apply Tk.there)); done) | ((repeat (first | exact Tk.here | apply Tk.there)); done))) | apply Sb.drop)) (v_add (w := w) (rec := recDrop f n) (d' := dropD d f n) (cap := [.pointer (some ⟨b1, 0, none⟩), .pointer (some ⟨b2, 0, none⟩), .pointer (some ⟨b3, 0, none⟩)]) reads ct76 rfl hrl hd hn (fun h st' n' => v_drop1)) ct73 rfl fun r16 hr16 => ?_
  exact WL.nil <| WX.brT <| WPl.finC <| dv (fun g => (vaI rfl)) <| WD.nil <| WX.thenN <| WC.ret <| WX.ret1 rfl (()) (trivial) rfl (fun _ h => Sb.own (by repeat' (first | with_reducible exact Sb.all | exact Sb.nil | (apply Sb.cons; focus (first | ((repeat (first | with_reducible exact Tk.here | with_reducible apply Tk.there)); done) | ((repeat (first | exact Tk.here | apply Tk.there)); done))) | apply Sb.drop)) h)
theorem v_get_none {w0 : World} {A : List HProp} {v j : Nat} {dn : Bool} {d : VD} {k : PK} (hk : PkOk k) (h0 : d.parts k = none) : Fun Tryz.prog w0 41 [.pointer (some ⟨v, 0, none⟩), .string k.flow, .int .i64 k.num, .agg #[.int .i64 k.kind, .int .i64 k.n]] (pv v j dn d :: A) (Ret w0 (fun _ : Unit => True) (fun _ => .tuple #[.slice none 0 0, .int .i64 6]) (fun _ => pv v j dn d :: A)) := by
  refine Fun.ex (fun w h => pv_open h) ?_
  rintro ⟨mp, mf, l, fl⟩ hi
  dsimp only [vcl]
  refine Fun.enter Tryz.func41 rfl Tryz.ntmps41 rfl ?_
  refine WC.seq <| WC.region <| bxc (v := .agg _) (cs := [.int _ _, .int _ _]) rfl rfl fun b1 => sv (vaS rfl) <| sv (vaI rfl) <| WL.nil <| WX.thenN <| WC.seq <| WC.seq <| WC.region <| sv (vmP rfl) <| sv (vpeqF Tryz.underlying33 rfl rfl) <| WL.nil <| WX.thenN <| ?_
  refine WC.ff rfl ?_
  refine WC.skip <| WX.thenN <| WC.seq <| WC.draws rfl (by kernel_rfl) <| qv (vmP rfl) <| qv (vnil rfl) <| qv (vfldpz fl86f0 rfl) <| qv (vldc pl83 rfl) <| qv (vmT rfl) <| qv (vmI rfl) <| qv (vldac ag46 sz46 rfl rfl (by decide)) <| qv (vbd (ps := [(0, .string _), (1, .int _ _), (2, .agg _)]) (cs := pkl k) bt117 zt117 rfl (by rfl)) <| qv (vlkzK (okf := true) Tryz.underlying83 place_law zt23 rfl rfl (kp_ok hk) (pents_none ((hi.look k).trans h0))) <| qv vmv <| qv (vex rfl rfl) <| qv (vex rfl rfl) <| qv (vaS rfl) <| qv (vaB rfl) <| WQ.nil <| WX.thenN <| WC.seq <| WC.seq <| WC.region <| sv (vmB rfl) <| sv (vnot rfl) <| WL.nil <| WX.thenN <| ?_
  refine WC.tt rfl ?_
  exact WC.seq <| WC.region <| sv (vaS rfl) <| sv (vaI rfl) <| WL.nil <| WX.thenN <| WC.ret <| WX.thenR <| WX.ret2 rfl (()) (trivial) rfl (fun w h => by have h2 := pv_mk (v := v) (j := j) (down := dn) hi (Own.sp4 (by repeat' (first | exact Spl.nil | (apply Spl.cons; focus (first | ((repeat (first | with_reducible exact Tk.here | with_reducible apply Tk.there)); done) | ((repeat (first | exact Tk.here | apply Tk.there)); done))))) h); exact Sb.own (by repeat' (first | with_reducible exact Sb.all | exact Sb.nil | (apply Sb.cons; focus (first | ((repeat (first | with_reducible exact Tk.here | with_reducible apply Tk.there)); done) | ((repeat (first | exact Tk.here | apply Tk.there)); done))) | apply Sb.drop)) h2)
theorem v_get_some {w0 : World} {A : List HProp} {v j : Nat} {dn : Bool} {d : VD} {k : PK} {b : List UInt8} (hk : PkOk k) (h0 : d.parts k = some b) : Fun Tryz.prog w0 41 [.pointer (some ⟨v, 0, none⟩), .string k.flow, .int .i64 k.num, .agg #[.int .i64 k.kind, .int .i64 k.n]] (pv v j dn d :: A) (Ret w0 (fun i : Option Addr × Nat => b.length ≤ i.2) (fun i => .tuple #[.slice i.1 b.length i.2, .int .i64 0]) (fun i => row i.1 i.2 1 5 (u8s b) :: pv v j dn d :: A)) := by
  refine Fun.ex (fun w h => pv_open h) ?_
  rintro ⟨mp, mf, l, fl⟩ hi
  obtain ⟨jj, x, hj, hxk, rfl⟩ := lookP_some ((hi.look k).trans h0)
  have hok := (hi.ok x (List.mem_of_getElem? hj)).2
  have hpe := pents_at hj
  rw [hxk] at hpe
  dsimp only [vcl] at hpe ⊢
  refine Fun.enter Tryz.func41 rfl Tryz.ntmps41 rfl ?_
  refine WC.seq <| WC.region <| bxc (v := .agg _) (cs := [.int _ _, .int _ _]) rfl rfl fun b1 => sv (vaS rfl) <| sv (vaI rfl) <| WL.nil <| WX.thenN <| WC.seq <| WC.seq <| WC.region <| sv (vmP rfl) <| sv (vpeqF Tryz.underlying33 rfl rfl) <| WL.nil <| WX.thenN <| ?_
  refine WC.ff rfl ?_
  refine WC.skip <| WX.thenN <| WC.seq <| WC.draws rfl (by kernel_rfl) <| qv (vmP rfl) <| qv (vnil rfl) <| qv (vfldpz fl86f0 rfl) <| qv (vldc pl83 rfl) <| qv (vmT rfl) <| qv (vmI rfl) <| qv (vldac ag46 sz46 rfl rfl (by decide)) <| qv (vbd (ps := [(0, .string _), (1, .int _ _), (2, .agg _)]) (cs := pkl k) bt117 zt117 rfl (by rfl)) <| qv (vlkK (okf := true) Tryz.underlying83 place_law rfl rfl (kp_ok hk) hpe) <| qv vmv <| qv (vex rfl rfl) <| qv (vex rfl rfl) <| qv (vaS rfl) <| qv (vaB rfl) <| WQ.nil <| WX.thenN <| WC.seq <| WC.seq <| WC.region <| sv (vmB rfl) <| sv (vnot rfl) <| WL.nil <| WX.thenN <| ?_
  refine WC.ff rfl ?_
  refine WC.skip <| WX.thenN <| WC.seq <| WC.region <| sv (vmS rfl) <| clx (by repeat' (first | with_reducible exact Sb.all | exact Sb.nil | (apply Sb.cons; focus (first | ((repeat (first | with_reducible exact Tk.here | with_reducible apply Tk.there)); done) | ((repeat (first | exact Tk.here | apply Tk.there)); done))) | apply Sb.drop)) (v_clone (hR := ⟨RdC.of_rows (e := 5) (l := l.map Prod.snd) (by simp) (List.mem_map.2 ⟨x, List.mem_of_getElem? hj, rfl⟩)⟩) (by omega)) ct75 rfl fun r7 hr7 => ?_
  exact sv (vaS rfl) <| sv (vaI rfl) <| WL.nil <| WX.thenN <| WC.ret <| WX.ret2 rfl (r7) (hr7) rfl (fun w h => by have h2 := pv_mk (v := v) (j := j) (down := dn) hi (Own.sp4 (by repeat' (first | exact Spl.nil | (apply Spl.cons; focus (first | ((repeat (first | with_reducible exact Tk.here | with_reducible apply Tk.there)); done) | ((repeat (first | exact Tk.here | apply Tk.there)); done))))) h); exact Sb.own (by repeat' (first | with_reducible exact Sb.all | exact Sb.nil | (apply Sb.cons; focus (first | ((repeat (first | with_reducible exact Tk.here | with_reducible apply Tk.there)); done) | ((repeat (first | exact Tk.here | apply Tk.there)); done))) | apply Sb.drop)) h2)
end Go.Proofs.YthljpljbpbkkcaaGreatDoor
end
section
set_option linter.unusedVariables false
set_option linter.unusedSimpArgs false
set_option maxRecDepth 4000
namespace Go.Proofs.YthljpljbpbkkcaaGreatDoor
open Go.Sl Go.RowKit Go.Pack Go.Journal

/-- what is left behind the records is cut off -/
def openS (nm : ByteArray) (st : DSt) : DSt × Int :=
  if st.off then (st, 20) else if ¬ okName nm then (st, 51) else
  if (recsB (readS nm st).1).2 = [] then (st, 0) else cutS nm ((readS nm st).1.length - (recsB (readS nm st).1).2.length) st
theorem journal_open_nil {w0 : World} {A : List HProp} {nm : ByteArray} :
    Fun Tryz.prog w0 36 [.pointer none, .string nm] A (Ret w0 (fun _ : Unit => True) (fun _ => .tuple #[.pointer none, .slice none 0 0, .int .i64 3]) (fun _ => A)) := by
  refine Fun.enter Tryz.func36 rfl Tryz.ntmps36 rfl ?_
  refine WC.seq <| WC.region <| sv (vaP rfl) <| sv (vaS rfl) <| sv (vaI rfl) <| WL.nil <| WX.thenN <| WC.seq <| WC.seq <| WC.region <| sv (vmP rfl) <| sv (vpeqT Tryz.underlying24 rfl rfl) <| WL.nil <| WX.thenN <| ?_
  refine WC.tt rfl ?_
  exact WC.seq <| WC.region <| sv (vaP rfl) <| sv (vaS rfl) <| sv (vaI rfl) <| WL.nil <| WX.thenN <| WC.ret <| WX.thenR <| WX.ret3 rfl (()) (trivial) rfl (fun _ h => h)
theorem journal_add_nil {w0 : World} {A : List HProp} {b : Option Addr} {n c : Nat} :
    Fun Tryz.prog w0 94 [.pointer none, .slice b n c] A (Ret w0 (fun _ : Unit => True) (fun _ => .int .i64 3) (fun _ => A)) := by
  refine Fun.enter Tryz.func94 rfl Tryz.ntmps94 rfl ?_
  refine WC.seq <| WC.region <| sv (vaI rfl) <| WL.nil <| WX.thenN <| WC.seq <| WC.block <| WC.seq <| WC.region <| sv (vmP rfl) <| sv (vpeqT Tryz.underlying80 rfl rfl) <| sv (vaB rfl) <| WL.nil <| WX.thenN <| ?_
  refine WC.tt rfl ?_
  exact WC.seq <| WC.region <| sv (vaI rfl) <| WL.nil <| WX.thenN <| WC.ret <| WX.blockR <| WX.thenR <| WX.ret1 rfl (()) (trivial) rfl (fun _ h => h)
theorem journal_open_off {w0 : World} {A : List HProp} {d : Nat} {nm : ByteArray} {st : DSt} (ho : st.off = true) :
    Fun Tryz.prog w0 36 [.pointer (some ⟨d, 0, none⟩), .string nm] (pdisk d st :: A) (Ret w0 (fun _ : Unit => True) (fun _ => .tuple #[.pointer none, .slice none 0 0, .int .i64 20]) (fun _ => pdisk d st :: A)) := by
  refine Fun.enter Tryz.func36 rfl Tryz.ntmps36 rfl ?_
  refine WC.seq <| WC.region <| sv (vaP rfl) <| sv (vaS rfl) <| sv (vaI rfl) <| WL.nil <| WX.thenN <| WC.seq <| WC.seq <| WC.region <| sv (vmP rfl) <| sv (vpeqF Tryz.underlying24 rfl rfl) <| WL.nil <| WX.thenN <| ?_
  refine WC.ff rfl ?_
  refine WC.skip <| WX.thenN <| WC.seq <| WC.seq <| WC.region <| sv (vmP rfl) <| cl (disk_up_at ho) ct54 rfl fun _ _ => sv (vnot rfl) <| WL.nil <| WX.thenN <| ?_
  refine WC.tt rfl ?_
  exact WC.seq <| WC.region <| sv (vaP rfl) <| sv (vaS rfl) <| sv (vaI rfl) <| WL.nil <| WX.thenN <| WC.ret <| WX.thenR <| WX.ret3 rfl (()) (trivial) rfl (fun _ h => h)
theorem journal_open_name {w0 : World} {A : List HProp} {d : Nat} {nm : ByteArray} {st : DSt} (ho : st.off = false) (hn : ¬ okName nm) :
    Fun Tryz.prog w0 36 [.pointer (some ⟨d, 0, none⟩), .string nm] (pdisk d st :: A) (Ret w0 (fun _ : Unit => True) (fun _ => .tuple #[.pointer none, .slice none 0 0, .int .i64 51]) (fun _ => pdisk d st :: A)) := by
  have hd : decide (okName nm) = false := by simpa using hn
  refine Fun.enter Tryz.func36 rfl Tryz.ntmps36 rfl ?_
  refine WC.seq <| WC.region <| sv (vaP rfl) <| sv (vaS rfl) <| sv (vaI rfl) <| WL.nil <| WX.thenN <| WC.seq <| WC.seq <| WC.region <| sv (vmP rfl) <| sv (vpeqF Tryz.underlying24 rfl rfl) <| WL.nil <| WX.thenN <| ?_
  refine WC.ff rfl ?_
  refine WC.skip <| WX.thenN <| WC.seq <| WC.seq <| WC.region <| sv (vmP rfl) <| cl (disk_up_at ho) ct54 rfl fun _ _ => sv (vnot rfl) <| WL.nil <| WX.thenN <| ?_
  refine WC.ff rfl ?_
  refine WC.skip <| WX.thenN <| WC.seq <| WC.seq <| WC.region <| sv (vmT rfl) <| cl (hd ▸ journal_may) ct55 rfl fun _ _ => sv (vnot rfl) <| WL.nil <| WX.thenN <| ?_
  refine WC.tt rfl ?_
  exact WC.seq <| WC.region <| sv (vaP rfl) <| sv (vaS rfl) <| sv (vaI rfl) <| WL.nil <| WX.thenN <| WC.ret <| WX.thenR <| WX.ret3 rfl (()) (trivial) rfl (fun _ h => h)
theorem pdisk_len {w0 w : World} {d : Nat} {st : DSt} {A : List HProp} {nm : ByteArray} (h : Own w0 (pdisk d st :: A) w) : (readS nm st).1.length ≤ 16777216 := by
  obtain ⟨⟨m, l⟩, hr, _⟩ := pdisk_open h
  unfold readS
  split
  · simp
  · cases hf : st.files nm with
    | none => simp
    | some v =>
      obtain ⟨j, x, hj, rfl, rfl⟩ := hr.at hf
      exact (hr.ok x (List.mem_of_getElem? hj)).2
theorem open_row {w0 w : World} {R : List HProp} {b m : Nat} {rec : List UInt8} (hm : rec.length = m) (hx : m ≤ maxLen) (h : Own w0 (cel b (splice (List.replicate m (Value.int .u8 0)) 0 (u8s rec)) 5 :: R) w) : Own w0 (row (some ⟨b, 0, none⟩) m 1 5 (u8s rec) :: R) w := by
  have e : splice (List.replicate m (Value.int .u8 0)) 0 (u8s rec) = u8s rec := by subst hm; simp [splice]
  rw [e] at h
  exact h.cel_row (by simp [hm]) hx
structure OpI where
  done : List (Sla UInt8)
  rb : Option Addr
  rc : Nat
  rest : List UInt8
  qb : Option Addr
  qc : Nat
structure OpR (w0 : World) (B : List HProp) (b : List UInt8) (i : OpI) : Prop where
  rd : RdC w0 B i.rb (u8s i.rest)
  cap : i.rest.length ≤ i.rc
  recs : i.done.map (·.xs) ++ (recsB i.rest).1 = (recsB b).1
  left : (recsB i.rest).2 = (recsB b).2
  len : i.done.length + i.rest.length ≤ b.length
  caps : ∀ x ∈ i.done, x.xs.length ≤ x.cap
  qcap : i.done.length ≤ i.qc
theorem journal_open_ok {w0 : World} {A : List HProp} {d : Nat} {nm : ByteArray} {st st' : DSt} (hd : 0 ≤ st.deeds ∧ st.deeds + 1 ≤ 9223372036854775807) (ho : openS nm st = (st', 0)) :
    Fun Tryz.prog w0 36 [.pointer (some ⟨d, 0, none⟩), .string nm] (pdisk d st :: A)
      (Ret w0 (fun i : Nat × Option Addr × Nat × List (Sla UInt8) => i.2.2.2.map (·.xs) = (recsB (readS nm st).1).1 ∧ i.2.2.2.length ≤ i.2.2.1)
        (fun i => .tuple #[.pointer (some ⟨i.1, 0, none⟩), .slice i.2.1 i.2.2.2.length i.2.2.1, .int .i64 0])
        (fun i => cel i.1 (jcells d nm i.2.2.2.length false) 112 :: pdisk d st' :: row i.2.1 i.2.2.1 1 23 (bss i.2.2.2) :: rows 5 i.2.2.2 :: A)) := by
  refine Fun.known (fun w h => pdisk_len (nm := nm) h) fun hlen => ?_
  have h1 : st.off = false := by
    cases h : st.off with
    | false => rfl
    | true => unfold openS at ho; rw [if_pos h] at ho; cases ho
  have hno : ¬ st.off = true := by rw [h1]; decide
  have h2 : decide (okName nm) = true := by
    by_cases h : okName nm
    · simpa using h
    · unfold openS at ho; rw [if_neg hno, if_pos h] at ho; cases ho
  unfold openS at ho
  rw [if_neg hno, if_neg (by simpa using h2)] at ho
  obtain ⟨b, hb⟩ : ∃ b, b = (readS nm st).1 := ⟨_, rfl⟩
  obtain ⟨e, he⟩ : ∃ e, e = (readS nm st).2 := ⟨_, rfl⟩
  have hrd : readS nm st = (b, e) := by rw [hb, he]
  rw [← hb] at ho hlen ⊢
  refine Fun.enter Tryz.func36 rfl Tryz.ntmps36 rfl ?_
  refine WC.seq <| WC.region <| sv (vaP rfl) <| sv (vaS rfl) <| sv (vaI rfl) <| WL.nil <| WX.thenN <| WC.seq <| WC.seq <| WC.region <| sv (vmP rfl) <| sv (vpeqF Tryz.underlying24 rfl rfl) <| WL.nil <| WX.thenN <| ?_
  refine WC.ff rfl ?_
  refine WC.skip <| WX.thenN <| WC.seq <| WC.seq <| WC.region <| sv (vmP rfl) <| cl (disk_up_at h1) ct54 rfl fun _ _ => sv (vnot rfl) <| WL.nil <| WX.thenN <| ?_
  refine WC.ff rfl ?_
  refine WC.skip <| WX.thenN <| WC.seq <| WC.seq <| WC.region <| sv (vmT rfl) <| cl (h2 ▸ journal_may) ct55 rfl fun _ _ => sv (vnot rfl) <| WL.nil <| WX.thenN <| ?_
  refine WC.ff rfl ?_
  refine WC.skip <| WX.thenN <| WC.seq <| WC.region <| sv (vmP rfl) <| sv (vmT rfl) <| cl (disk_read_at hrd) ct56 rfl fun r4 hr4 => sv vmv <| sv (vex rfl rfl) <| sv (vex rfl rfl) <| sv (vaS rfl) <| sv (vaI rfl) <| WL.nil <| WX.thenN <| WC.seq <| WC.region <| sv (vmS rfl) <| sv (vaS rfl) <| WL.nil <| WX.thenN <| WC.seq <| WC.region <| sv (vaS rfl) <| WL.nil <| WX.thenN <| WC.seq <| WC.block <| ?_
  refine WC.loop (ι := OpI) (fun i => [(9, .slice i.rb i.rest.length i.rc), (10, .slice i.qb i.done.length i.qc)]) [(0, .pointer _), (1, .string _), (7, .slice _ _ _)] (fun i => row i.qb i.qc 1 23 (bss i.done) :: rows 5 i.done :: pdisk d st :: row r4.1 r4.2 1 5 (u8s b) :: A) (fun i => OpR w0 (row r4.1 r4.2 1 5 (u8s b) :: A) b i) (fun i => i.rest.length) (⟨[], r4.1, r4.2, b, none, 0⟩) (⟨reads, hr4, by simp, rfl, by simp, by simp, by simp⟩) ⟨rfl, rfl, trivial⟩ ⟨rfl, rfl, rfl, trivial⟩ (fun w h => Own.intro_row_nil (Own.intro_emp h.pk1)) ?_
  rintro ⟨done, rb, rc, rest, qb, qc⟩ ⟨u1, u2, u3, u4, u5, u6, u7⟩ ρh
  dsimp only at u1 u2 u3 u4 u5 u6 u7 ⊢
  rcases hn : nextB rest with _ | m
  · -- none
    have hrs := recsB_none hn
    rw [hrs] at u3 u4
    dsimp only at u3 u4
    rw [List.append_nil] at u3
    refine WC.block <| WC.seq <| WC.region <| sv (vmS rfl) <| cl (journal_next_none u1.cons.cons.cons rfl u2 (by omega) hn) ct57 rfl fun _ _ => sv vmv <| sv (vex rfl rfl) <| sv (vex rfl rfl) <| sv (vex rfl rfl) <| sv (vaS rfl) <| sv (vaS rfl) <| sv (vaB rfl) <| WL.nil <| WX.thenN <| WC.seq <| WC.seq <| WC.region <| sv (vmB rfl) <| sv (vnot rfl) <| WL.nil <| WX.thenN <| ?_
    refine WC.tt rfl ?_
    refine WC.exit <| WX.thenE <| WX.blockE rfl <| WX.thenE <| WX.blockH <| WX.thenN <| WC.seq <| WC.seq <| WC.region <| sv (vmS rfl) <| sv (vlen Tryz.underlying23 rfl) <| sv (vgt rfl rfl) <| WL.nil <| WX.thenN <| ?_
    refine WC.ite rfl (fun h5 => ?_) (fun h5 => ?_)
    · -- then
      rw [if_neg (by rw [← u4]; intro h; rw [h] at h5; simp at h5), ← u4] at ho
      refine WC.seq <| WC.region <| sv (vmP rfl) <| sv (vmT rfl) <| sv (vmS rfl) <| sv (vlen Tryz.underlying23 rfl) <| sv (vmS rfl) <| sv (vlen Tryz.underlying23 rfl) <| sv (vsub rfl rfl (by omega)) <| pm (fun _ h => h.pk2) <| cl (disk_cut_at (nm := nm) hd ho) ct58 rfl fun _ _ => sv (vaI rfl) <| WL.nil <| WX.thenN <| WC.seq <| WC.region <| sv (vmI rfl) <| sv (vne rfl rfl) <| WL.nil <| WX.thenN <| ?_
      refine WC.ite rfl (fun h6 => ?_) (fun h6 => ?_)
      · -- then
        exact absurd rfl h6
      · -- else
        exact WC.skip <| WX.thenN <| WC.seq <| WC.region <| sv (vmP rfl) <| sv (vmT rfl) <| sv (vmS rfl) <| sv (vlen Tryz.underlying22 rfl) <| sv (vbd (ps := [(0, .pointer _), (1, .string _), (2, .int _ _)]) (cs := [_, _, _, _]) bt112 zt112 rfl (by rfl)) <| bxc (v := .agg _) (cs := [.pointer _, .string _, .int _ _, .bool _]) rfl rfl fun b13 => sv (vmS rfl) <| sv (vaP rfl) <| sv (vaS rfl) <| sv (vaI rfl) <| WL.nil <| WX.thenN <| WC.ret <| WX.ret3 rfl ((b13, qb, qc, done)) (⟨u3, u7⟩) rfl (fun w h => h.pk4.tail)
    · -- else
      have hr0 : rest = [] := List.eq_nil_of_length_eq_zero (by omega)
      rw [if_pos (by rw [← u4]; exact hr0)] at ho
      obtain rfl : st = st' := by cases ho; rfl
      exact WC.skip <| WX.thenN <| WC.seq <| WC.region <| sv (vmP rfl) <| sv (vmT rfl) <| sv (vmS rfl) <| sv (vlen Tryz.underlying22 rfl) <| sv (vbd (ps := [(0, .pointer _), (1, .string _), (2, .int _ _)]) (cs := [_, _, _, _]) bt112 zt112 rfl (by rfl)) <| bxc (v := .agg _) (cs := [.pointer _, .string _, .int _ _, .bool _]) rfl rfl fun b13 => sv (vmS rfl) <| sv (vaP rfl) <| sv (vaS rfl) <| sv (vaI rfl) <| WL.nil <| WX.thenN <| WC.ret <| WX.ret3 rfl ((b13, qb, qc, done)) (⟨u3, u7⟩) rfl (fun w h => h.pk4.tail.pk3.pk1)
  · -- some
    have hle := nextB_le hn
    have hrs := recsB_some hn
    have hml : ((rest.drop 8).take m).length = m := by rw [List.length_take, List.length_drop]; omega
    have hdl : (rest.drop (8 + m)).length = rest.length - (8 + m) := List.length_drop
    refine WC.block <| WC.seq <| WC.region <| sv (vmS rfl) <| cl (journal_next_some u1.cons.cons.cons rfl u2 (by omega) hn) ct57 rfl fun _ _ => sv vmv <| sv (vex rfl rfl) <| sv (vex rfl rfl) <| sv (vex rfl rfl) <| sv (vaS rfl) <| sv (vaS rfl) <| sv (vaB rfl) <| WL.nil <| WX.thenN <| WC.seq <| WC.seq <| WC.region <| sv (vmB rfl) <| sv (vnot rfl) <| WL.nil <| WX.thenN <| ?_
    refine WC.ff rfl ?_
    refine WC.skip <| WX.thenN <| WC.seq <| WC.region <| sv (vmS rfl) <| sv (vlen Tryz.underlying23 rfl) <| mk Tryz.underlying23 zt5 rfl rfl (by omega) (by omega) (by omega) (by omega) fun b6 => ?_
    rw [madeB, show ((m : Int)).toNat * 1 = m by omega]
    refine sv (vaS rfl) <| WL.nil <| WX.thenN <| WC.seq <| WC.region <| sv (vmS rfl) <| sv (vmS rfl) <| cp sz5 Tryz.underlying23 rfl rfl (rdb u1 8 (8 + m) m (by omega)).cons.cons.cons.cons (by rw [u8s_length, hml]; omega) (u8s_one _) (by rw [u8s_length, hml]; simp) <| WL.nil <| WX.thenN <| WC.region <| sv (vmS rfl) <| sv (vmS rfl) <| pm (fun _ h => (open_row hml (by simp only [maxLen]; omega) h).pk1) <| ap1 (v := .slice _ _ _) Tryz.underlying22 zt23 rfl (fun _ => rfl) (fun _ => rfl) rfl rfl rfl (by rw [bss_length]) (by simp only [maxLen]; omega) (by omega) fun _ base8 c8 hc8 =>sv (vmS rfl) <| sv (vaS rfl) <| sv (vaS rfl) <| WL.nil <| WX.blockN <| WX.again (⟨done ++ [⟨some ⟨b6, 0, none⟩, (rest.drop 8).take m, m⟩], slB rb (8 + m) rc 1, rc - (8 + m), rest.drop (8 + m), base8, c8⟩) (⟨rdbL u1 (8 + m) rc u2, by dsimp only; omega, by dsimp only; rw [List.map_append, ← u3, hrs]; simp, by rw [← u4, hrs], by simp only [List.length_append, List.length_cons, List.length_nil]; omega, fun x hx => by rcases List.mem_append.1 hx with hx | hx; exact u6 x hx; simp only [List.mem_singleton] at hx; subst hx; dsimp only; omega, by rw [List.length_append]; exact hc8⟩) (by dsimp only; omega) ⟨by show Value.slice _ _ _ = Value.slice _ _ _; rfl, by show Value.slice _ _ _ = Value.slice _ _ _; rw [List.length_append]; rfl, trivial⟩ ⟨rfl, rfl, rfl, trivial⟩ (fun w h => ?_)
    rw [bss_snoc]
    dsimp only
    rw [hml]
    exact (rows_snoc (y := ⟨some ⟨b6, 0, none⟩, (rest.drop 8).take m, m⟩) (h.ix [1, 2, 0, 3, 4])).ix [1, 0, 2, 3]
theorem journal_open_bad {w0 : World} {A : List HProp} {d : Nat} {nm : ByteArray} {st st' : DSt} {er : Int} (hd : 0 ≤ st.deeds ∧ st.deeds + 1 ≤ 9223372036854775807) (hup : st.off = false) (hnm : okName nm) (hne : er ≠ 0) (ho : openS nm st = (st', er)) :
    Fun Tryz.prog w0 36 [.pointer (some ⟨d, 0, none⟩), .string nm] (pdisk d st :: A)
      (Ret w0 (fun _ : Unit => True) (fun _ => .tuple #[.pointer none, .slice none 0 0, .int .i64 er]) (fun _ => pdisk d st' :: A)) := by
  refine Fun.known (fun w h => pdisk_len (nm := nm) h) fun hlen => ?_
  have h1 := hup
  have hno : ¬ st.off = true := by rw [h1]; decide
  have h2 : decide (okName nm) = true := by simpa using hnm
  unfold openS at ho
  rw [if_neg hno, if_neg (by simpa using h2)] at ho
  obtain ⟨b, hb⟩ : ∃ b, b = (readS nm st).1 := ⟨_, rfl⟩
  obtain ⟨e, he⟩ : ∃ e, e = (readS nm st).2 := ⟨_, rfl⟩
  have hrd : readS nm st = (b, e) := by rw [hb, he]
  rw [← hb] at ho hlen
  refine Fun.enter Tryz.func36 rfl Tryz.ntmps36 rfl ?_
  refine WC.seq <| WC.region <| sv (vaP rfl) <| sv (vaS rfl) <| sv (vaI rfl) <| WL.nil <| WX.thenN <| WC.seq <| WC.seq <| WC.region <| sv (vmP rfl) <| sv (vpeqF Tryz.underlying24 rfl rfl) <| WL.nil <| WX.thenN <| ?_
  refine WC.ff rfl ?_
  refine WC.skip <| WX.thenN <| WC.seq <| WC.seq <| WC.region <| sv (vmP rfl) <| cl (disk_up_at h1) ct54 rfl fun _ _ => sv (vnot rfl) <| WL.nil <| WX.thenN <| ?_
  refine WC.ff rfl ?_
  refine WC.skip <| WX.thenN <| WC.seq <| WC.seq <| WC.region <| sv (vmT rfl) <| cl (h2 ▸ journal_may) ct55 rfl fun _ _ => sv (vnot rfl) <| WL.nil <| WX.thenN <| ?_
  refine WC.ff rfl ?_
  refine WC.skip <| WX.thenN <| WC.seq <| WC.region <| sv (vmP rfl) <| sv (vmT rfl) <| cl (disk_read_at hrd) ct56 rfl fun r4 hr4 => sv vmv <| sv (vex rfl rfl) <| sv (vex rfl rfl) <| sv (vaS rfl) <| sv (vaI rfl) <| WL.nil <| WX.thenN <| WC.seq <| WC.region <| sv (vmS rfl) <| sv (vaS rfl) <| WL.nil <| WX.thenN <| WC.seq <| WC.region <| sv (vaS rfl) <| WL.nil <| WX.thenN <| WC.seq <| WC.block <| ?_
  refine WC.loop (ι := OpI) (fun i => [(9, .slice i.rb i.rest.length i.rc), (10, .slice i.qb i.done.length i.qc)]) [(0, .pointer _), (1, .string _), (7, .slice _ _ _)] (fun i => row i.qb i.qc 1 23 (bss i.done) :: rows 5 i.done :: pdisk d st :: row r4.1 r4.2 1 5 (u8s b) :: A) (fun i => OpR w0 (row r4.1 r4.2 1 5 (u8s b) :: A) b i) (fun i => i.rest.length) (⟨[], r4.1, r4.2, b, none, 0⟩) (⟨reads, hr4, by simp, rfl, by simp, by simp, by simp⟩) ⟨rfl, rfl, trivial⟩ ⟨rfl, rfl, rfl, trivial⟩ (fun w h => Own.intro_row_nil (Own.intro_emp h.pk1)) ?_
  rintro ⟨done, rb, rc, rest, qb, qc⟩ ⟨u1, u2, u3, u4, u5, u6, u7⟩ ρh
  dsimp only at u1 u2 u3 u4 u5 u6 u7 ⊢
  rcases hn : nextB rest with _ | m
  · -- none
    have hrs := recsB_none hn
    rw [hrs] at u3 u4
    dsimp only at u3 u4
    rw [List.append_nil] at u3
    refine WC.block <| WC.seq <| WC.region <| sv (vmS rfl) <| cl (journal_next_none u1.cons.cons.cons rfl u2 (by omega) hn) ct57 rfl fun _ _ => sv vmv <| sv (vex rfl rfl) <| sv (vex rfl rfl) <| sv (vex rfl rfl) <| sv (vaS rfl) <| sv (vaS rfl) <| sv (vaB rfl) <| WL.nil <| WX.thenN <| WC.seq <| WC.seq <| WC.region <| sv (vmB rfl) <| sv (vnot rfl) <| WL.nil <| WX.thenN <| ?_
    refine WC.tt rfl ?_
    refine WC.exit <| WX.thenE <| WX.blockE rfl <| WX.thenE <| WX.blockH <| WX.thenN <| WC.seq <| WC.seq <| WC.region <| sv (vmS rfl) <| sv (vlen Tryz.underlying23 rfl) <| sv (vgt rfl rfl) <| WL.nil <| WX.thenN <| ?_
    refine WC.ite rfl (fun h5 => ?_) (fun h5 => ?_)
    · -- then
      rw [if_neg (by rw [← u4]; intro h; rw [h] at h5; simp at h5), ← u4] at ho
      refine WC.seq <| WC.region <| sv (vmP rfl) <| sv (vmT rfl) <| sv (vmS rfl) <| sv (vlen Tryz.underlying23 rfl) <| sv (vmS rfl) <| sv (vlen Tryz.underlying23 rfl) <| sv (vsub rfl rfl (by omega)) <| pm (fun _ h => h.pk2) <| cl (disk_cut_at (nm := nm) hd ho) ct58 rfl fun _ _ => sv (vaI rfl) <| WL.nil <| WX.thenN <| WC.seq <| WC.region <| sv (vmI rfl) <| sv (vne rfl rfl) <| WL.nil <| WX.thenN <| ?_
      refine WC.ite rfl (fun h6 => ?_) (fun h6 => ?_)
      · -- then
        exact WC.seq <| WC.region <| sv (vmI rfl) <| sv (vaP rfl) <| sv (vaS rfl) <| sv (vaI rfl) <| WL.nil <| WX.thenN <| WC.ret <| WX.thenR <| WX.ret3 rfl (()) (trivial) rfl (fun w h => h.pk1.tail.pk1.tail.pk1.tail)
      · -- else
        exact absurd hne h6
    · -- else
      exact absurd (by rw [if_pos (show (recsB b).2 = [] by rw [← u4]; exact List.eq_nil_of_length_eq_zero (by omega))] at ho; cases ho; rfl) hne
  · -- some
    have hle := nextB_le hn
    have hrs := recsB_some hn
    have hml : ((rest.drop 8).take m).length = m := by rw [List.length_take, List.length_drop]; omega
    have hdl : (rest.drop (8 + m)).length = rest.length - (8 + m) := List.length_drop
    refine WC.block <| WC.seq <| WC.region <| sv (vmS rfl) <| cl (journal_next_some u1.cons.cons.cons rfl u2 (by omega) hn) ct57 rfl fun _ _ => sv vmv <| sv (vex rfl rfl) <| sv (vex rfl rfl) <| sv (vex rfl rfl) <| sv (vaS rfl) <| sv (vaS rfl) <| sv (vaB rfl) <| WL.nil <| WX.thenN <| WC.seq <| WC.seq <| WC.region <| sv (vmB rfl) <| sv (vnot rfl) <| WL.nil <| WX.thenN <| ?_
    refine WC.ff rfl ?_
    refine WC.skip <| WX.thenN <| WC.seq <| WC.region <| sv (vmS rfl) <| sv (vlen Tryz.underlying23 rfl) <| mk Tryz.underlying23 zt5 rfl rfl (by omega) (by omega) (by omega) (by omega) fun b6 => ?_
    rw [madeB, show ((m : Int)).toNat * 1 = m by omega]
    refine sv (vaS rfl) <| WL.nil <| WX.thenN <| WC.seq <| WC.region <| sv (vmS rfl) <| sv (vmS rfl) <| cp sz5 Tryz.underlying23 rfl rfl (rdb u1 8 (8 + m) m (by omega)).cons.cons.cons.cons (by rw [u8s_length, hml]; omega) (u8s_one _) (by rw [u8s_length, hml]; simp) <| WL.nil <| WX.thenN <| WC.region <| sv (vmS rfl) <| sv (vmS rfl) <| pm (fun _ h => (open_row hml (by simp only [maxLen]; omega) h).pk1) <| ap1 (v := .slice _ _ _) Tryz.underlying22 zt23 rfl (fun _ => rfl) (fun _ => rfl) rfl rfl rfl (by rw [bss_length]) (by simp only [maxLen]; omega) (by omega) fun _ base8 c8 hc8 =>sv (vmS rfl) <| sv (vaS rfl) <| sv (vaS rfl) <| WL.nil <| WX.blockN <| WX.again (⟨done ++ [⟨some ⟨b6, 0, none⟩, (rest.drop 8).take m, m⟩], slB rb (8 + m) rc 1, rc - (8 + m), rest.drop (8 + m), base8, c8⟩) (⟨rdbL u1 (8 + m) rc u2, by dsimp only; omega, by dsimp only; rw [List.map_append, ← u3, hrs]; simp, by rw [← u4, hrs], by simp only [List.length_append, List.length_cons, List.length_nil]; omega, fun x hx => by rcases List.mem_append.1 hx with hx | hx; exact u6 x hx; simp only [List.mem_singleton] at hx; subst hx; dsimp only; omega, by rw [List.length_append]; exact hc8⟩) (by dsimp only; omega) ⟨by show Value.slice _ _ _ = Value.slice _ _ _; rfl, by show Value.slice _ _ _ = Value.slice _ _ _; rw [List.length_append]; rfl, trivial⟩ ⟨rfl, rfl, rfl, trivial⟩ (fun w h => ?_)
    rw [bss_snoc]
    dsimp only
    rw [hml]
    exact (rows_snoc (y := ⟨some ⟨b6, 0, none⟩, (rest.drop 8).take m, m⟩) (h.ix [1, 2, 0, 3, 4])).ix [1, 0, 2, 3]
end Go.Proofs.YthljpljbpbkkcaaGreatDoor
end
section
set_option linter.unusedVariables false
set_option linter.unusedSimpArgs false
namespace Go.Journal
open Go.Sl Go.Pack

theorem le4_length (n : Nat) : (le4 n).length = 4 := rfl
theorem sum_lt' (bs : List UInt8) : sum bs < 4294967296 := (~~~ (crc (BitVec.allOnes 32) bs)).isLt
theorem frame_length (r : List UInt8) : (frameB r).length = r.length + 8 := by simp [frameB, le4]
theorem le4_num4 {b : List UInt8} (h : 4 ≤ b.length) : le4 (num4 b) = b.take 4 := by
  match b, h with
  | a :: c :: d :: e :: r, _ =>
    have ha := a.toNat_lt
    have hc := c.toNat_lt
    have hd := d.toNat_lt
    have he := e.toNat_lt
    have e0 : num4 (a :: c :: d :: e :: r) = a.toNat + 256 * c.toNat + 65536 * d.toNat + 16777216 * e.toNat := rfl
    rw [e0]
    unfold le4
    have key : ∀ (x : UInt8) (m : Nat), m % 256 = x.toNat → UInt8.ofNat m = x := by
      intro x m hm
      apply UInt8.toNat_inj.1
      rw [UInt8.toNat_ofNat']
      exact hm
    rw [key a _ (by omega), key c _ (by omega), key d _ (by omega), key e _ (by omega)]
    rfl
theorem nextB_frame {r : List UInt8} (h : r.length ≤ 1048576) (t : List UInt8) : nextB (frameB r ++ t) = some r.length := by
  have hs := sum_lt' (le4 r.length ++ r)
  have e1 : frameB r ++ t = le4 r.length ++ (le4 (sum (le4 r.length ++ r)) ++ (r ++ t)) := by simp [frameB]
  have hn : num4 (frameB r ++ t) = r.length := by rw [e1]; exact num4_le4 (by omega) _
  have hd : (frameB r ++ t).drop 4 = le4 (sum (le4 r.length ++ r)) ++ (r ++ t) := by rw [e1]; exact List.drop_left' (le4_length _)
  have hn2 : num4 ((frameB r ++ t).drop 4) = sum (le4 r.length ++ r) := by rw [hd]; exact num4_le4 hs _
  have ht : (frameB r ++ t).take 4 = le4 r.length := by rw [e1]; exact List.take_left' (le4_length _)
  have hd8 : (frameB r ++ t).drop 8 = r ++ t := by
    have : (frameB r ++ t).drop 8 = ((frameB r ++ t).drop 4).drop 4 := by rw [List.drop_drop]
    rw [this, hd]; exact List.drop_left' (le4_length _)
  unfold nextB
  rw [hn, hn2, ht, hd8, List.take_left' rfl, if_neg (by rw [List.length_append, frame_length]; omega), if_neg (by rw [List.length_append, frame_length]; omega), if_neg (by simp)]
def flat (rs : List (List UInt8)) : List UInt8 := rs.flatMap frameB
theorem flat_append (a b : List (List UInt8)) : flat (a ++ b) = flat a ++ flat b := by simp [flat]
theorem flat_one (r : List UInt8) : flat [r] = frameB r := by simp [flat]
theorem recsB_frame {r : List UInt8} (h : r.length ≤ 1048576) (t : List UInt8) : recsB (frameB r ++ t) = (r :: (recsB t).1, (recsB t).2) := by
  have hn := nextB_frame h t
  have e1 : frameB r ++ t = (le4 r.length ++ le4 (sum (le4 r.length ++ r))) ++ (r ++ t) := by simp [frameB]
  have hd8 : (frameB r ++ t).drop 8 = r ++ t := by rw [e1]; exact List.drop_left' rfl
  have hd : (frameB r ++ t).drop (8 + r.length) = t := by
    rw [← List.drop_drop, hd8]; exact List.drop_left' rfl
  rw [recsB_some hn, hd, hd8, List.take_left' rfl]
theorem recsB_flat : ∀ (rs : List (List UInt8)) (t : List UInt8), (∀ r ∈ rs, r.length ≤ 1048576) → recsB (flat rs ++ t) = (rs ++ (recsB t).1, (recsB t).2)
  | [], t, _ => by simp [flat]
  | r :: rs, t, h => by
    have e : flat (r :: rs) ++ t = frameB r ++ (flat rs ++ t) := by simp [flat]
    rw [e, recsB_frame (h r (by simp)), recsB_flat rs t fun x hx => h x (by simp [hx])]
    rfl
theorem recsB_nil : recsB [] = ([], []) := recsB_none (by simp [nextB])
theorem nextB_take {b : List UInt8} {n : Nat} (h : nextB b = some n) : b.take (8 + n) = frameB ((b.drop 8).take n) := by
  have hle := nextB_le h
  unfold nextB at h
  rw [if_neg (by omega)] at h
  split at h
  · cases h
  · split at h
    · cases h
    · rename_i h1 h2
      have hn : num4 b = n := by simpa using h
      have h2' : sum (b.take 4 ++ (b.drop 8).take (num4 b)) = num4 (b.drop 4) := by simpa using h2
      have hl : ((b.drop 8).take n).length = n := by rw [List.length_take, List.length_drop]; omega
      unfold frameB
      rw [hl, ← hn, le4_num4 (by omega), h2', le4_num4 (by rw [List.length_drop]; omega)]
      have e8 : b.take 4 ++ (b.drop 4).take 4 = b.take 8 := by
        rw [← List.take_add]
      rw [e8, List.take_add]
theorem flat_recsB : ∀ (k : Nat) (b : List UInt8), b.length ≤ k → flat (recsB b).1 ++ (recsB b).2 = b ∧ ∀ r ∈ (recsB b).1, r.length ≤ 1048576
  | 0, b, h => by
    have : b = [] := List.eq_nil_of_length_eq_zero (by omega)
    subst this; rw [recsB_nil]; simp [flat]
  | k + 1, b, h => by
    cases hn : nextB b with
    | none => rw [recsB_none hn]; simp [flat]
    | some n =>
      have hle := nextB_le hn
      have ih := flat_recsB k (b.drop (8 + n)) (by rw [List.length_drop]; omega)
      rw [recsB_some hn]
      constructor
      · have e : flat ((b.drop 8).take n :: (recsB (b.drop (8 + n))).1) = frameB ((b.drop 8).take n) ++ flat (recsB (b.drop (8 + n))).1 := by simp [flat]
        dsimp only
        rw [e, ← nextB_take hn, List.append_assoc, ih.1, List.take_append_drop]
      · intro r hr
        rcases List.mem_cons.1 hr with rfl | hr
        · rw [List.length_take]; omega
        · exact ih.2 r hr
theorem recsB_whole (b : List UInt8) : flat (recsB b).1 ++ (recsB b).2 = b := (flat_recsB _ b (Nat.le_refl _)).1
theorem recsB_short (b : List UInt8) : ∀ r ∈ (recsB b).1, r.length ≤ 1048576 := (flat_recsB _ b (Nat.le_refl _)).2
theorem recsB_again (b : List UInt8) : recsB (flat (recsB b).1) = ((recsB b).1, []) := by
  have := recsB_flat (recsB b).1 [] (recsB_short b)
  rw [List.append_nil, recsB_nil] at this
  simpa using this
theorem flat_length (rs : List (List UInt8)) : rs.length ≤ (flat rs).length := by
  induction rs with
  | nil => simp
  | cons r rs ih =>
    have e : flat (r :: rs) = frameB r ++ flat rs := by simp [flat]
    rw [e, List.length_append, frame_length, List.length_cons]; omega
end Go.Journal
end
section
set_option linter.unusedVariables false
set_option linter.unusedSimpArgs false
set_option maxRecDepth 4000
namespace Go.Proofs.YthljpljbpbkkcaaGreatDoor
open Go.Sl Go.RowKit Go.Pack Go.Journal

/-- a disk that is on and was not armed; one file's bytes (none: none) -/
structure Fl (st : DSt) (nm : ByteArray) (all : List UInt8) (n : Int) : Prop where
  off : st.off = false
  fuse : st.fuse = 0
  deeds : st.deeds = n
  file : ((st.files nm).getD ([], 0)).1 = all
section
variable {st : DSt} {nm : ByteArray} {all b : List UInt8} {n : Int}
theorem Fl.new : Fl newD nm [] 0 := ⟨rfl, rfl, rfl, rfl⟩
theorem Fl.append (h : Fl st nm all n) (hn : okName nm) (hb : all.length + b.length ≤ 16777216) : ∃ st', appendS nm b st = (st', 0) ∧ Fl st' nm (all ++ b) (n + 1) ∧ (st'.files nm).isSome = true := by
  obtain ⟨st', e, o⟩ := One.append0 (st := st) (nm := nm) (all := all) (safe := ((st.files nm).getD ([], 0)).2) (b := b) h.off h.fuse h.deeds (by rw [← h.file]) hn hb
  exact ⟨st', e, ⟨o.off, o.fuse, o.deeds, by rw [o.file]; rfl⟩, by rw [o.file]; rfl⟩
theorem Fl.one (h : Fl st nm all n) (hs : (st.files nm).isSome = true) : ∃ safe, One st nm all safe n := by
  obtain ⟨v, hv⟩ := Option.isSome_iff_exists.1 hs
  have := h.file
  rw [hv] at this
  exact ⟨v.2, h.off, h.fuse, h.deeds, by rw [hv, ← this]; rfl⟩
theorem One.fl {safe : Nat} (h : One st nm all safe n) : Fl st nm all n := ⟨h.off, h.fuse, h.deeds, by rw [h.file]; rfl⟩
theorem Fl.add (h : Fl st nm all n) (hn : okName nm) (hb : all.length + (b.length + 8) ≤ 16777216) : ∃ st', addP nm b st = (st', 0) ∧ Fl st' nm (all ++ frameB b) (n + 1 + 1) ∧ (st'.files nm).isSome = true := by
  obtain ⟨s1, e1, f1, i1⟩ := h.append (b := frameB b) hn (by rw [frameB_len]; exact hb)
  obtain ⟨sf, o1⟩ := f1.one i1
  obtain ⟨s2, e2, o2⟩ := o1.sync
  refine ⟨s2, ?_, o2.fl, by rw [o2.file]; rfl⟩
  unfold addP
  rw [e1, if_pos rfl, e2]
theorem One.cut {safe : Nat} (h : One st nm all safe n) {k : Int} (hk : 0 ≤ k ∧ k ≤ all.length) : ∃ st', cutS nm k st = (st', 0) ∧ One st' nm (all.take k.toNat) (min safe k.toNat) (n + 1) := by
  have hk2 : cutS nm k st = deedS (putV nm (all.take k.toNat, min safe k.toNat)) id st := by unfold cutS; rw [if_neg (by rw [h.off]; decide), h.file]; dsimp only; rw [if_neg (by omega)]
  unfold deedS at hk2
  rw [if_neg (by rw [h.fuse]; decide)] at hk2
  exact ⟨_, hk2, h.off, by dsimp only; rw [h.fuse]; rfl, by dsimp only; rw [h.deeds], by simp [putV]⟩
theorem Fl.read (h : Fl st nm all n) : (readS nm st).1 = all := by
  unfold readS
  rw [if_neg (by rw [h.off]; decide), ← h.file]
  cases st.files nm <;> rfl
theorem Fl.open (h : Fl st nm all n) (hn : okName nm) : ∃ st' n', openS nm st = (st', 0) ∧ Fl st' nm (flat (recsB all).1) n' ∧ n ≤ n' ∧ n' ≤ n + 1 ∧ ((st.files nm).isSome = true → (st'.files nm).isSome = true) := by
  have hw := recsB_whole all
  have hlen := congrArg List.length hw
  rw [List.length_append] at hlen
  unfold openS
  rw [if_neg (by rw [h.off]; decide), if_neg (by simpa using hn), h.read]
  by_cases hr : (recsB all).2 = []
  · rw [if_pos hr]
    rw [hr, List.append_nil] at hw
    exact ⟨st, n, rfl, by rw [hw]; exact h, by omega, by omega, id⟩
  · rw [if_neg hr]
    have hne : all ≠ [] := by rintro rfl; exact hr (by rw [recsB_nil])
    have hs : (st.files nm).isSome = true := by
      cases hf : st.files nm with
      | none => have := h.file; rw [hf] at this; exact absurd this.symm hne
      | some v => rfl
    obtain ⟨safe, o⟩ := h.one hs
    obtain ⟨st', e, o'⟩ := o.cut (k := (all.length : Int) - ((recsB all).2.length : Int)) (by omega)
    have hk : ((all.length : Int) - ((recsB all).2.length : Int)).toNat = (flat (recsB all).1).length := by omega
    rw [hk] at o'
    have ht : all.take (flat (recsB all).1).length = flat (recsB all).1 := by
      conv => lhs; rw [← hw]
      exact List.take_left' (by rw [hw])
    rw [ht] at o'
    exact ⟨st', n + 1, e, o'.fl, by omega, by omega, fun _ => by rw [o'.file]; rfl⟩
end
end Go.Proofs.YthljpljbpbkkcaaGreatDoor
end
section
set_option linter.unusedVariables false
set_option linter.unusedSimpArgs false
set_option maxRecDepth 4000
namespace Go.Proofs.YthljpljbpbkkcaaGreatDoor
open Go.Sl Go.RowKit Go.Pack Go.Vault Go.Journal

theorem vnm_ok : okName vnm := by decide +kernel
theorem vnm_len : vnm.size ≤ 140737488351232 := by decide +kernel
structure Vc (s : JV) (m : Nat) : Prop where
  sick : s.sick = false
  n : 0 ≤ s.n ∧ s.n ≤ m
  fl : ∃ (all : List UInt8) (q : Int), Fl s.st vnm all q ∧ all.length ≤ m * 9000 ∧ 0 ≤ q ∧ q ≤ 2 * m
theorem Vc.new {m : Nat} : Vc ⟨newD, 0, false⟩ m :=
  ⟨rfl, ⟨Int.le_refl _, Int.natCast_nonneg m⟩, [], 0, Fl.new, Nat.zero_le _, Int.le_refl _, by omega⟩
theorem Vc.mono {s : JV} {m k : Nat} (h : Vc s m) (hk : m ≤ k) : Vc s k := by
  obtain ⟨h1, h2, all, q, h3, h4, h5, h6⟩ := h
  have h7 : all.length ≤ k * 9000 := Nat.le_trans h4 (Nat.mul_le_mul_right 9000 hk)
  exact ⟨h1, ⟨h2.1, by omega⟩, all, q, h3, h7, h5, by omega⟩
def actP (w : Int × Bool) (d' d : VD) : VD × Int := if w.1 ≠ 0 then (d, w.1) else if w.2 = false then (d, 0) else (d', 0)
def putP (k : PK) (b : List UInt8) (d : VD) : VD × Int := actP (whyPut d k) (putD d k b) d
def dropP (f : ByteArray) (n : Int) (d : VD) : VD × Int := actP (whyDrop d f n) (dropD d f n) d
theorem Vc.act {s : JV} {m : Nat} {w : Int × Bool} {d' d : VD} {rec : List UInt8} (h : Vc s m) (hr : rec.length ≤ 8900) (hm : m ≤ 1700) : ∃ s', actS w rec d' d s = (((actP w d' d).1, s'), (actP w d' d).2) ∧ Vc s' (m + 1) := by
  unfold actS actP
  by_cases h0 : w.1 ≠ 0
  · rw [if_pos h0, if_pos h0]; exact ⟨s, rfl, h.mono (by omega)⟩
  · rw [if_neg h0, if_neg h0, if_neg (by rw [h.sick]; decide)]
    by_cases h1 : w.2 = false
    · rw [if_pos h1, if_pos h1]; exact ⟨s, rfl, h.mono (by omega)⟩
    · rw [if_neg h1, if_neg h1]
      obtain ⟨hs, hn, all, q, hf, hl, hq1, hq2⟩ := h
      obtain ⟨st', e, f, _⟩ := hf.add (b := rec) vnm_ok (by omega)
      rw [e]
      refine ⟨_, rfl, rfl, ?_, all ++ frameB rec, q + 1 + 1, f, ?_, by omega, by omega⟩
      · show 0 ≤ (if (0 : Int) = 0 then s.n + 1 else s.n) ∧ _
        rw [if_pos rfl]; dsimp only; omega
      · rw [List.length_append, frameB_len]; omega
structure CI where
  j : Nat
  s : JV
def vcm (v dk : Nat) (d : VD) (m : Nat) : HProp := fun h => ∃ i : CI, Vc i.s m ∧ star (pv v i.j false d) (star (cel i.j (jcells dk vnm i.s.n false) 112) (pdisk dk i.s.st)) h
theorem vcm_open {w0 w : World} {A : List HProp} {v dk m : Nat} {d : VD} (H : Own w0 (vcm v dk d m :: A) w) : ∃ i : CI, Vc i.s m ∧ Own w0 (vall v i.j dk d ⟨i.s.st, i.s.n, false⟩ A) w := by
  obtain ⟨hb, h, ⟨h1, h2, ⟨i, hi, a⟩, a2, dd, y⟩, hw⟩ := H
  have h3 : Own w0 (star (pv v i.j false d) (star (cel i.j (jcells dk vnm i.s.n false) 112) (pdisk dk i.s.st)) :: A) w := ⟨hb, h, ⟨h1, h2, a, a2, dd, y⟩, hw⟩
  exact ⟨i, hi, (h3.star.pk1.star).ix [2, 0, 1]⟩
theorem vcm_mk {w0 w : World} {A : List HProp} {v dk m j : Nat} {d : VD} {s : JV} (hs : Vc s m) (H : Own w0 (vall v j dk d s A) w) : Own w0 (vcm v dk d m :: A) w := by
  obtain ⟨st, n, sick⟩ := s
  obtain rfl : sick = false := hs.sick
  have h1 := (H.ix [1, 2, 0]).intro_star
  exact ((h1.ix [1, 0]).intro_star).head fun _ h => ⟨⟨j, ⟨st, n, false⟩⟩, hs, h⟩
theorem Vc.deeds {s : JV} {m : Nat} (h : Vc s m) (hm : m ≤ 1700) : (0 ≤ s.st.deeds ∧ s.st.deeds + 2 ≤ 9223372036854775807) ∧ (0 ≤ s.n ∧ s.n + 1 ≤ 9223372036854775807) := by
  obtain ⟨hs, hn, all, q, hf, hl, hq1, hq2⟩ := h
  have := hf.deeds
  omega
theorem v_put_c {w0 : World} {A : List HProp} {v dk c m : Nat} {d : VD} {k : PK} {base : Option Addr} {bs : List UInt8} [hR : Reads w0 A base (u8s bs)] (hk : PkOk k) (hf : k.flow.size ≤ 4096) (hb : bs.length ≤ 4096) (hm : m ≤ 1700) :
    Fun Tryz.prog w0 40 [.pointer (some ⟨v, 0, none⟩), .string k.flow, .int .i64 k.num, .agg #[.int .i64 k.kind, .int .i64 k.n], .slice base bs.length c] (vcm v dk d m :: A) (Ret w0 (fun _ : Unit => True) (fun _ => .int .i64 (putP k bs d).2) (fun _ => vcm v dk (putP k bs d).1 (m + 1) :: A)) := by
  refine Fun.ex (fun w h => vcm_open h) ?_
  rintro ⟨j, s⟩ hi
  obtain ⟨g1, g2⟩ := hi.deeds hm
  have hi' : Vc ⟨s.st, s.n, false⟩ m := by have := hi; obtain ⟨st, n, sick⟩ := s; obtain rfl : sick = false := hi.sick; exact this
  have l2 := num_len (x := k.num) hk.num
  have l3 := num_len (x := k.kind) hk.kind
  have l4 := num_len (x := k.n) hk.n
  have l1 := num_len (x := 1) (by omega)
  have hfl : k.flow.data.toList.length = k.flow.size := rfl
  have l5 := text_len k.flow.data.toList (by omega)
  have l6 := text_len bs (by omega)
  obtain ⟨s', e, hv⟩ := hi'.act (w := whyPut d k) (d' := putD d k bs) (d := d) (rec := recPut k bs) (by unfold recPut; simp only [List.length_append]; omega) hm
  have := v_put (w0 := w0) (A := A) (v := v) (j := j) (dk := dk) (c := c) (d := d) (s := ⟨s.st, s.n, false⟩) (base := base) hk hf hb g1 g2
  unfold putS at this
  rw [e] at this
  exact this.mono fun e w ⟨i, hi, he, hO⟩ => ⟨(), trivial, he, vcm_mk hv hO⟩
theorem v_drop_c {w0 : World} {A : List HProp} {v dk m : Nat} {d : VD} {f : ByteArray} {n : Int} (hf : f.size ≤ 4096) (hn0 : -9223372036854775808 ≤ n ∧ n ≤ 9223372036854775807) (hm : m ≤ 1700) :
    Fun Tryz.prog w0 42 [.pointer (some ⟨v, 0, none⟩), .string f, .int .i64 n] (vcm v dk d m :: A) (Ret w0 (fun _ : Unit => True) (fun _ => .int .i64 (dropP f n d).2) (fun _ => vcm v dk (dropP f n d).1 (m + 1) :: A)) := by
  refine Fun.ex (fun w h => vcm_open h) ?_
  rintro ⟨j, s⟩ hi
  obtain ⟨g1, g2⟩ := hi.deeds hm
  have hi' : Vc ⟨s.st, s.n, false⟩ m := by have := hi; obtain ⟨st, n, sick⟩ := s; obtain rfl : sick = false := hi.sick; exact this
  have l1 := num_len (x := 2) (by omega)
  have l2 := num_len (x := n) hn0
  have hfl : f.data.toList.length = f.size := rfl
  have l5 := text_len f.data.toList (by omega)
  obtain ⟨s', e, hv⟩ := hi'.act (w := whyDrop d f n) (d' := dropD d f n) (d := d) (rec := recDrop f n) (by unfold recDrop; simp only [List.length_append]; omega) hm
  have := v_dropc (w0 := w0) (A := A) (v := v) (j := j) (dk := dk) (d := d) (s := ⟨s.st, s.n, false⟩) hf hn0 g1 g2
  unfold dropS at this
  rw [e] at this
  exact this.mono fun e w ⟨i, hi, he, hO⟩ => ⟨(), trivial, he, vcm_mk hv hO⟩
theorem v_getn_c {w0 : World} {A : List HProp} {v dk m : Nat} {d : VD} {k : PK} (hk : PkOk k) (h0 : d.parts k = none) : Fun Tryz.prog w0 41 [.pointer (some ⟨v, 0, none⟩), .string k.flow, .int .i64 k.num, .agg #[.int .i64 k.kind, .int .i64 k.n]] (vcm v dk d m :: A) (Ret w0 (fun _ : Unit => True) (fun _ => .tuple #[.slice none 0 0, .int .i64 6]) (fun _ => vcm v dk d m :: A)) := by
  refine Fun.ex (fun w h => vcm_open h) ?_
  rintro ⟨j, s⟩ hi
  have hi' : Vc ⟨s.st, s.n, false⟩ m := by have := hi; obtain ⟨st, n, sick⟩ := s; obtain rfl : sick = false := hi.sick; exact this
  exact (v_get_none hk h0).mono fun e w ⟨i, _, he, hO⟩ => ⟨(), trivial, he, vcm_mk hi' hO⟩
theorem v_gets_c {w0 : World} {A : List HProp} {v dk m : Nat} {d : VD} {k : PK} {b : List UInt8} (hk : PkOk k) (h0 : d.parts k = some b) : Fun Tryz.prog w0 41 [.pointer (some ⟨v, 0, none⟩), .string k.flow, .int .i64 k.num, .agg #[.int .i64 k.kind, .int .i64 k.n]] (vcm v dk d m :: A) (Ret w0 (fun i : Option Addr × Nat => b.length ≤ i.2) (fun i => .tuple #[.slice i.1 b.length i.2, .int .i64 0]) (fun i => row i.1 i.2 1 5 (u8s b) :: vcm v dk d m :: A)) := by
  refine Fun.ex (fun w h => vcm_open h) ?_
  rintro ⟨j, s⟩ hi
  have hi' : Vc ⟨s.st, s.n, false⟩ m := by have := hi; obtain ⟨st, n, sick⟩ := s; obtain rfl : sick = false := hi.sick; exact this
  exact (v_get_some hk h0).mono fun e w ⟨i, h1, he, hO⟩ => ⟨i, h1, he, (vcm_mk hi' (hO.ix [1, 2, 3, 0])).pk1⟩
theorem VRep.new {mp mf : Nat} : VRep VD.new ⟨mp, mf, [], []⟩ := ⟨by simp, fun _ => rfl, fun x hx => (by cases hx), by simp, fun _ => rfl⟩
theorem v_open_c {w0 : World} {A : List HProp} {dk : Nat} : Fun Tryz.prog w0 10 [.pointer (some ⟨dk, 0, none⟩)] (pdisk dk newD :: A) (Ret w0 (fun _ : Nat => True) (fun v => .tuple #[.pointer (some ⟨v, 0, none⟩), .int .i64 0]) (fun v => vcm v dk VD.new 0 :: A)) := by
  have hrd : readS vnm newD = ([], 21) := rfl
  have hop : openS vnm newD = (newD, 0) := by
    unfold openS
    rw [if_neg (by decide), if_neg (fun h => h vnm_ok), hrd, recsB_nil, if_pos rfl]
  refine Fun.enter Tryz.func10 rfl Tryz.ntmps10 rfl ?_
  refine WC.seq <| WC.region <| sv (vaP rfl) <| sv (vaI rfl) <| WL.nil <| WX.thenN <| WC.seq <| WC.region <| sv (vmP rfl) <| clx (by repeat' (first | with_reducible exact Sb.all | exact Sb.nil | (apply Sb.cons; focus (first | ((repeat (first | with_reducible exact Tk.here | with_reducible apply Tk.there)); done) | ((repeat (first | exact Tk.here | apply Tk.there)); done))) | apply Sb.drop)) (journal_open_ok (nm := vnm) (st := newD) (by decide) hop) ct36 rfl fun r1 hr1 => ?_
  obtain ⟨j, rb, rc, l⟩ := r1
  obtain ⟨g1, g2⟩ := hr1
  rw [hrd, recsB_nil] at g1
  obtain rfl : l = [] := by cases l with | nil => rfl | cons a b => simp at g1
  dsimp only
  refine sv vmv <| sv (vex rfl rfl) <| sv (vex rfl rfl) <| sv (vex rfl rfl) <| sv (vaP rfl) <| sv (vaS rfl) <| sv (vaI rfl) <| WL.nil <| WX.thenN <| WC.seq <| WC.seq <| WC.region <| sv (vmI rfl) <| sv (vne rfl rfl) <| WL.nil <| WX.thenN <| ?_
  refine WC.ite rfl (fun h1 => ?_) (fun h1 => ?_)
  · -- then
    exact absurd rfl h1
  · -- else
    refine WC.skip <| WX.thenN <| WC.seq <| WC.region <| mkmK KP fun b2 =>mkm .string fun b3 => sv (vmP rfl) <| sv (vbd (ps := [(0, .map _), (1, .map _), (2, .pointer _)]) (cs := [_, _, _, _]) bt86 zt86 rfl (by rfl)) <| bxc (v := .agg _) (cs := [.map _, .map _, .pointer _, .bool _]) rfl rfl fun b5 => sv (vaP rfl) <| WL.nil <| WX.thenN <| WC.seq <| WC.seq <| WC.region <| sv (vmS rfl) <| sv (vlen Tryz.underlying22 rfl) <| sv (vmI rfl) <| WL.nil <| WX.thenN <| WC.block <| ?_
    refine WC.loopS (ι := Unit) (fun qq => [(26, .int .i64 0)]) [(7, .pointer _), (24, .slice _ _ _), (25, .int _ _)] (fun qq => True) (fun qq => 0) (()) (trivial) ⟨rfl, trivial⟩ ⟨rfl, rfl, rfl, trivial⟩ ?_
    intro _ _ ρh
    refine WC.seq <| WC.region <| sv (vlt rfl rfl) <| WL.nil <| WX.thenN <| WC.seq <| ?_
    refine WC.ite rfl (fun h2 => ?_) (fun h2 => ?_)
    · -- then
      exact absurd h2 (by simp)
    · -- else
      exact WC.exit <| WX.thenE <| WX.thenE <| WX.blockH <| WX.thenN <| WC.seq <| WC.region <| sv (vmP rfl) <| sv (vaP rfl) <| sv (vaI rfl) <| WL.nil <| WX.thenN <| WC.ret <| WX.ret2 rfl (b5) (trivial) rfl (fun w h => by have h1 := (Own.sp5 (X1 := cel b5 (vcl ⟨b2, b3, [], []⟩ j false) 86) (X2 := mpk KP b2 []) (X3 := mp .string b3 []) (X4 := rows 5 []) (X5 := cel j (jcells dk vnm 0 false) 112) (by repeat' (first | exact Spl.nil | (apply Spl.cons; focus (first | ((repeat (first | with_reducible exact Tk.here | with_reducible apply Tk.there)); done) | ((repeat (first | exact Tk.here | apply Tk.there)); done))))) h); have h2 := pv_mk (v := b5) (j := j) (down := false) (d := VD.new) (i := ⟨b2, b3, [], []⟩) VRep.new h1; have h3 := vcm_mk (v := b5) (dk := dk) (j := j) (m := 0) (d := VD.new) (s := ⟨newD, 0, false⟩) Vc.new (Own.sp3 (by repeat' (first | exact Spl.nil | (apply Spl.cons; focus (first | ((repeat (first | with_reducible exact Tk.here | with_reducible apply Tk.there)); done) | ((repeat (first | exact Tk.here | apply Tk.there)); done))))) h2); exact Sb.own (by repeat' (first | with_reducible exact Sb.all | exact Sb.nil | (apply Sb.cons; focus (first | ((repeat (first | with_reducible exact Tk.here | with_reducible apply Tk.there)); done) | ((repeat (first | exact Tk.here | apply Tk.there)); done))) | apply Sb.drop)) h3)
end Go.Proofs.YthljpljbpbkkcaaGreatDoor
end
section
set_option linter.unusedVariables false
set_option linter.unusedSimpArgs false
set_option maxRecDepth 4000
namespace Go.Proofs.YthljpljbpbkkcaaGreatDoor
open Go.Sl Go.Pack Go.RowKit

/-- A reader of layer 1: the bytes that are left, and whether there was a fault. -/
def preader (r : Nat) (bs : List UInt8) (bad : Bool) : HProp := fun h => ∃ base c, bs.length ≤ c ∧ star (cel r [.slice base bs.length c, .bool bad] 138) (own base 5 (u8s bs)) h
theorem preader_open {w0 w : World} {r : Nat} {bs : List UInt8} {bad : Bool} {A : List HProp} (H : Own w0 (preader r bs bad :: A) w) :
    ∃ x : Option Addr × Nat, bs.length ≤ x.2 ∧ Own w0 (cel r [.slice x.1 bs.length x.2, .bool bad] 138 :: own x.1 5 (u8s bs) :: A) w := by
  obtain ⟨hb, h, ⟨h1, h2, ⟨base, c, hc, a⟩, a2, d, x⟩, hw⟩ := H
  exact ⟨(base, c), hc, Own.star ⟨hb, h, ⟨h1, h2, a, a2, d, x⟩, hw⟩⟩
theorem preader_mk {w0 w : World} {r : Nat} {bs : List UInt8} {bad : Bool} {A : List HProp} {base : Option Addr} {c : Nat} (hc : bs.length ≤ c) (H : Own w0 (cel r [.slice base bs.length c, .bool bad] 138 :: own base 5 (u8s bs) :: A) w) :
    Own w0 (preader r bs bad :: A) w := H.intro_star.head fun _ h => ⟨base, c, hc, h⟩

theorem pack_new {w0 : World} {A : List HProp} {base : Option Addr} {c : Nat} {bs : List UInt8} [hR : Reads w0 A base (u8s bs)] (hb : bs.length ≤ 140737488355328) :
    Fun Tryz.prog w0 59 [.slice base bs.length c] A (Ret w0 (fun _ : Nat => True) (fun r => .pointer (some ⟨r, 0, none⟩)) (fun r => preader r bs false :: A)) := by
  refine Fun.enter Tryz.func59 rfl Tryz.ntmps59 rfl ?_
  refine WC.seq <| WC.region <| sv (vaP rfl) <| WL.nil <| WX.thenN <| WC.seq <| WC.region <| sv (vmS rfl) <| sv (vlen Tryz.underlying23 rfl) <| mk Tryz.underlying23 zt5 rfl rfl (by omega) (by omega) (by omega) (by omega) fun b1 => ?_
  rw [madeU8, show ((bs.length : Int)).toNat * 1 = bs.length by omega]
  refine sv (vaS rfl) <| WL.nil <| WX.thenN <| WC.seq <| WC.region <| sv (vmS rfl) <| sv (vmS rfl) <| cp sz5 Tryz.underlying23 rfl rfl (reads (vs := u8s bs)) (by simp) (u8s_one bs) (by simp) <| WL.nil <| WX.thenN <| WC.seq <| WC.region <| sv (vmS rfl) <| sv (vbd (ps := [(0, .slice _ _ _)]) (cs := [_, _]) bt138 zt138 rfl (by rfl)) <| bxc (v := .agg _) (cs := [.slice _ _ _, .bool _]) rfl rfl fun b4 => sv (vaP rfl) <| WL.nil <| WX.thenN <| WC.ret <| WX.ret1 rfl (b4) (trivial) rfl (fun w h => ?_)
  have e : splice (List.replicate bs.length (Value.int .u8 0)) 0 (u8s bs) = u8s bs := by simp [splice]
  rw [e] at h
  have h2 := h.pk1.intro_own (o := 0) (vs := u8s bs) (by simp)
  exact preader_mk (c := bs.length) (Nat.le_refl _) h2.pk1

theorem pack_fail {w0 : World} {A : List HProp} {r : Nat} {bs : List UInt8} {bad : Bool} :
    Fun Tryz.prog w0 88 [.pointer (some ⟨r, 0, none⟩)] (preader r bs bad :: A) (Ret w0 (fun _ : Unit => True) (fun _ => .tuple #[]) (fun _ => preader r [] true :: A)) := by
  refine Fun.ex (fun w h => preader_open h) ?_
  rintro ⟨base, c⟩ hc
  refine Fun.enter Tryz.func88 rfl Tryz.ntmps88 rfl ?_
  refine WC.region <| sv (vmP rfl) <| sv (vmP rfl) <| sv (vnil rfl) <| sv (vfld fl138f1 rfl) <| stc (v := .bool _) pl4 sz4 rfl rfl rfl <| sv (vnil rfl) <| sv (vfld fl138f0 rfl) <| stc (v := .slice _ _ _) pl23 sz23 rfl rfl rfl <| WL.nil <| WX.end0 rfl (()) (trivial) rfl (fun w h => ?_)
  exact preader_mk (Nat.le_refl _) (h.pk1.tail.intro_own_nil.pk1)

theorem leaf_or {a b : Prop} [Decidable a] [Decidable b] : True := trivial
theorem pack_rnum {w0 : World} {A : List HProp} {r : Nat} {bs : List UInt8} {bad : Bool} (hb : bs.length ≤ 140737488355328) :
    Fun Tryz.prog w0 60 [.pointer (some ⟨r, 0, none⟩)] (preader r bs bad :: A)
      (Ret w0 (fun _ : Unit => True) (fun _ => .int .i64 (if bad then 0 else ((take bs).map (·.1)).getD 0)) (fun _ => (if bad then preader r bs bad else match take bs with | some p => preader r (bs.drop p.2) false | none => preader r [] true) :: A)) := by
  refine Fun.ex (fun w h => preader_open h) ?_
  rintro ⟨base, c⟩ hc
  dsimp only at hc ⊢
  refine Fun.enter Tryz.func60 rfl Tryz.ntmps60 rfl ?_
  refine WC.seq <| WC.region <| sv (vaI rfl) <| WL.nil <| WX.thenN <| WC.seq <| ?_
  refine WC.cut0 [(13, .bool (decide (bad = true)))] [(0, .pointer _)] (cel r [.slice base bs.length c, .bool bad] 138 :: own base 5 (u8s bs) :: A) ⟨rfl, trivial⟩ ?_ fun ρh => ?_
  · -- pack.go:52
    exact WC.region <| sv (vmP rfl) <| sv (vpeqF Tryz.underlying113 rfl rfl) <| sv (vmB rfl) <| svg rfl (vmP rfl) <| svg rfl (vnil rfl) <| svg rfl (vfld fl138f1 rfl) <| svg rfl (vldc pl4 rfl) <| sv (vpkf rfl) <| WL.nil <| WX.mid () trivial ⟨bB (by simp), trivial⟩ ⟨rfl, trivial⟩ (fun _ h => h)
  refine WC.ite rfl (fun h1 => ?_) (fun h1 => ?_)
  · -- then
    subst h1
    exact WC.seq <| WC.region <| sv (vaI rfl) <| WL.nil <| WX.thenN <| WC.ret <| WX.thenR <| WX.ret1 rfl (()) (trivial) rfl (fun w h => preader_mk hc h)
  · -- else
    have h2' : bad = false := by simpa using h1
    subst h2'
    refine WC.skip <| WX.thenN <| WC.seq <| WC.region <| sv (vaI rfl) <| WL.nil <| WX.thenN <| WC.seq <| WC.seq <| WC.region <| sv (vmP rfl) <| sv (vnil rfl) <| sv (vfld fl138f0 rfl) <| sv (vldc pl23 rfl) <| sv (vlen Tryz.underlying23 rfl) <| sv (vmI rfl) <| WL.nil <| WX.thenN <| WC.block <| ?_
    refine WC.loop (ι := Nat × Nat) (fun i => [(3, .int .u64 i.2), (19, .int .i64 i.1)]) [(0, .pointer _), (17, .slice _ _ _), (18, .int _ _)] (fun i => cel r [.slice base bs.length c, .bool false] 138 :: own base 5 (u8s bs) :: A) (fun i => i.1 ≤ 9 ∧ i.1 ≤ bs.length ∧ i.2 < 128 ^ i.1 ∧ rdn i.1 i.2 (bs.drop i.1) = rdn 0 0 bs) (fun i => bs.length - i.1) ((0, 0)) (⟨by simp, by simp, by simp, rfl⟩) ⟨rfl, rfl, trivial⟩ ⟨rfl, rfl, rfl, trivial⟩ (fun _ h => h) ?_
    rintro ⟨i, z⟩ ⟨hi9, hil, hz, hrd⟩ ρh
    dsimp only at hi9 hil hz hrd ⊢
    refine WC.seq <| WC.region <| sv (vlt rfl rfl) <| WL.nil <| WX.thenN <| WC.seq <| ?_
    refine WC.ite rfl (fun h2 => ?_) (fun h2 => ?_)
    · -- then
      have hlt : i < bs.length := by omega
      have hd : bs.drop i = bs[i] :: bs.drop (i + 1) := List.drop_eq_getElem_cons hlt
      rw [hd, rdn] at hrd
      refine WC.skip <| WX.thenN <| WC.seq <| WC.block <| WC.seq <| WC.region <| sv (vmI rfl) <| sv (vixb Tryz.underlying23 sz5 rfl rfl (by omega) (by omega) (by omega)) <| sv (vldb pl5 rfl hlt) <| sv (vaI rfl) <| sv (vaI rfl) <| WL.nil <| WX.thenN <| WC.seq <| ?_
      refine WC.cut0 [(37, .bool (decide ((i = 9 ∧ bs[i].toNat ≠ 1) ∨ (0 < i ∧ bs[i].toNat = 0))))] [(0, .pointer _), (3, .int _ _), (4, .int _ _), (5, .int _ _), (17, .slice _ _ _), (18, .int _ _), (19, .int _ _)] (cel r [.slice base bs.length c, .bool false] 138 :: own base 5 (u8s bs) :: A) ⟨rfl, rfl, rfl, rfl, rfl, rfl, rfl, trivial⟩ ?_ fun ρh => ?_
      · -- pack.go:57
        refine WC.region <| sv (vmI rfl) <| svs (veq rfl rfl) (fun q1 => ?_) (fun q1 => ?_)
        ·
          refine sv (vmB rfl) <| svg rfl (vmI rfl) <| svsg rfl (vne rfl rfl) (fun q2 => ?_) (fun q2 => ?_)
          ·
            exact sv (vpkt rfl) <| sv (vmB rfl) <| sng rfl <| sng rfl <| sng rfl <| sng rfl <| sng rfl <| sng rfl <| sv (vpkt rfl) <| WL.nil <| WX.mid () trivial ⟨bT (by first | omega | simp_all | grind), trivial⟩ ⟨rfl, rfl, rfl, rfl, rfl, rfl, rfl, trivial⟩ (fun _ h => h)
          ·
            refine sv (vpkt rfl) <| sv (vmB rfl) <| svg rfl (vmI rfl) <| svsg rfl (vgt rfl rfl) (fun q3 => ?_) (fun q3 => ?_)
            ·
              exact svg rfl (vmB rfl) <| svg rfl (vmI rfl) <| svg rfl (veq rfl rfl) <| svg rfl (vpkt rfl) <| sv (vpkf rfl) <| WL.nil <| WX.mid () trivial ⟨bI (by first | omega | simp_all | grind), trivial⟩ ⟨rfl, rfl, rfl, rfl, rfl, rfl, rfl, trivial⟩ (fun _ h => h)
            ·
              exact svg rfl (vmB rfl) <| sng rfl <| sng rfl <| svg rfl (vpkf rfl) <| sv (vpkf rfl) <| WL.nil <| WX.mid () trivial ⟨bF (by first | omega | simp_all | grind), trivial⟩ ⟨rfl, rfl, rfl, rfl, rfl, rfl, rfl, trivial⟩ (fun _ h => h)
        ·
          refine sv (vmB rfl) <| sng rfl <| sng rfl <| sv (vpkf rfl) <| sv (vmB rfl) <| svg rfl (vmI rfl) <| svsg rfl (vgt rfl rfl) (fun q4 => ?_) (fun q4 => ?_)
          ·
            exact svg rfl (vmB rfl) <| svg rfl (vmI rfl) <| svg rfl (veq rfl rfl) <| svg rfl (vpkt rfl) <| sv (vpkf rfl) <| WL.nil <| WX.mid () trivial ⟨bI (by first | omega | simp_all | grind), trivial⟩ ⟨rfl, rfl, rfl, rfl, rfl, rfl, rfl, trivial⟩ (fun _ h => h)
          ·
            exact svg rfl (vmB rfl) <| sng rfl <| sng rfl <| svg rfl (vpkf rfl) <| sv (vpkf rfl) <| WL.nil <| WX.mid () trivial ⟨bF (by first | omega | simp_all | grind), trivial⟩ ⟨rfl, rfl, rfl, rfl, rfl, rfl, rfl, trivial⟩ (fun _ h => h)
      refine WC.ite rfl (fun h3 => ?_) (fun h3 => ?_)
      · -- then
        rw [if_pos h3] at hrd
        have ht : take bs = none := by unfold take; rw [← hrd]; rfl
        exact WC.exit <| WX.thenE <| WX.blockE rfl <| WX.thenE <| WX.thenE <| WX.blockH <| WX.thenN <| WC.seq <| WC.region <| sv (vmP rfl) <| cl (pack_fail.perm (fun w h => preader_mk hc h)) ct88 rfl fun r17 hr17 => WL.nil <| WX.thenN <| WC.seq <| WC.region <| sv (vaI rfl) <| WL.nil <| WX.thenN <| WC.ret <| WX.ret1 rfl (()) (trivial) (iv (by simp [ht])) (fun w h => by simpa [ht] using h)
      · -- else
        rw [if_neg h3] at hrd
        have h9 : i = 9 → bs[i].toNat = 1 := by intro h; by_cases hc1 : bs[i].toNat = 1 <;> simp_all
        refine WC.skip <| WX.thenN <| WC.seq <| WC.region <| sv (vmI rfl) <| sv (vmI rfl) <| sv (vand rfl rfl) <| sv (vcv is5 Tryz.underlying139 rfl) <| sv (vmI rfl) <| sv (vmul rfl rfl (by omega)) <| sv (vshl rfl rfl (by omega)) <| sv (vor rfl rfl) <| sv (vaI rfl) <| WL.nil <| WX.thenN <| WC.seq <| WC.region <| sv (vmI rfl) <| sv (vlt rfl rfl) <| WL.nil <| WX.thenN <| ?_
        refine WC.ite rfl (fun h4 => ?_) (fun h4 => ?_)
        · -- then
          rw [if_pos (by omega)] at hrd
          have ht : take bs = some (zag (z + bs[i].toNat % 128 * 128 ^ i), i + 1) := by unfold take; rw [← hrd]; rfl
          have hlt64 := (rdn_lt bs 0 0 (by simp) (by omega) _ hrd.symm).1
          have hor := or_raw bs[i] hz hi9 h9
          refine WC.seq <| WC.region <| sv (vmP rfl) <| sv (vmP rfl) <| sv (vnil rfl) <| sv (vfld fl138f0 rfl) <| sv (vldc pl23 rfl) <| sv (vmI rfl) <| sv (vadd rfl rfl (by omega)) <| sv (vslL Tryz.underlying23 sz5 rfl rfl (by omega) (by omega)) <| sv (vnil rfl) <| sv (vfld fl138f0 rfl) <| stc (v := .slice _ _ _) pl23 sz23 rfl rfl rfl <| WL.nil <| WX.thenN <| WC.seq <| WC.region <| sv (vmI rfl) <| sv (vshr rfl rfl (by omega)) <| sv (vcv is139 Tryz.underlying3 rfl) <| sv (vmI rfl) <| sv (vand rfl rfl) <| sv (vcv is139 Tryz.underlying3 rfl) <| sv (vneg rfl) <| sv (vxor rfl rfl) <| sv (vaI rfl) <| WL.nil <| WX.thenN <| WC.ret <| WX.blockR <| WX.thenR <| WX.thenR <| WX.blockR <| WX.thenR <| WX.ret1 rfl (()) (trivial) (by simp only [ht]; exact iv (by rw [hor]; exact zag_raw hlt64)) (fun w h => ?_)
          simp only [ht]
          have e : (((i : Int) + 1).toNat) = i + 1 := by omega
          rw [e] at h
          have h2 := (h.pk1.own_slice (i + 1) c (fun hci => List.drop_eq_nil_of_le (by simp; omega))).pk1
          rw [u8s_drop] at h2
          have hl : bs.length - (i + 1) = (bs.drop (i + 1)).length := by simp
          have h3 : Own w0 (cel r [.slice (slB base (i + 1) c 1) (bs.drop (i + 1)).length (c - (i + 1)), .bool false] 138 :: own (slB base (i + 1) c 1) 5 (u8s (bs.drop (i + 1))) :: A) w := by rw [← hl]; exact h2
          exact preader_mk (by simp; omega) h3
        · -- else
          rw [if_neg (by omega)] at hrd
          have hor := or_raw bs[i] hz hi9 h9
          have h9' : i ≠ 9 := fun h => by have := h9 h; omega
          refine WC.skip <| WX.blockN <| WX.thenN <| WC.region <| sv (vadd rfl rfl (by omega)) <| sv (vmI rfl) <| WL.nil <| WX.again ((i + 1, z + bs[i].toNat % 128 * 128 ^ i)) (⟨by simp only; omega, by simp only; omega, ?_, hrd⟩) (by simp only; omega) ⟨iv hor, rfl, trivial⟩ ⟨rfl, rfl, rfl, trivial⟩ (fun _ h => h)
          have e2 : 128 ^ (i + 1) = 128 ^ i * 128 := Nat.pow_succ ..
          have : bs[i].toNat % 128 * 128 ^ i ≤ 127 * 128 ^ i := Nat.mul_le_mul_right _ (by omega)
          simp only; omega
    · -- else
      have hnil : bs.drop i = [] := List.drop_eq_nil_of_le (by omega)
      rw [hnil] at hrd
      have ht : take bs = none := by unfold take; rw [← hrd]; rfl
      exact WC.exit <| WX.thenE <| WX.thenE <| WX.blockH <| WX.thenN <| WC.seq <| WC.region <| sv (vmP rfl) <| cl (pack_fail.perm (fun w h => preader_mk hc h)) ct88 rfl fun r17 hr17 => WL.nil <| WX.thenN <| WC.seq <| WC.region <| sv (vaI rfl) <| WL.nil <| WX.thenN <| WC.ret <| WX.ret1 rfl (()) (trivial) (iv (by simp [ht])) (fun w h => by simpa [ht] using h)
end Go.Proofs.YthljpljbpbkkcaaGreatDoor
end
section
set_option linter.unusedVariables false
set_option linter.unusedSimpArgs false
set_option maxRecDepth 4000
namespace Go.Proofs.YthljpljbpbkkcaaGreatDoor
open Go.Sl Go.Pack Go.RowKit

theorem str_take {bs : List UInt8} {n : Int} : True := trivial
/-- what Text hands back, and what is left -/
def rtext (bs : List UInt8) : Option (List UInt8 × List UInt8) := match take bs with
  | none => none
  | some (n, k) => if n < 0 ∨ ((bs.drop k).length : Int) < n then none else some ((bs.drop k).take n.toNat, (bs.drop k).drop n.toNat)
def rstate (r : Nat) (x : Option (List UInt8)) : HProp := preader r (x.getD []) x.isNone

theorem pack_rtext {w0 : World} {A : List HProp} {r : Nat} {bs : List UInt8} (hb : bs.length ≤ 140737488355328) :
    Fun Tryz.prog w0 61 [.pointer (some ⟨r, 0, none⟩)] (preader r bs false :: A)
      (Ret w0 (fun _ : Unit => True) (fun _ => .string ⟨(((rtext bs).map (·.1)).getD []).toArray⟩) (fun _ => rstate r ((rtext bs).map (·.2)) :: A)) := by
  have hN := pack_rnum (w0 := w0) (A := A) (r := r) (bs := bs) (bad := false) hb
  rcases ht : take bs with _ | ⟨n, k⟩
  · have hrt : rtext bs = none := by unfold rtext; rw [ht]
    rw [hrt]
    simp only [ht, Bool.false_eq_true, if_false, Option.map_none, Option.getD_none] at hN
    refine Fun.enter Tryz.func61 rfl Tryz.ntmps61 rfl ?_
    refine WC.seq <| WC.region <| sv (vaT rfl) <| WL.nil <| WX.thenN <| WC.seq <| WC.region <| sv (vmP rfl) <| cl hN ct60 rfl fun _ _ => sv (vaI rfl) <| WL.nil <| WX.thenN <| ?_
    refine WC.ex (fun w h => preader_open h) ?_
    rintro ⟨base, c⟩ hc
    exact WC.seq <| WC.seq <| WC.region <| sv (vmP rfl) <| sv (vpeqF Tryz.underlying113 rfl rfl) <| sv (vmB rfl) <| svg rfl (vmP rfl) <| svg rfl (vnil rfl) <| svg rfl (vfld fl138f1 rfl) <| svg rfl (vldc pl4 rfl) <| sv (vpkf rfl) <| WL.nil <| WX.thenN <| WC.tt rfl <| WC.seq <| WC.region <| sv (vaT rfl) <| WL.nil <| WX.thenN <| WC.ret <| WX.thenR <| WX.ret1 rfl () trivial rfl (fun w h => preader_mk hc h)
  · simp only [ht, Bool.false_eq_true, if_false, Option.map_some, Option.getD_some] at hN
    have hrd : ∃ z, rdn 0 0 bs = some (z, k) ∧ n = zag z := by
      unfold take at ht
      cases h : rdn 0 0 bs with
      | none => simp [h] at ht
      | some p => obtain ⟨z, k'⟩ := p; simp [h] at ht; exact ⟨z, by simp [ht.2], ht.1.symm⟩
    obtain ⟨z, hz, hn⟩ := hrd
    have hzl := (rdn_lt bs 0 0 (by simp) (by omega) _ hz).1
    have hnb : -9223372036854775808 ≤ n ∧ n ≤ 9223372036854775807 := by rw [hn]; unfold zag; split <;> omega
    refine Fun.enter Tryz.func61 rfl Tryz.ntmps61 rfl ?_
    refine WC.seq <| WC.region <| sv (vaT rfl) <| WL.nil <| WX.thenN <| WC.seq <| WC.region <| sv (vmP rfl) <| cl hN ct60 rfl fun _ _ => sv (vaI rfl) <| WL.nil <| WX.thenN <| ?_
    refine WC.ex (fun w h => preader_open h) ?_
    rintro ⟨base, c⟩ hc
    dsimp only at hc ⊢
    refine WC.seq <| WC.seq <| WC.region <| sv (vmP rfl) <| sv (vpeqF Tryz.underlying113 rfl rfl) <| sv (vmB rfl) <| svg rfl (vmP rfl) <| svg rfl (vnil rfl) <| svg rfl (vfld fl138f1 rfl) <| svg rfl (vldc pl4 rfl) <| sv (vpkf rfl) <| WL.nil <| WX.thenN <| WC.ff rfl <| WC.skip <| WX.thenN <| WC.seq <| ?_
    generalize hds : bs.drop k = ds at *
    refine WC.cut0 [(25, .bool (decide (n < 0 ∨ (ds.length : Int) < n)))] [(0, .pointer _), (3, .int _ _)] (cel r [.slice base ds.length c, .bool false] 138 :: own base 5 (u8s ds) :: A) ⟨rfl, rfl, trivial⟩ ?_ fun ρh => ?_
    · refine WC.region <| sv (vmI rfl) <| svs (vlt rfl rfl) (fun q3 => ?_) (fun q3 => ?_)
      · exact sv (vmB rfl) <| sng rfl <| sng rfl <| sng rfl <| sng rfl <| sng rfl <| sng rfl <| sng rfl <| sv (vpkt rfl) <| WL.nil <| WX.mid () trivial ⟨bT (by omega), trivial⟩ ⟨rfl, rfl, trivial⟩ (fun _ h => h)
      · exact sv (vmB rfl) <| svg rfl (vmI rfl) <| svg rfl (vmP rfl) <| svg rfl (vnil rfl) <| svg rfl (vfld fl138f0 rfl) <| svg rfl (vldc pl23 rfl) <| svg rfl (vlen Tryz.underlying23 rfl) <| svg rfl (vgt rfl rfl) <| sv (vpkf rfl) <| WL.nil <| WX.mid () trivial ⟨bI (by omega), trivial⟩ ⟨rfl, rfl, trivial⟩ (fun _ h => h)
    refine WC.ite rfl (fun h2 => ?_) (fun h2 => ?_)
    · have hrt : rtext bs = none := by unfold rtext; rw [ht]; simp only [hds]; rw [if_pos h2]
      rw [hrt]
      exact WC.seq <| WC.region <| sv (vmP rfl) <| cl (pack_fail.perm (fun w h => preader_mk hc h)) ct88 rfl fun _ _ => WL.nil <| WX.thenN <| WC.seq <| WC.region <| sv (vaT rfl) <| WL.nil <| WX.thenN <| WC.ret <| WX.thenR <| WX.ret1 rfl () trivial rfl (fun _ h => h)
    · have hrt : rtext bs = some (ds.take n.toNat, ds.drop n.toNat) := by unfold rtext; rw [ht]; simp only [hds]; rw [if_neg h2]
      rw [hrt]
      have h0 : 0 ≤ n := by omega
      have h1 : n ≤ ds.length := by omega
      have hlt : (ds.take n.toNat).length = n.toNat := by simp; omega
      have hstr : Reads w0 (cel r [.slice base ds.length c, .bool false] 138 :: own base 5 (u8s ds) :: A) base (u8s (ds.take n.toNat)) := ⟨by
        have := (reads (w0 := w0) (A := cel r [.slice base ds.length c, .bool false] 138 :: own base 5 (u8s ds) :: A) (base := base)).take n.toNat
        rwa [u8s_take] at this⟩
      refine WC.skip <| WX.thenN <| WC.seq <| WC.region <| sv (vmP rfl) <| sv (vnil rfl) <| sv (vfld fl138f0 rfl) <| sv (vldc pl23 rfl) <| sv (vmI rfl) <| sv (vslH Tryz.underlying23 sz5 rfl rfl h0 (by omega)) <| sv (vstr Tryz.underlying23 Tryz.underlying5 Tryz.underlying9 rfl hstr.rd hlt.symm) <| sv (vaT rfl) <| WL.nil <| WX.thenN <| WC.seq <| WC.region <| sv (vmP rfl) <| sv (vmP rfl) <| sv (vnil rfl) <| sv (vfld fl138f0 rfl) <| sv (vldc pl23 rfl) <| sv (vmI rfl) <| sv (vslL Tryz.underlying23 sz5 rfl rfl h0 h1) <| sv (vnil rfl) <| sv (vfld fl138f0 rfl) <| stc (v := .slice _ _ _) pl23 sz23 rfl rfl rfl <| WL.nil <| WX.thenN <| WC.seq <| WC.region <| sv (vmT rfl) <| sv (vaT rfl) <| WL.nil <| WX.thenN <| WC.ret <| WX.ret1 rfl () trivial rfl (fun w h => ?_)
      have h2 := (h.pk1.own_slice n.toNat c (fun hci => List.drop_eq_nil_of_le (by simp; omega))).pk1
      rw [u8s_drop] at h2
      have hl : ds.length - n.toNat = (ds.drop n.toNat).length := by simp
      rw [hl] at h2
      exact preader_mk (by simp; omega) h2

theorem pack_rtext_bad {w0 : World} {A : List HProp} {r : Nat} {bs : List UInt8} (hb : bs.length ≤ 140737488355328) :
    Fun Tryz.prog w0 61 [.pointer (some ⟨r, 0, none⟩)] (preader r bs true :: A)
      (Ret w0 (fun _ : Unit => True) (fun _ => .string ByteArray.empty) (fun _ => preader r bs true :: A)) := by
  have hN := pack_rnum (w0 := w0) (A := A) (r := r) (bs := bs) (bad := true) hb
  simp only [if_true] at hN
  refine Fun.enter Tryz.func61 rfl Tryz.ntmps61 rfl ?_
  refine WC.seq <| WC.region <| sv (vaT rfl) <| WL.nil <| WX.thenN <| WC.seq <| WC.region <| sv (vmP rfl) <| cl (hN) ct60 rfl fun _ _ => ?_
  refine WL.ex (fun w h => preader_open h) ?_
  rintro ⟨base, c⟩ hc
  dsimp only at hc ⊢
  refine sv (vaI rfl) <| WL.nil <| WX.thenN <| WC.seq <| ?_
  refine WC.cut0 [(14, .bool (decide (True)))] [(0, .pointer _), (3, .int _ _)] (cel r [.slice base bs.length c, .bool true] 138 :: own base 5 (u8s bs) :: A) ⟨rfl, rfl, trivial⟩ ?_ fun ρh => ?_
  · -- pack.go:73
    exact WC.region <| sv (vmP rfl) <| sv (vpeqF Tryz.underlying113 rfl rfl) <| sv (vmB rfl) <| svg rfl (vmP rfl) <| svg rfl (vnil rfl) <| svg rfl (vfld fl138f1 rfl) <| svg rfl (vldc pl4 rfl) <| sv (vpkf rfl) <| WL.nil <| WX.mid () trivial ⟨bT trivial, trivial⟩ ⟨rfl, rfl, trivial⟩ (fun _ h => h)
  refine WC.tt rfl ?_
  exact WC.seq <| WC.region <| sv (vaT rfl) <| WL.nil <| WX.thenN <| WC.ret <| WX.thenR <| WX.ret1 rfl (()) (trivial) rfl (fun w h => preader_mk hc h)



theorem pack_done {w0 : World} {A : List HProp} {r : Nat} {bs : List UInt8} {bad : Bool} :
    Fun Tryz.prog w0 63 [.pointer (some ⟨r, 0, none⟩)] (preader r bs bad :: A) (Ret w0 (fun _ : Unit => True) (fun _ => .bool (decide (bad = false ∧ bs = []))) (fun _ => preader r bs bad :: A)) := by
  refine Fun.ex (fun w h => preader_open h) ?_
  rintro ⟨base, c⟩ hc
  dsimp only at hc ⊢
  refine Fun.enter Tryz.func63 rfl Tryz.ntmps63 rfl ?_
  refine WC.seq <| WC.region <| sv (vaB rfl) <| WL.nil <| WX.thenN <| ?_
  refine WC.cut0 [(2, .bool (decide (bad = false ∧ bs = [])))] [] (cel r [.slice base bs.length c, .bool bad] 138 :: own base 5 (u8s bs) :: A) trivial ?_ fun ρh => ?_
  · -- pack.go:97
    refine WC.region <| sv (vmP rfl) <| sv (vpneT Tryz.underlying113 rfl rfl) <| sv (vmB rfl) <| svg rfl (vmP rfl) <| svg rfl (vnil rfl) <| svg rfl (vfld fl138f1 rfl) <| svbg rfl (vldc pl4 rfl) (fun q1 => ?_) (fun q1 => ?_)
    ·
      exact svg rfl (vnot rfl) <| sv (vpkt rfl) <| sv (vmB rfl) <| sng rfl <| sng rfl <| sng rfl <| sng rfl <| sng rfl <| sng rfl <| sv (vpkf rfl) <| sv (vaB rfl) <| WL.nil <| WX.mid () trivial ⟨bF (by simp [q1]), trivial⟩ trivial (fun _ h => h)
    ·
      exact svg rfl (vnot rfl) <| sv (vpkt rfl) <| sv (vmB rfl) <| svg rfl (vmP rfl) <| svg rfl (vnil rfl) <| svg rfl (vfld fl138f0 rfl) <| svg rfl (vldc pl23 rfl) <| svg rfl (vlen Tryz.underlying23 rfl) <| svg rfl (veq rfl rfl) <| sv (vpkt rfl) <| sv (vaB rfl) <| WL.nil <| WX.mid () trivial ⟨bI (by simp [q1]), trivial⟩ trivial (fun _ h => h)
  exact WC.ret <| WX.ret1 rfl (()) (trivial) rfl (fun w h => preader_mk hc h)

/-! no reader -/
theorem pack_rnum_nil {w0 : World} {A : List HProp} : Fun Tryz.prog w0 60 [.pointer none] A (Ret w0 (fun _ : Unit => True) (fun _ => .int .i64 0) (fun _ => A)) := by
  refine Fun.enter Tryz.func60 rfl Tryz.ntmps60 rfl ?_
  refine WC.seq <| WC.region <| sv (vaI rfl) <| WL.nil <| WX.thenN <| WC.seq <| ?_
  refine WC.cut0 [(13, .bool (decide (True)))] [(0, .pointer _)] (A) ⟨rfl, trivial⟩ ?_ fun ρh => ?_
  · -- pack.go:52
    exact WC.region <| sv (vmP rfl) <| sv (vpeqT Tryz.underlying113 rfl rfl) <| sv (vmB rfl) <| sng rfl <| sng rfl <| sng rfl <| sng rfl <| sv (vpkt rfl) <| WL.nil <| WX.mid () trivial ⟨bT trivial, trivial⟩ ⟨rfl, trivial⟩ (fun _ h => h)
  refine WC.tt rfl ?_
  exact WC.seq <| WC.region <| sv (vaI rfl) <| WL.nil <| WX.thenN <| WC.ret <| WX.thenR <| WX.ret1 rfl (()) (trivial) rfl (fun _ h => h)
theorem pack_done_nil {w0 : World} {A : List HProp} : Fun Tryz.prog w0 63 [.pointer none] A (Ret w0 (fun _ : Unit => True) (fun _ => .bool false) (fun _ => A)) := by
  refine Fun.enter Tryz.func63 rfl Tryz.ntmps63 rfl ?_
  refine WC.seq <| WC.region <| sv (vaB rfl) <| WL.nil <| WX.thenN <| ?_
  refine WC.cut0 [(2, .bool false)] [] (A) trivial ?_ fun ρh => ?_
  · -- pack.go:97
    exact WC.region <| sv (vmP rfl) <| sv (vpneF Tryz.underlying113 rfl rfl) <| sv (vmB rfl) <| sng rfl <| sng rfl <| sng rfl <| sng rfl <| sng rfl <| sv (vpkf rfl) <| sv (vmB rfl) <| sng rfl <| sng rfl <| sng rfl <| sng rfl <| sng rfl <| sng rfl <| sv (vpkf rfl) <| sv (vaB rfl) <| WL.nil <| WX.mid () trivial ⟨rfl, trivial⟩ trivial (fun _ h => h)
  exact WC.ret <| WX.ret1 rfl (()) (trivial) rfl (fun _ h => h)
theorem pack_rtext_nil {w0 : World} {A : List HProp} : Fun Tryz.prog w0 61 [.pointer none] A (Ret w0 (fun _ : Unit => True) (fun _ => .string ByteArray.empty) (fun _ => A)) := by
  refine Fun.enter Tryz.func61 rfl Tryz.ntmps61 rfl ?_
  refine WC.seq <| WC.region <| sv (vaT rfl) <| WL.nil <| WX.thenN <| WC.seq <| WC.region <| sv (vmP rfl) <| cl (pack_rnum_nil) ct60 rfl fun _ _ => sv (vaI rfl) <| WL.nil <| WX.thenN <| WC.seq <| ?_
  refine WC.cut0 [(14, .bool (decide (True)))] [(0, .pointer _), (3, .int _ _)] (A) ⟨rfl, rfl, trivial⟩ ?_ fun ρh => ?_
  · -- pack.go:73
    exact WC.region <| sv (vmP rfl) <| sv (vpeqT Tryz.underlying113 rfl rfl) <| sv (vmB rfl) <| sng rfl <| sng rfl <| sng rfl <| sng rfl <| sv (vpkt rfl) <| WL.nil <| WX.mid () trivial ⟨bT trivial, trivial⟩ ⟨rfl, rfl, trivial⟩ (fun _ h => h)
  refine WC.tt rfl ?_
  exact WC.seq <| WC.region <| sv (vaT rfl) <| WL.nil <| WX.thenN <| WC.ret <| WX.thenR <| WX.ret1 rfl (()) (trivial) rfl (fun _ h => h)

/-! the statements' helper: are two lists of bytes the same? -/
theorem rd_take {w0 : World} {A : List HProp} {base : Option Addr} {bs : List UInt8} (h : RdC w0 A base (u8s bs)) (m : Nat) : RdC w0 A base (u8s (bs.take m)) := by
  have := h.take m
  rwa [u8s_take] at this
end Go.Proofs.YthljpljbpbkkcaaGreatDoor
end
section
set_option linter.unusedVariables false
set_option linter.unusedSimpArgs false
set_option maxRecDepth 4000
namespace Go.Proofs.YthljpljbpbkkcaaGreatDoor
open Go.Sl Go.RowKit Go.Pack

theorem ref_sum {w0 : World} {A : List HProp} {base : Option Addr} {c : Nat} {bs : List UInt8} [hR : Reads w0 A base (u8s bs)] (hb : bs.length ≤ 140737488355328) :
    Fun Tryz.prog w0 29 [.slice base bs.length c] A (Ret w0 (fun _ : Unit => True) (fun _ => .int .u32 (sum bs)) (fun _ => A)) := by
  refine Fun.enter Tryz.func29 rfl Tryz.ntmps29 rfl ?_
  refine WC.seq <| WC.region <| sv (vaI rfl) <| WL.nil <| WX.thenN <| WC.seq <| WC.region <| sv (vaI rfl) <| WL.nil <| WX.thenN <| WC.seq <| WC.seq <| WC.region <| sv (vaI rfl) <| WL.nil <| WX.thenN <| WC.block <| ?_
  refine WC.loop (ι := Nat) (fun i => [(3, .int .u32 (crc (BitVec.allOnes 32) (bs.take i)).toNat), (4, .int .i64 i)]) [(0, .slice _ _ _)] (fun i => A) (fun i => i ≤ bs.length) (fun i => bs.length - i) (0) (by omega) ⟨iv (by simp [crc]), rfl, trivial⟩ ⟨rfl, trivial⟩ (fun _ h => h) ?_
  intro i hi ρh
  refine WC.seq <| WC.seq <| WC.region <| sv (vmI rfl) <| sv (vmS rfl) <| sv (vlen Tryz.underlying23 rfl) <| sv (vlt rfl rfl) <| WL.nil <| WX.thenN <| ?_
  refine WC.ite rfl (fun h1 => ?_) (fun h1 => ?_)
  · -- then
    have h1' : i < bs.length := by omega
    generalize hr : crc (BitVec.allOnes 32) (bs.take i) = r
    refine WC.skip <| WX.thenN <| WC.seq <| WC.block <| WC.seq <| WC.region <| sv (vaI rfl) <| WL.nil <| WX.thenN <| WC.block <| ?_
    refine WC.loop (ι := Nat) (fun k => [(3, .int .u32 (refbits r bs[i] k).toNat), (5, .int .i64 k)]) [(0, .slice _ _ _), (4, .int _ _)] (fun k => A) (fun k => k ≤ 8) (fun k => 8 - k) (0) (by omega) ⟨iv (by rw [refbits_zero]), rfl, trivial⟩ ⟨rfl, rfl, trivial⟩ (fun _ h => h) ?_
    intro k hk ρh2
    refine WC.seq <| WC.seq <| WC.region <| sv (vmI rfl) <| sv (vlt rfl rfl) <| WL.nil <| WX.thenN <| ?_
    refine WC.ite rfl (fun h2 => ?_) (fun h2 => ?_)
    · -- then
      have hk8 : k < 8 := by omega
      have hbit := bit_raw bs[i] k hk8
      have hlt := (refbits r bs[i] k).isLt
      have hm1 : ((refbits r bs[i] k).toNat : Int).tmod 2 = (((refbits r bs[i] k).toNat % 2 : Nat) : Int) := by rw [Int.tmod_eq_emod_of_nonneg (by omega)]; omega
      have hm2 : ((bs[i].toNat >>> k : Nat) : Int).tmod 2 = (((bs[i].toNat >>> k) % 2 : Nat) : Int) := by generalize bs[i].toNat >>> k = m; rw [Int.tmod_eq_emod_of_nonneg (by omega)]; omega
      have hd : IntKind.u32.wrap (((refbits r bs[i] k).toNat : Int).tdiv 2) = ((refbits r bs[i] k >>> 1).toNat : Int) := by
        rw [Int.tdiv_eq_ediv_of_nonneg (by omega), IntKind.wrap_u32, BitVec.toNat_ushiftRight]; omega
      refine WC.skip <| WX.thenN <| WC.seq <| WC.block <| WC.seq <| WC.region <| sv (vmI rfl) <| sv (vrem rfl rfl (by decide)) <| sv (vmS rfl) <| sv (vmI rfl) <| sv (vixb Tryz.underlying23 sz5 rfl rfl (by omega) (by omega) (by omega)) <| sv (vldb pl5 rfl h1') <| sv (vmI rfl) <| sv (vshr rfl rfl (by omega)) <| sv (vcv is5 Tryz.underlying70 rfl) <| sv (vrem rfl rfl (by decide)) <| sv (vne rfl rfl) <| sv (vaB rfl) <| WL.nil <| WX.thenN <| WC.seq <| WC.region <| sv (vmI rfl) <| sv (vquo rfl rfl (by decide)) <| sv (vaI rfl) <| WL.nil <| WX.thenN <| WC.seq <| WC.region <| sv (vmB rfl) <| WL.nil <| WX.thenN <| ?_
      refine WC.ite rfl (fun h3 => ?_) (fun h3 => ?_)
      · -- then
        rw [hbit, hm1, hm2] at h3
        have hs := refbits_succ r bs[i] k
        rw [if_pos (by omega)] at hs
        exact WC.region <| sv (vmI rfl) <| sv (vxor rfl rfl) <| sv (vaI rfl) <| WL.nil <| WX.blockN <| WX.thenN <| WC.region <| sv (vmI rfl) <| sv (vadd rfl rfl (by omega)) <| sv (vaI rfl) <| WL.nil <| WX.again (k + 1) (by omega) (by omega) ⟨iv (by rw [hs, hd]; exact Pack.u32_xor _ poly), rfl, trivial⟩ ⟨rfl, rfl, trivial⟩ (fun _ h => h)
      · -- else
        rw [hbit, hm1, hm2] at h3
        have hs := refbits_succ r bs[i] k
        rw [if_neg (by omega), BitVec.xor_zero] at hs
        exact WC.skip <| WX.blockN <| WX.thenN <| WC.region <| sv (vmI rfl) <| sv (vadd rfl rfl (by omega)) <| sv (vaI rfl) <| WL.nil <| WX.again (k + 1) (by omega) (by omega) ⟨iv (by rw [hs, hd]), rfl, trivial⟩ ⟨rfl, rfl, trivial⟩ (fun _ h => h)
    · -- else
      have hk8 : k = 8 := by omega
      subst hk8
      exact WC.exit <| WX.thenE <| WX.thenE <| WX.blockH <| WX.blockN <| WX.thenN <| WC.region <| sv (vmI rfl) <| sv (vadd rfl rfl (by omega)) <| sv (vaI rfl) <| WL.nil <| WX.again (i + 1) (by omega) (by omega) ⟨iv (by rw [List.take_succ_eq_append_getElem h1', crc_snoc, hr, refbits_eight]), rfl, trivial⟩ ⟨rfl, trivial⟩ (fun _ h => h)
  · -- else
    have hi' : i = bs.length := by omega
    subst hi'
    exact WC.exit <| WX.thenE <| WX.thenE <| WX.blockH <| WX.thenN <| WC.seq <| WC.region <| sv (vmI rfl) <| sv (vcom rfl) <| sv (vaI rfl) <| WL.nil <| WX.thenN <| WC.ret <| WX.ret1 rfl (()) (trivial) (iv (by rw [List.take_length]; exact com_raw _)) (fun _ h => h)
end Go.Proofs.YthljpljbpbkkcaaGreatDoor
end
