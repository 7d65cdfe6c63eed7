/-
  Layer 2's disk as a chunk of memory; its small methods.
-/
import Derived.Test.YthljpljbpbkkcaaDoorDiskSpecA
set_option linter.unusedVariables false
set_option linter.unusedSimpArgs false
set_option maxRecDepth 4000
namespace Go.Proofs.YthljpljbpbkkcaaDoor
open Go.Sl Go.RowKit

/-- a file: its bytes, and how many of them are safe -/
def pfile (f : Nat) (bs : List UInt8) (safe : Nat) : HProp := fun h => ∃ base c, bs.length ≤ c ∧ star (cel f [.slice base bs.length c, .int .i64 (safe : Int)] 96) (row base c 1 5 (u8s bs)) h
theorem pfile_open {w0 w : World} {f : Nat} {bs : List UInt8} {safe : Nat} {A : List HProp} (H : Own w0 (pfile f bs safe :: A) w) :
    ∃ x : Option Addr × Nat, bs.length ≤ x.2 ∧ Own w0 (cel f [.slice x.1 bs.length x.2, .int .i64 (safe : Int)] 96 :: row x.1 x.2 1 5 (u8s bs) :: A) w := by
  obtain ⟨hb, h, ⟨h1, h2, ⟨base, c, hc, a⟩, a2, d, x⟩, hw⟩ := H
  exact ⟨(base, c), hc, Own.star ⟨hb, h, ⟨h1, h2, a, a2, d, x⟩, hw⟩⟩
theorem pfile_mk {w0 w : World} {f : Nat} {bs : List UInt8} {safe : Nat} {A : List HProp} {base : Option Addr} {c : Nat} (hc : bs.length ≤ c) (H : Own w0 (cel f [.slice base bs.length c, .int .i64 (safe : Int)] 96 :: row base c 1 5 (u8s bs) :: A) w) :
    Own w0 (pfile f bs safe :: A) w := H.intro_star.head fun _ h => ⟨base, c, hc, h⟩
/-- a file of a disk: name, place, bytes, safe ones -/
structure DF where
  name : ByteArray
  ptr : Nat
  bs : List UInt8
  safe : Nat
def pfiles : List DF → HProp
  | [] => emp
  | x :: l => star (pfile x.ptr x.bs x.safe) (pfiles l)
def ents (l : List DF) : List (Value × Value) := l.map fun x => (.string x.name, .pointer (some ⟨x.ptr, 0, none⟩))
/-- what is known of a disk -/
structure DSt where
  files : ByteArray → Option (List UInt8 × Nat)
  off : Bool
  fuse : Int
  keep : Int
  deeds : Int
def lookL : List DF → ByteArray → Option (List UInt8 × Nat)
  | [], _ => none
  | x :: l, k => if x.name = k then some (x.bs, x.safe) else lookL l k
/-- these files are the disk's -/
structure Rep (l : List DF) (st : DSt) : Prop where
  nodup : (l.map (·.name)).Nodup
  look : ∀ k, lookL l k = st.files k
  ok : ∀ x ∈ l, x.safe ≤ x.bs.length ∧ x.bs.length ≤ 16777216
  fuse : 0 ≤ st.fuse ∧ st.fuse ≤ 9223372036854775807
abbrev dcells (m : Nat) (st : DSt) : List Value := [.map (some m), .bool st.off, .int .i64 st.fuse, .int .i64 st.keep, .int .i64 st.deeds]
def pdisk (d : Nat) (st : DSt) : HProp := fun h => ∃ m l, Rep l st ∧ star (cel d (dcells m st) 60) (star (mp .string m (ents l)) (pfiles l)) h
theorem pdisk_open {w0 w : World} {d : Nat} {st : DSt} {A : List HProp} (H : Own w0 (pdisk d st :: A) w) :
    ∃ x : Nat × List DF, Rep x.2 st ∧ Own w0 (cel d (dcells x.1 st) 60 :: mp .string x.1 (ents x.2) :: pfiles x.2 :: A) w := by
  obtain ⟨hb, h, ⟨h1, h2, ⟨m, l, hc, a⟩, a2, dd, x⟩, hw⟩ := H
  have h3 : Own w0 (star (cel d (dcells m st) 60) (star (mp .string m (ents l)) (pfiles l)) :: A) w := ⟨hb, h, ⟨h1, h2, a, a2, dd, x⟩, hw⟩
  exact ⟨(m, l), hc, h3.star.pk1.star.pk2⟩
theorem pdisk_mk {w0 w : World} {d m : Nat} {st : DSt} {l : List DF} {A : List HProp} (hl : Rep l st) (H : Own w0 (cel d (dcells m st) 60 :: mp .string m (ents l) :: pfiles l :: A) w) :
    Own w0 (pdisk d st :: A) w := H.pk2.pk2.intro_star.pk1.intro_star.head fun _ h => ⟨m, l, hl, h⟩
def newD : DSt := ⟨fun _ => none, false, 0, 0, 0⟩
theorem Rep.new : Rep [] newD := ⟨by simp, fun _ => rfl, by simp, by simp [newD]⟩
theorem Rep.same {l : List DF} {st st' : DSt} (h : Rep l st) (hf : st'.files = st.files) (hu : 0 ≤ st'.fuse ∧ st'.fuse ≤ 9223372036854775807) : Rep l st' := ⟨h.nodup, fun k => by rw [h.look, hf], h.ok, hu⟩
theorem look_at {l : List DF} {k : ByteArray} {v : List UInt8 × Nat} (h : lookL l k = some v) : ∃ (j : Nat) (x : DF), l[j]? = some x ∧ x.name = k ∧ (x.bs, x.safe) = v := by
  induction l with
  | nil => cases h
  | cons y l ih =>
    unfold lookL at h
    split at h
    · exact ⟨0, y, rfl, by assumption, Option.some.inj h⟩
    · obtain ⟨j, x, h1, h2⟩ := ih h
      exact ⟨j + 1, x, by simpa using h1, h2⟩
theorem look_no {l : List DF} {k : ByteArray} (h : lookL l k = none) : ∀ x ∈ l, x.name ≠ k := by
  induction l with
  | nil => intro x hx; cases hx
  | cons y l ih =>
    unfold lookL at h
    split at h
    · cases h
    · intro x hx
      rcases List.mem_cons.1 hx with rfl | hx
      · assumption
      · exact ih h x hx
theorem look_of {l : List DF} {x : DF} (hn : (l.map (·.name)).Nodup) (hx : x ∈ l) : lookL l x.name = some (x.bs, x.safe) := by
  induction l with
  | nil => cases hx
  | cons y l ih =>
    unfold lookL
    simp only [List.map_cons, List.nodup_cons] at hn
    rcases List.mem_cons.1 hx with rfl | hx
    · simp
    · rw [if_neg (fun he => hn.1 (List.mem_map.2 ⟨x, hx, he.symm⟩)), ih hn.2 hx]
theorem Rep.at {l : List DF} {st : DSt} {k : ByteArray} {v : List UInt8 × Nat} (h : Rep l st) (hk : st.files k = some v) : ∃ (j : Nat) (x : DF), l[j]? = some x ∧ x.name = k ∧ (x.bs, x.safe) = v := look_at ((h.look k).trans hk)
theorem Rep.no {l : List DF} {st : DSt} {k : ByteArray} (h : Rep l st) (hk : st.files k = none) : ∀ x ∈ l, x.name ≠ k := look_no ((h.look k).trans hk)
theorem disk_new {w0 : World} {A : List HProp} : Fun Tryd.prog w0 9 [] A (Ret w0 (fun _ : Nat => True) (fun d => .pointer (some ⟨d, 0, none⟩)) (fun d => pdisk d newD :: A)) := by
  refine Fun.enter Tryd.func9 rfl Tryd.ntmps9 rfl ?_
  exact WC.seq <| WC.region <| sv (vaP rfl) <| WL.nil <| WX.thenN <| WC.seq <| WC.region <| mkm .string fun b1 =>sv (vbd (ps := [(0, .map _)]) (cs := [_, _, _, _, _]) bt60 zt60 rfl (by rfl)) <| bxc (v := .agg _) (cs := [.map _, .bool _, .int _ _, .int _ _, .int _ _]) rfl rfl fun b3 => sv (vaP rfl) <| WL.nil <| WX.thenN <| WC.ret <| WX.ret1 rfl (b3) (trivial) rfl (fun w h => pdisk_mk (l := []) Rep.new h.intro_emp.pk2.pk2)
theorem disk_up {w0 : World} {A : List HProp} {d : Nat} {st : DSt} : Fun Tryd.prog w0 31 [.pointer (some ⟨d, 0, none⟩)] (pdisk d st :: A) (Ret w0 (fun _ : Unit => True) (fun _ => .bool (!st.off)) (fun _ => pdisk d st :: A)) := by
  refine Fun.ex (fun w h => pdisk_open h) ?_
  rintro ⟨m, l⟩ hl
  dsimp only at hl ⊢
  refine Fun.enter Tryd.func31 rfl Tryd.ntmps31 rfl ?_
  refine WC.seq <| WC.region <| sv (vaB rfl) <| WL.nil <| WX.thenN <| ?_
  refine WC.cut0 [(2, .bool (!st.off))] [] (cel d (dcells m st) 60 :: mp .string m (ents l) :: pfiles l :: A) trivial ?_ fun ρh => ?_
  · -- disk.go:159
    exact WC.region <| sv (vmP rfl) <| sv (vpneT Tryd.underlying31 rfl rfl) <| sv (vmB rfl) <| svg rfl (vmP rfl) <| svg rfl (vnil rfl) <| svg rfl (vfld fl60f1 rfl) <| svg rfl (vldc pl4 rfl) <| svg rfl (vnot rfl) <| sv (vpkt rfl) <| sv (vaB rfl) <| WL.nil <| WX.mid () trivial ⟨rfl, trivial⟩ trivial (fun _ h => h)
  exact WC.ret <| WX.ret1 rfl (()) (trivial) rfl (fun w h => pdisk_mk hl h)
end Go.Proofs.YthljpljbpbkkcaaDoor
