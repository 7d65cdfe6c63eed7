/-
  Layer 2's calls by what they come to; one file's story; the document's example.
-/
import Derived.Test.YthljpljbpbkkcaaDoorDiskCut
set_option linter.unusedVariables false
set_option linter.unusedSimpArgs false
set_option maxRecDepth 4000
namespace Go.Proofs.YthljpljbpbkkcaaDoor
open Go.Sl Go.RowKit

section
variable {w0 : World} {A : List HProp} {d : Nat} {st st' : DSt} {nm : ByteArray} {e : Int}
theorem disk_append_at {n ca : Nat} {ba : Option Addr} {b : List UInt8} [hR : Reads w0 A ba (u8s b)] (hs : nm.size ≤ 140737488351232) (hd : 0 ≤ st.deeds ∧ st.deeds + 1 ≤ 9223372036854775807) (hb : b.length ≤ 140737488351232) (hn : n = b.length) (h : appendS nm b st = (st', e)) :
    Fun Tryd.prog w0 55 [.pointer (some ⟨d, 0, none⟩), .string nm, .slice ba n ca] (pdisk d st :: A) (Ret w0 (fun _ : Unit => True) (fun _ => .int .i64 e) (fun _ => pdisk d st' :: A)) := by
  have := disk_append (w0 := w0) (A := A) (d := d) (ca := ca) (hR := hR) hs hd hb hn
  rw [h] at this; exact this
theorem disk_sync_at (hd : 0 ≤ st.deeds ∧ st.deeds + 1 ≤ 9223372036854775807) (h : syncS nm st = (st', e)) :
    Fun Tryd.prog w0 57 [.pointer (some ⟨d, 0, none⟩), .string nm] (pdisk d st :: A) (Ret w0 (fun _ : Unit => True) (fun _ => .int .i64 e) (fun _ => pdisk d st' :: A)) := by
  have := disk_sync (w0 := w0) (A := A) (d := d) (nm := nm) hd
  rw [h] at this; exact this
theorem disk_cut_at {n : Int} (hd : 0 ≤ st.deeds ∧ st.deeds + 1 ≤ 9223372036854775807) (h : cutS nm n st = (st', e)) :
    Fun Tryd.prog w0 35 [.pointer (some ⟨d, 0, none⟩), .string nm, .int .i64 n] (pdisk d st :: A) (Ret w0 (fun _ : Unit => True) (fun _ => .int .i64 e) (fun _ => pdisk d st' :: A)) := by
  have := disk_cut (w0 := w0) (A := A) (d := d) (nm := nm) (n := n) hd
  rw [h] at this; exact this
theorem disk_read_at {bs : List UInt8} (h : readS nm st = (bs, e)) :
    Fun Tryd.prog w0 33 [.pointer (some ⟨d, 0, none⟩), .string nm] (pdisk d st :: A)
      (Ret w0 (fun i : Option Addr × Nat => bs.length ≤ i.2) (fun i => .tuple #[.slice i.1 bs.length i.2, .int .i64 e]) (fun i => row i.1 i.2 1 5 (u8s bs) :: pdisk d st :: A)) := by
  have := disk_read (w0 := w0) (A := A) (d := d) (nm := nm) (st := st)
  rw [h] at this; exact this
theorem disk_off_at {keep : Int} : Fun Tryd.prog w0 69 [.pointer (some ⟨d, 0, none⟩), .int .i64 keep] (pdisk d st :: A) (Ret w0 (fun _ : Unit => True) (fun _ => .tuple #[]) (fun _ => pdisk d (offS keep st) :: A)) := by
  refine Fun.ex (fun w h => pdisk_open h) ?_
  rintro ⟨m, l⟩ hl
  exact disk_off hl
theorem disk_up_at {b : Bool} (h : st.off = b) : Fun Tryd.prog w0 31 [.pointer (some ⟨d, 0, none⟩)] (pdisk d st :: A) (Ret w0 (fun _ : Unit => True) (fun _ => .bool (!b)) (fun _ => pdisk d st :: A)) := h ▸ disk_up
end
/-- one file of a disk that is on and was not armed -/
structure One (st : DSt) (nm : ByteArray) (all : List UInt8) (safe : Nat) (n : Int) : Prop where
  off : st.off = false
  fuse : st.fuse = 0
  deeds : st.deeds = n
  file : st.files nm = some (all, safe)
section
variable {st : DSt} {nm : ByteArray} {all b : List UInt8} {safe : Nat} {n : Int}
theorem One.append0 (ho : st.off = false) (hf : st.fuse = 0) (hd : st.deeds = n) (hV : (st.files nm).getD ([], 0) = (all, safe)) (hn : okName nm) (hb : all.length + b.length ≤ 16777216) :
    ∃ st', appendS nm b st = (st', 0) ∧ One st' nm (all ++ b) safe (n + 1) := by
  have hk := appendS_eq (b := b) ho hn (V := (all ++ b, safe)) (n := all.length + b.length) (by unfold appendV; rw [hV]) (by simp)
  rw [if_pos hb, if_neg (by rw [hf]; decide)] at hk
  exact ⟨_, hk, ho, by dsimp only; rw [hf]; rfl, by dsimp only; rw [hd], by simp [putV]⟩
theorem One.append (h : One st nm all safe n) (hn : okName nm) (hb : all.length + b.length ≤ 16777216) : ∃ st', appendS nm b st = (st', 0) ∧ One st' nm (all ++ b) safe (n + 1) :=
  One.append0 h.off h.fuse h.deeds (by rw [h.file]; rfl) hn hb
theorem One.sync (h : One st nm all safe n) : ∃ st', syncS nm st = (st', 0) ∧ One st' nm all all.length (n + 1) := by
  have := h.deeds
  have hk : syncS nm st = deedS (putV nm (all, all.length)) id st := by unfold syncS; rw [if_neg (by rw [h.off]; decide), h.file]
  unfold deedS at hk
  rw [if_neg (by rw [h.fuse]; decide)] at hk
  exact ⟨_, hk, h.off, by dsimp only; rw [h.fuse]; rfl, by dsimp only; rw [h.deeds], by simp [putV]⟩
theorem One.offon (h : One st nm all safe n) (keep : Int) : readS nm (offS keep st) = ([], 20) ∧ One { offS keep st with off := false } nm (all.take (keptOf keep (all, safe))) (keptOf keep (all, safe)) n := by
  have ho : ¬ st.off = true := by rw [h.off]; decide
  constructor
  · unfold readS offS; rw [if_neg ho]; simp
  · unfold offS; rw [if_neg ho]
    refine ⟨rfl, h.fuse, h.deeds, ?_⟩
    dsimp only
    rw [h.file]; rfl
/-- armed for the second deed from now on -/
theorem One.armed (h : One st nm all safe n) (hn : okName nm) (hb : all.length + b.length ≤ 16777216) : ∃ st1 st2, appendS nm b { st with fuse := max 2 0, keep := 0 } = (st1, 0) ∧ st1.deeds = n + 1 ∧ syncS nm st1 = (st2, 20) ∧ st2.off = true ∧ st2.deeds = n + 2 := by
  have hk := appendS_eq (b := b) (st := { st with fuse := max 2 0, keep := 0 }) h.off hn (V := (all ++ b, safe)) (n := all.length + b.length) (by unfold appendV; dsimp only; rw [h.file]; rfl) (by simp)
  rw [if_pos hb, if_neg (by dsimp only; decide)] at hk
  have ho : ¬ st.off = true := by rw [h.off]; decide
  obtain ⟨st1, hst⟩ : ∃ st1, st1 = ({ st with fuse := 1, keep := 0, deeds := st.deeds + 1, files := putV nm (all ++ b, safe) st.files } : DSt) := ⟨_, rfl⟩
  have hk' : appendS nm b { st with fuse := max 2 0, keep := 0 } = (st1, 0) := by rw [hk, hst]; rfl
  have hs : syncS nm st1 = deedS (putV nm (all ++ b, (all ++ b).length)) id st1 := by unfold syncS; rw [if_neg (by rw [hst]; exact ho)]; rw [hst]; simp [putV]
  unfold deedS at hs
  rw [if_pos (by rw [hst]; rfl)] at hs
  refine ⟨_, _, hk', by rw [hst]; dsimp only; rw [h.deeds], hs, ?_, ?_⟩
  · unfold offS; rw [if_neg (by dsimp only; rw [hst]; exact ho)]
  · unfold offS; rw [if_neg (by dsimp only; rw [hst]; exact ho)]; dsimp only; rw [hst]; dsimp only; rw [h.deeds]; omega
theorem One.read (h : One st nm all safe n) : readS nm st = (all, 0) := by
  unfold readS; rw [if_neg (by rw [h.off]; decide), h.file]
end
end Go.Proofs.YthljpljbpbkkcaaDoor
