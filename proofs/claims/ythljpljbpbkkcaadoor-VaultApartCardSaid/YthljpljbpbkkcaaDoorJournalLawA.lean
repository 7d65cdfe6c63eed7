/-
  Layer 3: a journal's file's story; lists of records held against one another.
-/
import Derived.Test.YthljpljbpbkkcaaDoorJournalOpen
import Derived.Test.YthljpljbpbkkcaaDoorJournalPureC
set_option linter.unusedVariables false
set_option linter.unusedSimpArgs false
set_option maxRecDepth 4000
namespace Go.Proofs.YthljpljbpbkkcaaDoor
open Go.Sl Go.RowKit Go.Pack Go.Journal

/-- a disk that is on and was not armed; one file's bytes (none: none) -/
structure Fl (st : DSt) (nm : ByteArray) (all : List UInt8) (n : Int) : Prop where
  off : st.off = false
  fuse : st.fuse = 0
  deeds : st.deeds = n
  file : ((st.files nm).getD ([], 0)).1 = all
section
variable {st : DSt} {nm : ByteArray} {all b : List UInt8} {n : Int}
theorem Fl.new : Fl newD nm [] 0 := ⟨rfl, rfl, rfl, rfl⟩
theorem Fl.append (h : Fl st nm all n) (hn : okName nm) (hb : all.length + b.length ≤ 16777216) : ∃ st', appendS nm b st = (st', 0) ∧ Fl st' nm (all ++ b) (n + 1) ∧ (st'.files nm).isSome = true := by
  obtain ⟨st', e, o⟩ := One.append0 (st := st) (nm := nm) (all := all) (safe := ((st.files nm).getD ([], 0)).2) (b := b) h.off h.fuse h.deeds (by rw [← h.file]) hn hb
  exact ⟨st', e, ⟨o.off, o.fuse, o.deeds, by rw [o.file]; rfl⟩, by rw [o.file]; rfl⟩
theorem Fl.one (h : Fl st nm all n) (hs : (st.files nm).isSome = true) : ∃ safe, One st nm all safe n := by
  obtain ⟨v, hv⟩ := Option.isSome_iff_exists.1 hs
  have := h.file
  rw [hv] at this
  exact ⟨v.2, h.off, h.fuse, h.deeds, by rw [hv, ← this]; rfl⟩
theorem One.fl {safe : Nat} (h : One st nm all safe n) : Fl st nm all n := ⟨h.off, h.fuse, h.deeds, by rw [h.file]; rfl⟩
theorem Fl.add (h : Fl st nm all n) (hn : okName nm) (hb : all.length + (b.length + 8) ≤ 16777216) : ∃ st', addP nm b st = (st', 0) ∧ Fl st' nm (all ++ frameB b) (n + 1 + 1) ∧ (st'.files nm).isSome = true := by
  obtain ⟨s1, e1, f1, i1⟩ := h.append (b := frameB b) hn (by rw [frameB_len]; exact hb)
  obtain ⟨sf, o1⟩ := f1.one i1
  obtain ⟨s2, e2, o2⟩ := o1.sync
  refine ⟨s2, ?_, o2.fl, by rw [o2.file]; rfl⟩
  unfold addP
  rw [e1, if_pos rfl, e2]
theorem One.cut {safe : Nat} (h : One st nm all safe n) {k : Int} (hk : 0 ≤ k ∧ k ≤ all.length) : ∃ st', cutS nm k st = (st', 0) ∧ One st' nm (all.take k.toNat) (min safe k.toNat) (n + 1) := by
  have hk2 : cutS nm k st = deedS (putV nm (all.take k.toNat, min safe k.toNat)) id st := by unfold cutS; rw [if_neg (by rw [h.off]; decide), h.file]; dsimp only; rw [if_neg (by omega)]
  unfold deedS at hk2
  rw [if_neg (by rw [h.fuse]; decide)] at hk2
  exact ⟨_, hk2, h.off, by dsimp only; rw [h.fuse]; rfl, by dsimp only; rw [h.deeds], by simp [putV]⟩
theorem Fl.read (h : Fl st nm all n) : (readS nm st).1 = all := by
  unfold readS
  rw [if_neg (by rw [h.off]; decide), ← h.file]
  cases st.files nm <;> rfl
theorem Fl.open (h : Fl st nm all n) (hn : okName nm) : ∃ st' n', openS nm st = (st', 0) ∧ Fl st' nm (flat (recsB all).1) n' ∧ n ≤ n' ∧ n' ≤ n + 1 ∧ ((st.files nm).isSome = true → (st'.files nm).isSome = true) := by
  have hw := recsB_whole all
  have hlen := congrArg List.length hw
  rw [List.length_append] at hlen
  unfold openS
  rw [if_neg (by rw [h.off]; decide), if_neg (by simpa using hn), h.read]
  by_cases hr : (recsB all).2 = []
  · rw [if_pos hr]
    rw [hr, List.append_nil] at hw
    exact ⟨st, n, rfl, by rw [hw]; exact h, by omega, by omega, id⟩
  · rw [if_neg hr]
    have hne : all ≠ [] := by rintro rfl; exact hr (by rw [recsB_nil])
    have hs : (st.files nm).isSome = true := by
      cases hf : st.files nm with
      | none => have := h.file; rw [hf] at this; exact absurd this.symm hne
      | some v => rfl
    obtain ⟨safe, o⟩ := h.one hs
    obtain ⟨st', e, o'⟩ := o.cut (k := (all.length : Int) - ((recsB all).2.length : Int)) (by omega)
    have hk : ((all.length : Int) - ((recsB all).2.length : Int)).toNat = (flat (recsB all).1).length := by omega
    rw [hk] at o'
    have ht : all.take (flat (recsB all).1).length = flat (recsB all).1 := by
      conv => lhs; rw [← hw]
      exact List.take_left' (by rw [hw])
    rw [ht] at o'
    exact ⟨st', n + 1, e, o'.fl, by omega, by omega, fun _ => by rw [o'.file]; rfl⟩
end
end Go.Proofs.YthljpljbpbkkcaaDoor
