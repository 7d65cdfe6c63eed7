/-
  Layer 3: records added under a fuse; what is found behind a cut of the power.
-/
import Derived.Test.YtephlppgappcnaaJournalLawC
set_option linter.unusedVariables false
set_option linter.unusedSimpArgs false
namespace Go.Proofs.Ytephlppgappcnaa
open Go.Sl Go.Pack Go.Journal

/-- a disk that is on, of any fuse; all of a file's bytes are safe -/
structure Fz (st : DSt) (nm : ByteArray) (all : List UInt8) (n : Int) : Prop where
  off : st.off = false
  fuse : 0 ≤ st.fuse ∧ st.fuse ≤ 9223372036854775807
  deeds : 0 ≤ st.deeds ∧ st.deeds ≤ n
  file : (st.files nm).getD ([], 0) = (all, all.length)
/-- the power has failed: of a file these bytes are there, all safe -/
structure Fd (st : DSt) (nm : ByteArray) (all : List UInt8) (n : Int) : Prop where
  off : st.off = true
  fuse : st.fuse = 0
  deeds : 0 ≤ st.deeds ∧ st.deeds ≤ n
  file : st.files nm = some (all, all.length)
section
variable {st : DSt} {nm : ByteArray} {all b : List UInt8} {n : Int}
theorem off_put {st : DSt} {nm : ByteArray} {V : List UInt8 × Nat} {keep : Int} (h1 : st.off = false) (h2 : st.files nm = some V) (hs : V.2 ≤ V.1.length) : (offS keep st).off = true ∧ (offS keep st).fuse = st.fuse ∧ (offS keep st).deeds = st.deeds ∧ ∃ K, V.2 ≤ K ∧ K ≤ V.1.length ∧ (offS keep st).files nm = some (V.1.take K, (V.1.take K).length) := by
  have hk : V.2 ≤ keptOf keep V ∧ keptOf keep V ≤ V.1.length := by unfold keptOf; omega
  unfold offS
  rw [if_neg (by rw [h1]; decide)]
  refine ⟨rfl, rfl, rfl, keptOf keep V, hk.1, hk.2, ?_⟩
  dsimp only
  rw [h2]
  show some (offV keep V) = _
  unfold offV
  rw [List.length_take, Nat.min_eq_left hk.2]
theorem deedS_eq {f g} (st : DSt) : deedS f g st = if st.fuse - 1 = 0 then (offS st.keep { st with deeds := st.deeds + 1, fuse := 0, files := g st.files }, 20) else ({ st with deeds := st.deeds + 1, fuse := max (st.fuse - 1) 0, files := f st.files }, 0) := rfl
theorem Fz.add (h : Fz st nm all n) (hn : okName nm) (hb : all.length + (b.length + 8) ≤ 16777216) :
    (∃ st', addP nm b st = (st', 0) ∧ Fz st' nm (all ++ frameB b) (n + 2)) ∨
    (∃ st' K, addP nm b st = (st', 20) ∧ all.length ≤ K ∧ K ≤ (all ++ frameB b).length ∧ Fd st' nm ((all ++ frameB b).take K) (n + 2)) := by
  have hfl : (all ++ frameB b).length = all.length + (b.length + 8) := by rw [List.length_append, frameB_len]
  have ha := appendS_eq (b := frameB b) h.off hn (V := (all ++ frameB b, all.length)) (n := all.length + (b.length + 8)) (by unfold appendV; rw [h.file]) hfl
  rw [if_pos hb] at ha
  have hu := h.fuse
  have hd := h.deeds
  by_cases h1 : st.fuse - 1 = 0
  · rw [if_pos h1] at ha
    obtain ⟨g1, g2, g3, K, g4, g5, g6⟩ := off_put (st := { st with deeds := st.deeds + 1, fuse := 0, files := putV nm (all ++ frameB b, all.length) st.files }) (nm := nm) (V := (all ++ frameB b, all.length)) (keep := st.keep) h.off (by simp [putV]) (by dsimp only; omega)
    refine .inr ⟨_, K, ?_, g4, g5, ⟨g1, g2, by rw [g3]; dsimp only; omega, g6⟩⟩
    unfold addP; rw [ha, if_neg (show ¬ (20 : Int) = 0 by decide)]
  · rw [if_neg h1] at ha
    have hs : syncS nm { st with deeds := st.deeds + 1, fuse := max (st.fuse - 1) 0, files := putV nm (all ++ frameB b, all.length) st.files } = deedS (putV nm (all ++ frameB b, (all ++ frameB b).length)) id { st with deeds := st.deeds + 1, fuse := max (st.fuse - 1) 0, files := putV nm (all ++ frameB b, all.length) st.files } := by
      unfold syncS
      rw [if_neg (by dsimp only; rw [h.off]; decide)]
      simp [putV]
    rw [deedS_eq] at hs
    have hp : addP nm b st = syncS nm { st with deeds := st.deeds + 1, fuse := max (st.fuse - 1) 0, files := putV nm (all ++ frameB b, all.length) st.files } := by
      unfold addP; rw [ha, if_pos rfl]
    by_cases h2 : max (st.fuse - 1) 0 - 1 = 0
    · rw [if_pos h2] at hs
      obtain ⟨g1, g2, g3, K, g4, g5, g6⟩ := off_put (st := { st with deeds := st.deeds + 1 + 1, fuse := 0, files := putV nm (all ++ frameB b, all.length) st.files }) (nm := nm) (V := (all ++ frameB b, all.length)) (keep := st.keep) h.off (by simp [putV]) (by dsimp only; omega)
      have key : ∀ x : Int, x = st.deeds + 1 + 1 → 0 ≤ x ∧ x ≤ n + 2 := fun x hx => by omega
      exact .inr ⟨_, K, hp.trans hs, g4, g5, ⟨g1, g2, key _ g3, g6⟩⟩
    · rw [if_neg h2] at hs
      refine .inl ⟨_, hp.trans hs, ⟨h.off, by dsimp only; omega, by dsimp only; omega, ?_⟩⟩
      simp [putV]
theorem Fd.on (h : Fd st nm all n) (f : Int) (hf : 0 ≤ f ∧ f ≤ 9223372036854775807) : Fz { { st with off := false } with fuse := f, keep := 0 } nm all n := ⟨rfl, hf, h.deeds, by dsimp only; rw [h.file]; rfl⟩
theorem Fz.on (h : Fz st nm all n) (f : Int) (hf : 0 ≤ f ∧ f ≤ 9223372036854775807) : Fz { { st with off := false } with fuse := f, keep := 0 } nm all n := ⟨rfl, hf, h.deeds, h.file⟩
theorem Fz.read (h : Fz st nm all n) : (readS nm st).1 = all := by
  have := h.file
  unfold readS
  rw [if_neg (by rw [h.off]; decide)]
  cases hf : st.files nm with
  | none => rw [hf] at this; exact (congrArg Prod.fst this)
  | some v => rw [hf] at this; exact (congrArg Prod.fst this)
theorem Fz.open_ (h : Fz st nm all n) (hn : okName nm) :
    (∃ st', openS nm st = (st', 0) ∧ Fz st' nm (flat (recsB all).1) (n + 1)) ∨ (∃ st', openS nm st = (st', 20) ∧ Fd st' nm all (n + 1)) := by
  have hw := recsB_whole all
  have hlen := congrArg List.length hw
  rw [List.length_append] at hlen
  have hd := h.deeds
  have hu := h.fuse
  unfold openS
  rw [if_neg (by rw [h.off]; decide), if_neg (by simpa using hn), h.read]
  by_cases hr : (recsB all).2 = []
  · rw [if_pos hr]
    rw [hr, List.append_nil] at hw
    exact .inl ⟨st, rfl, by rw [hw]; exact ⟨h.off, h.fuse, by omega, h.file⟩⟩
  · rw [if_neg hr]
    have hne : all ≠ [] := by rintro rfl; exact hr (by rw [recsB_nil])
    have hs : st.files nm = some (all, all.length) := by
      have := h.file
      cases hf : st.files nm with
      | none => rw [hf] at this; exact absurd (congrArg Prod.fst this).symm hne
      | some v => rw [hf] at this; exact congrArg some this
    have hk : ((all.length : Int) - ((recsB all).2.length : Int)).toNat = (flat (recsB all).1).length := by omega
    have ht : all.take (flat (recsB all).1).length = flat (recsB all).1 := by
      conv => lhs; rw [← hw]
      exact List.take_left' (by rw [hw])
    have hc : cutS nm ((all.length : Int) - ((recsB all).2.length : Int)) st = deedS (putV nm (flat (recsB all).1, (flat (recsB all).1).length)) id st := by
      unfold cutS
      rw [if_neg (by rw [h.off]; decide), hs]
      dsimp only
      rw [if_neg (by omega), hk, ht, Nat.min_eq_right (by omega)]
    rw [hc, deedS_eq]
    by_cases h1 : st.fuse - 1 = 0
    · rw [if_pos h1]
      obtain ⟨g1, g2, g3, K, g4, g5, g6⟩ := off_put (st := { st with deeds := st.deeds + 1, fuse := 0, files := id st.files }) (nm := nm) (V := (all, all.length)) (keep := st.keep) h.off hs (Nat.le_refl _)
      dsimp only at g4 g5 g6
      have hK : K = all.length := by omega
      rw [hK, List.take_length] at g6
      exact .inr ⟨_, rfl, ⟨g1, g2, by rw [g3]; dsimp only; omega, g6⟩⟩
    · rw [if_neg h1]
      refine .inl ⟨_, rfl, ⟨h.off, by dsimp only; omega, by dsimp only; omega, ?_⟩⟩
      simp [putV]
end
/-- what is found: all records, and at most the one that was under way, whole -/
theorem found {rs : List (List UInt8)} {r : List UInt8} (hs : ∀ x ∈ rs, x.length ≤ 1048576) (hr : r.length ≤ 1048576) {K : Nat} (h1 : (flat rs).length ≤ K) (h2 : K ≤ (flat rs ++ frameB r).length) :
    (recsB ((flat rs ++ frameB r).take K)).1 = rs ∨ (recsB ((flat rs ++ frameB r).take K)).1 = rs ++ [r] := by
  have e : (flat rs ++ frameB r).take K = flat rs ++ (frameB r).take (K - (flat rs).length) := by
    rw [List.take_append, List.take_of_length_le h1]
  rw [e, recsB_flat rs _ hs]
  obtain ⟨m, hm⟩ : ∃ m, m = K - (flat rs).length := ⟨_, rfl⟩
  rw [← hm]
  have hml : m ≤ (frameB r).length := by rw [List.length_append] at h2; omega
  by_cases hw : m = (frameB r).length
  · refine .inr ?_
    have := recsB_frame hr []
    rw [List.append_nil, recsB_nil] at this
    rw [hw, List.take_length, this]
  · refine .inl ?_
    have hn : nextB ((frameB r).take m) = none := by
      have hfl := frame_length r
      have hl : ((frameB r).take m).length = m := by rw [List.length_take]; omega
      unfold nextB
      rw [hl]
      by_cases h8 : m < 8
      · rw [if_pos h8]
      · rw [if_neg h8]
        have hnum : num4 ((frameB r).take m) = r.length := by
          have e1 : frameB r = le4 r.length ++ (le4 (sum (le4 r.length ++ r)) ++ r) := by simp [frameB]
          rw [e1, List.take_append, List.take_of_length_le (by rw [le4_length]; omega)]
          exact num4_le4 (by omega) _
        rw [hnum, if_pos (by omega)]
    rw [recsB_none hn, List.append_nil]
theorem newD_fz : Fz newD nmJ [] 0 := ⟨rfl, by simp [newD], by simp [newD], rfl⟩
theorem open_new : openS nmJ newD = (newD, 0) := by
  have h1 : readS nmJ newD = ([], 21) := rfl
  unfold openS
  rw [if_neg (by decide), if_neg (fun h => h nmJ_ok), h1]
  dsimp only
  rw [recsB_nil, if_pos rfl]
end Go.Proofs.Ytephlppgappcnaa
