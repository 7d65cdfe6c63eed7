/-
  Layer 19: what calls leave of a node.
-/
import Derived.Test.YtekoilhjlofncaaRaftInv
set_option linter.unusedVariables false
set_option linter.unusedSimpArgs false
namespace Go.Raft

/-- who it is stays; it waited at most one more -/
def Kin (x y : Rn) : Prop := y.id = x.id ∧ y.n = x.n ∧ (y.waited ≤ x.waited ∨ y.waited ≤ 0)
theorem Kin.rfl' {x : Rn} : Kin x x := ⟨rfl, rfl, .inl (Int.le_refl _)⟩
theorem Kin.trans {x y z : Rn} (h : Kin x y) (k : Kin y z) : Kin x z := ⟨k.1.trans h.1, k.2.1.trans h.2.1, by rcases h.2.2 with a | a <;> rcases k.2.2 with b | b <;> omega⟩
theorem Kin.more {x y : Rn} (h : Kin x y) : y.id = x.id ∧ y.n = x.n ∧ (y.waited ≤ x.waited + 1 ∨ y.waited ≤ 0) := ⟨h.1, h.2.1, by rcases h.2.2 with a | a; exact .inl (by omega); exact .inr a⟩
theorem Kin.lead (x : Rn) : Kin x (leadS x).1 := by
  unfold leadS
  split
  · split <;> exact ⟨rfl, rfl, .inl (Int.le_refl _)⟩
  · exact Kin.rfl'
theorem Kin.step (x : Rn) (m : Ml) : Kin x (stepS m x) := by
  unfold stepS
  split
  · exact ⟨rfl, rfl, .inl (Int.le_refl _)⟩
  · exact Kin.rfl'
theorem Kin.fed (x : Rn) (m : Ml) : Kin x (fedS x m).1 := by
  unfold fedS
  split
  · exact Kin.rfl'
  · split
    · exact Kin.rfl'
    · split
      · exact ⟨rfl, rfl, .inr (Int.le_refl _)⟩
      · split
        · exact ⟨rfl, rfl, .inr (Int.le_refl _)⟩
        · exact ⟨rfl, rfl, .inr (Int.le_refl _)⟩
theorem Kin.answered (x : Rn) (m : Ml) : Kin x (answeredS x m).1 := by
  unfold answeredS
  split
  · exact Kin.rfl'
  · split
    · exact ⟨rfl, rfl, .inl (Int.le_refl _)⟩
    · dsimp only
      split <;> exact ⟨rfl, rfl, .inl (Int.le_refl _)⟩
theorem Kin.take (x : Rn) (m : Ml) : Kin x (takeS x m).1 := by
  unfold takeS
  split
  · split
    · refine (Kin.step x m).trans ?_
      unfold askedS
      show Kin _ (if voteOk (stepS m x) m then { stepS m x with vote := m.fr, waited := 0 } else stepS m x)
      split
      · exact ⟨rfl, rfl, .inr (Int.le_refl _)⟩
      · exact Kin.rfl'
    · split
      · refine (Kin.step x m).trans ?_
        unfold votesS
        split
        · exact Kin.rfl'
        · exact (show Kin (stepS m x) (votedS m.fr (stepS m x)) from ⟨rfl, rfl, .inl (Int.le_refl _)⟩).trans (Kin.lead _)
      · split
        · exact (Kin.step x m).trans (Kin.fed _ _)
        · exact (Kin.step x m).trans (Kin.answered _ _)
  · exact Kin.rfl'
theorem Kin.propose (x : Rn) (d : ByteArray) : Kin x (proposeS x d).1 := ⟨rfl, rfl, .inl (Int.le_refl _)⟩
theorem tick_id (x : Rn) : (tickS x).1.id = x.id ∧ (tickS x).1.n = x.n ∧ ((tickS x).1.waited ≤ x.waited + 1 ∨ (tickS x).1.waited ≤ 0) := by
  unfold tickS
  split
  · split
    · exact ⟨rfl, rfl, .inl (by show x.waited ≤ x.waited + 1; omega)⟩
    · exact ⟨rfl, rfl, .inl (by show x.waited ≤ x.waited + 1; omega)⟩
  · split
    · exact ⟨rfl, rfl, .inl (Int.le_refl _)⟩
    · split
      · have h := Kin.lead (runS x)
        refine ⟨h.1, h.2.1, .inr ?_⟩
        rcases h.2.2 with a | a
        · exact a
        · exact a
      · exact ⟨rfl, rfl, .inr (Int.le_refl _)⟩
/-- a node as it lasts -/
def againS (x : Rn) : Rn := newR x.id x.n x.term x.vote x.log
theorem RInv.stable {x : Rn} (hx : RInv x) : 1 ≤ x.n ∧ x.n ≤ 5 ∧ 1 ≤ x.id ∧ x.id ≤ x.n ∧ mayS x.n x.term x.vote x.log :=
  ⟨hx.n.1, hx.n.2, hx.id.1, hx.id.2, hx.term.1, hx.term.2, hx.vote.1, hx.vote.2, hx.log, hx.rise⟩
end Go.Raft
