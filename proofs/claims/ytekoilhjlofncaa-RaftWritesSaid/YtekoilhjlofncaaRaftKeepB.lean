/-
  Layer 19: what a node's terms, votes and committed cells do, call by call.
-/
import Derived.Test.YtekoilhjlofncaaRaftKeep
set_option linter.unusedVariables false
set_option linter.unusedSimpArgs false
namespace Go.Raft

structure Kp (x y : Rn) : Prop where
  term : x.term ≤ y.term
  vote : y.term = x.term → x.vote ≠ 0 → y.vote = x.vote
  commit : x.commit ≤ y.commit
  log : y.log.take x.commit.toNat = x.log.take x.commit.toNat
theorem Kp.refl (x : Rn) : Kp x x := ⟨Int.le_refl _, fun _ _ => rfl, Int.le_refl _, rfl⟩
theorem Kp.trans {x y z : Rn} (h : Kp x y) (k : Kp y z) : Kp x z :=
  ⟨Int.le_trans h.term k.term, fun e hv => by
    have h1 := h.term
    have h2 := k.term
    have e1 : y.term = x.term := by omega
    have e2 : z.term = y.term := by omega
    have v1 := h.vote e1 hv
    rw [← v1]; exact k.vote e2 (by rw [v1]; exact hv), Int.le_trans h.commit k.commit, by
    have h1 := congrArg (List.take x.commit.toNat) k.log
    have h2 := h.commit
    rw [List.take_take, List.take_take, Nat.min_eq_left (by omega)] at h1
    rw [h1]; exact h.log⟩
theorem Kp.same {x y : Rn} (h1 : y.term = x.term) (h2 : y.vote = x.vote) (h3 : y.commit = x.commit) (h4 : y.log = x.log) : Kp x y := ⟨by omega, fun _ _ => h2, by omega, by rw [h4]⟩
theorem Kp.count {x : Rn} (h : 0 ≤ x.commit) : Kp x (countS x) := ⟨Int.le_refl _, fun _ _ => rfl, (countP_bound h (p := x.log.length) (.inr trivial)).1, rfl⟩
theorem Kp.add {x : Rn} {d : ByteArray} (h : x.commit ≤ x.log.length) : Kp x (addS d x) := ⟨Int.le_refl _, fun _ _ => rfl, Int.le_refl _, by
  show (x.log ++ ([⟨x.term, d⟩] : List Cl)).take _ = _
  rw [List.take_append_of_le_length (by omega)]⟩
theorem Kp.feedAll (x : Rn) : Kp x (feedAllS x).1 := .same rfl rfl rfl rfl
theorem Kp.lead {x : Rn} (h : 0 ≤ x.commit ∧ x.commit ≤ x.log.length) : Kp x (leadS x).1 := by
  unfold leadS
  split
  · have h1 : Kp x (leaderS x) := Kp.same rfl rfl rfl rfl
    split
    · exact (h1.trans (Kp.add (x := leaderS x) h.2)).trans ((Kp.count (x := addS ByteArray.empty (leaderS x)) h.1).trans (Kp.feedAll _))
    · exact h1.trans ((Kp.count (x := leaderS x) h.1).trans (Kp.feedAll _))
  · exact Kp.refl x
theorem Kp.tick {x : Rn} (hx : RInv x) : Kp x (tickS x).1 := by
  unfold tickS
  split
  · split
    · exact Kp.same rfl rfl rfl rfl
    · exact Kp.same rfl rfl rfl rfl
  · split
    · exact Kp.same rfl rfl rfl rfl
    · have h1 : Kp x (runS x) := ⟨by show x.term ≤ x.term + 1; omega, fun e => absurd e (by show ¬ x.term + 1 = x.term; omega), Int.le_refl _, rfl⟩
      split
      · exact h1.trans (Kp.lead hx.commit)
      · exact h1
theorem Kp.step (x : Rn) (m : Ml) : Kp x (stepS m x) := by
  unfold stepS
  split
  · rename_i h
    exact ⟨by show x.term ≤ m.term; omega, fun e => absurd e (by show ¬ m.term = x.term; omega), Int.le_refl _, rfl⟩
  · exact Kp.refl x
theorem Kp.asked (x : Rn) (m : Ml) : Kp x (askedS x m).1 := by
  unfold askedS
  show Kp x (if voteOk x m then { x with vote := m.fr, waited := 0 } else x)
  split
  · rename_i h
    refine ⟨Int.le_refl _, fun _ hv => ?_, Int.le_refl _, rfl⟩
    rcases h.2.1 with h1 | h1
    · exact absurd h1 hv
    · exact h1.symm
  · exact Kp.refl x
theorem Kp.votes {x : Rn} {m : Ml} (hx : RInv x) : Kp x (votesS x m).1 := by
  unfold votesS
  split
  · exact Kp.refl x
  · exact (show Kp x (votedS m.fr x) from Kp.same rfl rfl rfl rfl).trans (Kp.lead (x := votedS m.fr x) hx.commit)
theorem fed_facts {x : Rn} {m : Ml} (hx : RInv x) (hm : mailOk x.id x.n m) (hk : m.kind = 3) : 0 ≤ m.prev ∧ m.prev ≤ m.term ∧ 0 ≤ m.commit ∧ m.cells.length ≤ 8 ∧ m.index + m.cells.length ≤ 10000 ∧ rises m.cells m.prev m.term = true := by
  rcases hm.2 with h | h | ⟨_, a, b, c, d⟩
  · omega
  · omega
  · have := d hk; exact ⟨a, b, this.1, this.2.2.1, this.2.2.2.1, this.2.2.2.2⟩
theorem Kp.fed {x : Rn} {m : Ml} (hx : RInv x) (hm : mailOk x.id x.n m) (hk : m.kind = 3) (ht : m.term ≤ x.term) : Kp x (fedS x m).1 := by
  have hcs := fed_facts hx hm hk
  have hidx := hm.1.2.2.2.2.2.2.1
  unfold fedS
  split
  · exact Kp.refl x
  · split
    · exact Kp.refl x
    · split
      · exact Kp.same rfl rfl rfl rfl
      · rename_i h2 h3 h4
        have h4' : m.index ≤ x.log.length ∧ atT x.log m.index = m.prev := ⟨by omega, Decidable.not_not.1 fun h => h4 (.inr h)⟩
        obtain ⟨p, hp⟩ : ∃ p : Nat, m.index = p := ⟨m.index.toNat, by omega⟩
        split
        · exact Kp.same rfl rfl rfl rfl
        · rename_i log' hmg
          rw [hp] at hmg h4'
          have hs := mergeS_spec (prev := m.prev) hx.rise (by omega) h4'.2 (rises_more hcs.2.2.2.2.2 (by omega : m.term ≤ x.term)) hx.commit.1 hmg
          exact ⟨Int.le_refl _, fun _ _ => rfl, by show x.commit ≤ max x.commit _; omega, hs.2.2.1⟩
theorem Kp.answered {x : Rn} {m : Ml} (hx : RInv x) : Kp x (answeredS x m).1 := by
  unfold answeredS
  split
  · exact Kp.refl x
  · split
    · exact Kp.same rfl rfl rfl rfl
    · dsimp only
      have h1 : Kp x { x with mt := upd x.mt m.fr (max (x.mt m.fr) m.index), nx := upd x.nx m.fr (max (x.mt m.fr) m.index + 1) } := Kp.same rfl rfl rfl rfl
      split
      · exact h1.trans (Kp.count (x := { x with mt := upd x.mt m.fr (max (x.mt m.fr) m.index), nx := upd x.nx m.fr (max (x.mt m.fr) m.index + 1) }) hx.commit.1)
      · exact h1.trans (Kp.count (x := { x with mt := upd x.mt m.fr (max (x.mt m.fr) m.index), nx := upd x.nx m.fr (max (x.mt m.fr) m.index + 1) }) hx.commit.1)
theorem Kp.take {x : Rn} {m : Ml} (hx : RInv x) : Kp x (takeS x m).1 := by
  unfold takeS
  split
  · rename_i hm
    have h1 := hx.step hm
    have hm2 : mailOk (stepS m x).id (stepS m x).n m := by rw [stepS_idn.1, stepS_idn.2]; exact hm
    refine (Kp.step x m).trans ?_
    split
    · exact Kp.asked _ _
    · split
      · exact Kp.votes h1
      · split
        · rename_i h3; exact Kp.fed h1 hm2 h3 stepS_term
        · exact Kp.answered h1
  · exact Kp.refl x
theorem Kp.propose {x : Rn} {d : ByteArray} (hx : RInv x) : Kp x (proposeS x d).1 := (Kp.add hx.commit.2).trans ((Kp.count (x := addS d x) hx.commit.1).trans (Kp.feedAll _))
/-- who leads knows it, and no one else thinks it leads -/
def Ld (x : Rn) : Prop := x.role = 2 ↔ x.leader = x.id
theorem Ld.lead {x : Rn} (h : Ld x) : Ld (leadS x).1 := by
  unfold leadS
  split
  · split <;> exact ⟨fun _ => rfl, fun _ => rfl⟩
  · exact h
theorem Ld.tick {x : Rn} (hx : RInv x) (h : Ld x) : Ld (tickS x).1 := by
  have hid := hx.id
  unfold tickS
  split
  · split
    · exact h
    · exact h
  · split
    · exact h
    · have h1 : Ld (runS x) := ⟨fun e => absurd e (by show ¬ (1 : Int) = 2; decide), fun e => absurd e (by show ¬ (0 : Int) = x.id; omega)⟩
      split
      · exact h1.lead
      · exact h1
theorem Ld.take {x : Rn} {m : Ml} (hx : RInv x) (h : Ld x) : Ld (takeS x m).1 := by
  have hid := hx.id
  unfold takeS
  split
  · rename_i hm
    have h1 : Ld (stepS m x) := by
      unfold stepS
      split
      · exact ⟨fun e => absurd e (by show ¬ (0 : Int) = 2; decide), fun e => absurd e (by show ¬ (0 : Int) = x.id; omega)⟩
      · exact h
    have hfr : m.fr ≠ (stepS m x).id := by rw [stepS_idn.1]; exact hm.1.2.2.1
    split
    · unfold askedS
      show Ld (if voteOk (stepS m x) m then { stepS m x with vote := m.fr, waited := 0 } else stepS m x)
      split
      · exact h1
      · exact h1
    · split
      · unfold votesS
        split
        · exact h1
        · exact (show Ld (votedS m.fr (stepS m x)) from h1).lead
      · have hf : ∀ y : Rn, y.role = 0 → y.leader = m.fr → y.id = (stepS m x).id → Ld y := fun y a b c => ⟨fun e => by omega, fun e => by omega⟩
        split
        · unfold fedS
          split
          · exact h1
          · split
            · exact h1
            · split
              · exact hf _ rfl rfl rfl
              · split
                · exact hf _ rfl rfl rfl
                · exact hf _ rfl rfl rfl
        · unfold answeredS
          split
          · exact h1
          · split
            · exact h1
            · dsimp only
              split
              · exact h1
              · exact h1
  · exact h
theorem Ld.new {id n t v : Int} {l : List Cl} (h : 1 ≤ id) : Ld (newR id n t v l) := ⟨fun e => absurd e (by show ¬ (0 : Int) = 2; decide), fun e => absurd e (by show ¬ (0 : Int) = id; omega)⟩
end Go.Raft
