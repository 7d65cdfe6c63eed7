/-
  Layer 19: what stays true of a node, call by call.
-/
import Derived.Test.YtekoilhjlofncaaRaftPure
set_option linter.unusedVariables false
set_option linter.unusedSimpArgs false
namespace Go.Raft

theorem RInv.step {x : Rn} {m : Ml} (hx : RInv x) (hm : mailOk x.id x.n m) : RInv (stepS m x) := by
  unfold stepS
  split
  · rename_i h
    have h6 := hm.1
    exact ⟨hx.n, hx.id, ⟨by show 0 ≤ m.term; omega, by show m.term ≤ 1000000000; omega⟩, ⟨Int.le_refl _, by have := hx.n; show 0 ≤ x.n; omega⟩, hx.log, rises_more hx.rise (by show x.term ≤ m.term; omega), .inl rfl, fun h => absurd rfl h, hx.commit, hx.waited, hx.since, fun h => absurd h (by show ¬ (0 : Int) = 1; decide), fun h => absurd h (by show ¬ (0 : Int) = 2; decide)⟩
  · exact hx
theorem getLastD_mem {l : List Cl} {d : Cl} (h : l ≠ []) : l.getLastD d ∈ l := by
  cases l with
  | nil => exact absurd rfl h
  | cons a l => rw [List.getLastD_eq_getLast?, List.getLast?_eq_some_getLast (by simp)]; exact List.getLast_mem _
theorem rises_snoc {l : List Cl} {least most : Int} {c : Cl} (h : rises l least most = true) (hc : max least 1 ≤ c.term ∧ c.term = most ∧ c.data.size ≤ 4096) : rises (l ++ [c]) least most = true := by
  rw [rises_append]
  refine ⟨h, ?_⟩
  simp only [rises, Bool.and_true, decide_eq_true_eq]
  split
  · omega
  · rename_i hn
    have := rises_mem h _ (getLastD_mem (d := ⟨0, ByteArray.empty⟩) hn)
    omega
theorem RInv.add {x : Rn} {d : ByteArray} (hx : RInv x) (hr : x.role = 2) (hl : x.log.length < 10000) (hd : d.size ≤ 4096) : RInv (addS d x) := by
  have h1 := hx.lead (by omega)
  have e : (addS d x).log.length = x.log.length + 1 := by simp [addS]
  exact ⟨hx.n, hx.id, hx.term, hx.vote, by omega, rises_snoc hx.rise ⟨by show max 1 1 ≤ x.term; omega, rfl, hd⟩, hx.role, hx.lead, ⟨hx.commit.1, by have := hx.commit.2; show x.commit ≤ ((addS d x).log.length : Int); omega⟩, hx.waited, hx.since, hx.voted, fun h k => by
    have := hx.peers hr k
    exact ⟨this.1, this.2.1, by show x.nx k ≤ ((addS d x).log.length : Int) + 1; omega⟩⟩
theorem RInv.count {x : Rn} (hx : RInv x) : RInv (countS x) := by
  have h := countP_bound (x := x) hx.commit.1 (p := x.log.length) (.inr trivial)
  have hc := hx.commit
  exact ⟨hx.n, hx.id, hx.term, hx.vote, hx.log, hx.rise, hx.role, hx.lead, ⟨by show 0 ≤ countP x x.log.length; omega, by show countP x x.log.length ≤ (x.log.length : Int); omega⟩, hx.waited, hx.since, hx.voted, hx.peers⟩
theorem RInv.feedAll {x : Rn} (hx : RInv x) : RInv (feedAllS x).1 :=
  ⟨hx.n, hx.id, hx.term, hx.vote, hx.log, hx.rise, hx.role, hx.lead, hx.commit, hx.waited, ⟨Int.le_refl _, by show (0 : Int) ≤ 2; decide⟩, hx.voted, hx.peers⟩
theorem RInv.leader {x : Rn} (hx : RInv x) (hr : x.role = 1) : RInv (leaderS x) :=
  ⟨hx.n, hx.id, hx.term, hx.vote, hx.log, hx.rise, .inr (.inr rfl), fun _ => hx.lead (by omega), hx.commit, hx.waited, hx.since, fun h => absurd h (by show ¬ (2 : Int) = 1; decide), fun _ k => ⟨Int.le_refl _, by show (0 : Int) + 1 ≤ (x.log.length : Int) + 1; omega, Int.le_refl _⟩⟩
theorem RInv.leads {x : Rn} (hx : RInv x) (hr : x.role = 1) : RInv (leadS x).1 := by
  unfold leadS
  split
  · refine RInv.feedAll (RInv.count ?_)
    split
    · rename_i hl
      exact (hx.leader hr).add rfl hl (by decide)
    · exact hx.leader hr
  · exact hx
theorem RInv.run {x : Rn} (hx : RInv x) (ht : x.term ≠ 1000000000) : RInv (runS x) := by
  have h1 := hx.term
  have h2 := hx.id
  exact ⟨hx.n, hx.id, ⟨by show 0 ≤ x.term + 1; omega, by show x.term + 1 ≤ 1000000000; omega⟩, ⟨by show 0 ≤ x.id; omega, hx.id.2⟩, hx.log, rises_more hx.rise (by show x.term ≤ x.term + 1; omega), .inr (.inl rfl), fun _ => by show 1 ≤ x.term + 1; omega, hx.commit, Int.le_refl _, hx.since, fun _ => ⟨by simp [runS], fun k hk => by
    have : k = x.id := by simpa [runS] using hk
    rw [this]; exact hx.id⟩, fun h => absurd h (by show ¬ (1 : Int) = 2; decide)⟩
theorem RInv.since1 {x : Rn} (hx : RInv x) (hs : x.since + 1 < 3) : RInv { x with since := x.since + 1 } := by
  have h := hx.since
  exact ⟨hx.n, hx.id, hx.term, hx.vote, hx.log, hx.rise, hx.role, hx.lead, hx.commit, hx.waited, ⟨by show 0 ≤ x.since + 1; omega, by show x.since + 1 ≤ 2; omega⟩, hx.voted, hx.peers⟩
theorem RInv.tick {x : Rn} (hx : RInv x) : RInv (tickS x).1 := by
  unfold tickS
  split
  · split
    · rename_i h; exact hx.since1 h
    · exact ⟨hx.n, hx.id, hx.term, hx.vote, hx.log, hx.rise, hx.role, hx.lead, hx.commit, hx.waited, ⟨Int.le_refl _, by show (0 : Int) ≤ 2; decide⟩, hx.voted, hx.peers⟩
  · split
    · have h := hx.waited
      exact ⟨hx.n, hx.id, hx.term, hx.vote, hx.log, hx.rise, hx.role, hx.lead, hx.commit, by show 0 ≤ x.waited + 1; omega, hx.since, hx.voted, hx.peers⟩
    · rename_i h1 h2
      have h3 := hx.run (by omega)
      split
      · exact h3.leads rfl
      · exact h3
theorem RInv.asked {x : Rn} {m : Ml} (hx : RInv x) (hm : 1 ≤ m.fr ∧ m.fr ≤ x.n) : RInv (askedS x m).1 := by
  unfold askedS
  show RInv (if voteOk x m then { x with vote := m.fr, waited := 0 } else x)
  split
  · exact ⟨hx.n, hx.id, hx.term, ⟨by show 0 ≤ m.fr; omega, hm.2⟩, hx.log, hx.rise, hx.role, hx.lead, hx.commit, Int.le_refl _, hx.since, hx.voted, hx.peers⟩
  · exact hx
theorem RInv.votedS {x : Rn} {k : Int} (hx : RInv x) (hr : x.role = 1) (hk : 1 ≤ k ∧ k ≤ x.n) : RInv (votedS k x) :=
  ⟨hx.n, hx.id, hx.term, hx.vote, hx.log, hx.rise, hx.role, hx.lead, hx.commit, hx.waited, hx.since, fun h => by
    have h1 := hx.voted hr
    show (if k ∈ x.voted then x.voted else x.voted ++ [k]).Nodup ∧ _
    unfold Raft.votedS
    dsimp only
    split
    · exact h1
    · rename_i hn
      refine ⟨List.nodup_append.2 ⟨h1.1, by simp, ?_⟩, ?_⟩
      · intro a ha b hb hab
        have : b = k := by simpa using hb
        exact hn (this ▸ hab ▸ ha)
      · intro j hj
        rcases List.mem_append.1 hj with hj | hj
        · exact h1.2 j hj
        · have : j = k := by simpa using hj
          exact this ▸ hk, hx.peers⟩
theorem RInv.votes {x : Rn} {m : Ml} (hx : RInv x) (hm : 1 ≤ m.fr ∧ m.fr ≤ x.n) : RInv (votesS x m).1 := by
  unfold votesS
  split
  · exact hx
  · rename_i h
    have hr : x.role = 1 := by omega
    exact (hx.votedS hr hm).leads hr
theorem rises_take {l : List Cl} {least most : Int} (h : rises l least most = true) (k : Nat) : rises (l.take k) least most = true := by
  induction l generalizing least k with
  | nil => simp [rises]
  | cons d l ih =>
    cases k with
    | zero => rfl
    | succ k =>
      simp only [List.take_succ_cons, rises, Bool.and_eq_true, decide_eq_true_eq] at h ⊢
      exact ⟨h.1, ih h.2 k⟩
theorem getLastD_take {l : List Cl} {p : Nat} (hp : 0 < p) (hl : p ≤ l.length) (d : Cl) : (l.take p).getLastD d = l[p - 1] := by
  rw [List.getLastD_eq_getLast?, List.getLast?_eq_getElem?, List.length_take, Nat.min_eq_left hl, List.getElem?_take, if_pos (by omega), List.getElem?_eq_getElem (by omega)]; rfl
/-- a merge: it keeps what is committed and stays in order -/
theorem mergeS_spec {log log' : List Cl} {commit prev most : Int} : ∀ {cells : List Cl} {p : Nat}, rises log 1 most = true → p ≤ log.length → atT log p = prev → rises cells prev most = true → 0 ≤ commit →
    mergeS log commit p cells = some log' → rises log' 1 most = true ∧ (log' = log ∨ (commit ≤ log'.length ∧ log'.length ≤ p + cells.length)) ∧ log'.take commit.toNat = log.take commit.toNat ∧ (log' = log → p + cells.length ≤ log.length)
  | [], p, h, hp, _, _, _, hm => by
    have : log' = log := by simpa [mergeS] using hm.symm
    subst this
    exact ⟨h, .inl rfl, rfl, fun _ => by simpa using hp⟩
  | c :: l, p, h, hp, hpr, hc, h0, hm => by
    simp only [rises, Bool.and_eq_true, decide_eq_true_eq] at hc
    unfold mergeS at hm
    by_cases h1 : atT log ((p : Int) + 1) = c.term
    · rw [if_pos h1] at hm
      have hpl : p < log.length := by
        rcases Nat.lt_or_ge p log.length with h2 | h2
        · exact h2
        · rw [atT_zero (.inr (by omega))] at h1; omega
      have e : ((p : Int) + 1) = ((p + 1 : Nat) : Int) := rfl
      rw [e] at hm
      have := mergeS_spec (cells := l) (p := p + 1) (prev := c.term) h (by omega) h1 hc.2 h0 hm
      refine ⟨this.1, ?_, this.2.2.1, fun h => by have := this.2.2.2 h; simp only [List.length_cons]; omega⟩
      rcases this.2.1 with h3 | h3
      · exact .inl h3
      · refine .inr ⟨h3.1, ?_⟩; simp only [List.length_cons]; omega
    · rw [if_neg h1] at hm
      by_cases h2 : (p : Int) + 1 ≤ commit
      · rw [if_pos h2] at hm; cases hm
      · rw [if_neg h2, Int.toNat_natCast] at hm
        have hm : log' = log.take p ++ c :: l := by simpa using hm.symm
        subst hm
        have hlen : (log.take p ++ c :: l).length = p + (l.length + 1) := by simp; omega
        refine ⟨?_, .inr ⟨by rw [hlen]; omega, by rw [hlen]; simp⟩, ?_, fun he => ?_⟩
        · rw [rises_append]
          refine ⟨rises_take h p, ?_⟩
          simp only [rises, Bool.and_eq_true, decide_eq_true_eq]
          refine ⟨?_, hc.2⟩
          split
          · exact ⟨by omega, hc.1.2⟩
          · rename_i hne
            have hp0 : 0 < p := by
              rcases Nat.eq_zero_or_pos p with h3 | h3
              · subst h3; simp at hne
              · exact h3
            rw [getLastD_take hp0 hp]
            have e : atT log ((p : Nat) : Int) = log[p - 1].term := by
              have := atT_pos (l := log) (p := p - 1) (c := log[p - 1]) (List.getElem?_eq_getElem (by omega))
              rw [← this]; congr 1; omega
            rw [e] at hpr
            have := rises_mem h _ (List.getElem_mem (show p - 1 < log.length by omega))
            exact ⟨by omega, hc.1.2⟩
        · rw [List.take_append_of_le_length (by rw [List.length_take]; omega), List.take_take, Nat.min_eq_left (by omega)]
        · exfalso
          apply h1
          have hg : log[p]? = some c := by
            rw [← he]
            rw [List.getElem?_append_right (by rw [List.length_take]; omega), List.length_take, Nat.min_eq_left hp, Nat.sub_self]; rfl
          exact atT_pos hg
theorem RInv.fed {x : Rn} {m : Ml} (hx : RInv x) (hm : mailOk x.id x.n m) (hk : m.kind = 3) (ht : m.term ≤ x.term) : RInv (fedS x m).1 := by
  have h1 := hm.2
  have hcs : 0 ≤ m.prev ∧ m.prev ≤ m.term ∧ 0 ≤ m.commit ∧ m.cells.length ≤ 8 ∧ m.index + m.cells.length ≤ 10000 ∧ rises m.cells m.prev m.term = true := by
    rcases h1 with h | h | ⟨_, a, b, c, d⟩
    · omega
    · omega
    · have := d hk; exact ⟨a, b, this.1, this.2.2.1, this.2.2.2.1, this.2.2.2.2⟩
  have hidx := hm.1.2.2.2.2.2.2.1
  have base : RInv { x with role := 0, leader := m.fr, waited := 0 } := ⟨hx.n, hx.id, hx.term, hx.vote, hx.log, hx.rise, .inl rfl, fun h => absurd rfl h, hx.commit, Int.le_refl _, hx.since, fun h => absurd h (by show ¬ (0 : Int) = 1; decide), fun h => absurd h (by show ¬ (0 : Int) = 2; decide)⟩
  unfold fedS
  split
  · exact hx
  · split
    · exact hx
    · split
      · exact base
      · rename_i h2 h3 h4
        have h4' : m.index ≤ x.log.length ∧ atT x.log m.index = m.prev := by
          constructor
          · omega
          · exact Decidable.not_not.1 fun h => h4 (.inr h)
        obtain ⟨p, hp⟩ : ∃ p : Nat, m.index = p := ⟨m.index.toNat, by omega⟩
        split
        · exact base
        · rename_i log' hmg
          rw [hp] at hmg h4'
          have hs := mergeS_spec (prev := m.prev) hx.rise (by omega) h4'.2 (rises_more hcs.2.2.2.2.2 (by omega : m.term ≤ x.term)) hx.commit.1 hmg
          have hc := hx.commit
          have hl := hx.log
          have hlen : log'.length ≤ 10000 := by
            rcases hs.2.1 with h | h
            · rw [h]; exact hl
            · omega
          have hcl : max x.commit (min m.commit (m.index + m.cells.length)) ≤ (log'.length : Int) := by
            rcases hs.2.1 with h | h
            · have := hs.2.2.2 h; rw [h]; omega
            · have h5 : x.commit.toNat ≤ log'.length := by omega
              have h6 : p + m.cells.length ≤ log'.length := by
                rcases Nat.lt_or_ge log'.length (p + m.cells.length) with h7 | h7
                · exact absurd hmg (by
                    intro hmg
                    have : ∀ {cells : List Cl} {p : Nat} {log' : List Cl}, p ≤ x.log.length → (∀ c ∈ cells, 1 ≤ c.term) → mergeS x.log x.commit p cells = some log' → p + cells.length ≤ log'.length := by
                      intro cells
                      induction cells with
                      | nil => intro p log' hp _ h; have : log' = x.log := by simpa [mergeS] using h.symm
                               subst this; simpa using hp
                      | cons c l ih =>
                        intro p log' hp h8 h
                        unfold mergeS at h
                        split at h
                        · rename_i h9
                          have hpl : p < x.log.length := by
                            rcases Nat.lt_or_ge p x.log.length with h2 | h2
                            · exact h2
                            · rw [atT_zero (.inr (by omega))] at h9; have := h8 c (by simp); omega
                          have e : ((p : Int) + 1) = ((p + 1 : Nat) : Int) := rfl
                          rw [e] at h
                          have := ih (p := p + 1) (by omega) (fun c hc => h8 c (by simp [hc])) h
                          simp only [List.length_cons]; omega
                        · split at h
                          · cases h
                          · rw [Int.toNat_natCast] at h
                            have : log' = x.log.take p ++ c :: l := by simpa using h.symm
                            subst this
                            simp; omega
                    have := this (by omega) (fun c hc => (rises_mem hcs.2.2.2.2.2 c hc).1) hmg
                    omega)
                · exact h7
              omega
          exact ⟨hx.n, hx.id, hx.term, hx.vote, hlen, hs.1, .inl rfl, fun h => absurd rfl h, ⟨by show 0 ≤ max x.commit _; omega, hcl⟩, Int.le_refl _, hx.since, fun h => absurd h (by show ¬ (0 : Int) = 1; decide), fun h => absurd h (by show ¬ (0 : Int) = 2; decide)⟩
theorem RInv.answered {x : Rn} {m : Ml} (hx : RInv x) (hi : 0 ≤ m.index) : RInv (answeredS x m).1 := by
  unfold answeredS
  split
  · exact hx
  · rename_i h
    have hr : x.role = 2 := by omega
    have hp := hx.peers hr
    have hpm := hp m.fr
    split
    · exact ⟨hx.n, hx.id, hx.term, hx.vote, hx.log, hx.rise, hx.role, hx.lead, hx.commit, hx.waited, hx.since, hx.voted, fun _ k => by
        have := hp k
        show 0 ≤ x.mt k ∧ x.mt k + 1 ≤ upd _ _ _ k ∧ upd _ _ _ k ≤ (x.log.length : Int) + 1
        unfold upd
        split
        · rename_i hk; subst hk; omega
        · exact this⟩
    · have hy : RInv { x with mt := upd x.mt m.fr (max (x.mt m.fr) m.index), nx := upd x.nx m.fr (max (x.mt m.fr) m.index + 1) } :=
        ⟨hx.n, hx.id, hx.term, hx.vote, hx.log, hx.rise, hx.role, hx.lead, hx.commit, hx.waited, hx.since, hx.voted, fun _ k => by
          have := hp k
          show 0 ≤ upd _ _ _ k ∧ upd _ _ _ k + 1 ≤ upd _ _ _ k ∧ upd _ _ _ k ≤ (x.log.length : Int) + 1
          unfold upd
          split
          · rename_i hk; subst hk; omega
          · exact this⟩
      dsimp only
      split
      · exact hy.count
      · exact hy.count
theorem stepS_term {x : Rn} {m : Ml} : m.term ≤ (stepS m x).term := by
  unfold stepS
  split
  · exact Int.le_refl _
  · show m.term ≤ x.term; omega
theorem stepS_idn {x : Rn} {m : Ml} : (stepS m x).id = x.id ∧ (stepS m x).n = x.n := by unfold stepS; split <;> exact ⟨rfl, rfl⟩
theorem RInv.take {x : Rn} {m : Ml} (hx : RInv x) : RInv (takeS x m).1 := by
  unfold takeS
  split
  · rename_i hm
    have h1 := hx.step hm
    have hm2 : mailOk (stepS m x).id (stepS m x).n m := by rw [stepS_idn.1, stepS_idn.2]; exact hm
    have hfr : 1 ≤ m.fr ∧ m.fr ≤ (stepS m x).n := ⟨hm2.1.1, hm2.1.2.1⟩
    split
    · exact h1.asked hfr
    · split
      · exact h1.votes hfr
      · split
        · rename_i h3; exact h1.fed hm2 h3 stepS_term
        · exact h1.answered hm.1.2.2.2.2.2.2.1
  · exact hx
theorem RInv.propose {x : Rn} {d : ByteArray} (hx : RInv x) (hr : x.role = 2) (hl : x.log.length < 10000) (hd : d.size ≤ 4096) : RInv (proposeS x d).1 := ((hx.add hr hl hd).count).feedAll
theorem atT_mono' {l : List Cl} {least most : Int} (h : rises l least most = true) {p q : Nat} (hpq : p ≤ q) (hq : q < l.length) : atT l ((p : Int) + 1) ≤ atT l ((q : Int) + 1) := by
  induction l generalizing least p q with
  | nil => simp at hq
  | cons d l ih =>
    simp only [rises, Bool.and_eq_true, decide_eq_true_eq] at h
    cases q with
    | zero => have : p = 0 := by omega
              subst this; exact Int.le_refl _
    | succ q =>
      have hq' : q < l.length := by simpa using hq
      have e1 : atT (d :: l) (((q + 1 : Nat) : Int) + 1) = l[q].term := atT_pos (by simp)
      rw [e1]
      cases p with
      | zero =>
        have e2 : atT (d :: l) (((0 : Nat) : Int) + 1) = d.term := atT_pos rfl
        rw [e2]; exact (rises_mem h.2 _ (List.getElem_mem hq')).2.1
      | succ p =>
        have hp' : p < l.length := by omega
        have h3 := ih h.2 (p := p) (q := q) (by omega) hq'
        have e2 : atT (d :: l) (((p + 1 : Nat) : Int) + 1) = l[p].term := atT_pos (by simp)
        have e3 : atT l ((p : Int) + 1) = l[p].term := atT_pos (by simp)
        have e4 : atT l ((q : Int) + 1) = l[q].term := atT_pos (by simp)
        rw [e2]; rwa [e3, e4] at h3
theorem propose_ok {x : Rn} {d : ByteArray} (h : proposeE x d = 0) : d.size ≠ 0 ∧ d.size ≤ 4096 ∧ x.role = 2 ∧ x.log.length < 10000 := by
  unfold proposeE at h
  split at h
  · cases h
  · split at h
    · cases h
    · split at h
      · cases h
      · omega
end Go.Raft
