/-
  Layer 19: votes and elections among nodes.
-/
import Derived.Test.YtekoilhjlofncaaRaftSafeB
set_option linter.unusedVariables false
set_option linter.unusedSimpArgs false
namespace Go.Raft

/-- node j is y now and sends these; what was true lasts -/
def Stp (n : Int) (nd : Int → Rn) (ml : Ml → Prop) (g : Gh) (j : Int) (y : Rn) (out : List Ml) : Prop := ∃ g', Ext g g' ∧ IOk n (updR nd j y) ml g' ∧ ∀ q ∈ out, MOk n g' (updR nd j y) q
theorem updR_self {nd : Int → Rn} {j : Int} : updR nd j (nd j) = nd := by
  funext k; unfold updR; split
  · rename_i h; rw [h]
  · rfl
theorem updR_updR {nd : Int → Rn} {j : Int} {y z : Rn} : updR (updR nd j y) j z = updR nd j z := by
  funext k; unfold updR; split <;> rfl
section
variable {n j : Int} {g g' : Gh} {nd : Int → Rn} {ml : Ml → Prop} {y z : Rn} {out : List Ml}
theorem Stp.stay (h : IOk n nd ml g) : Stp n nd ml g j (nd j) [] := ⟨g, Ext.refl g, by rw [updR_self]; exact h, fun q hq => by cases hq⟩
theorem Stp.same (h : IOk n (updR nd j y) ml g) : Stp n nd ml g j y [] := ⟨g, Ext.refl g, h, fun q hq => by cases hq⟩
/-- first this, then that -/
theorem Stp.then (h : Ext g g') (k : Stp n (updR nd j y) ml g' j z out) : Stp n nd ml g j z out := by
  obtain ⟨g2, h1, h2, h3⟩ := k
  rw [updR_updR] at h2 h3
  exact ⟨g2, h.trans h1, h2, h3⟩
theorem IOk.congr (h : IOk n nd ml g) (hj : 1 ≤ j ∧ j ≤ n) (hi : RInv y) (hl : Ld y) (h1 : y.id = (nd j).id ∧ y.n = (nd j).n) (h2 : y.term = (nd j).term) (h3 : y.vote = (nd j).vote) (h4 : y.log = (nd j).log) (h5 : y.role = (nd j).role) (h6 : y.commit = (nd j).commit) (h7 : y.voted = (nd j).voted) (h8 : y.mt = (nd j).mt) : IOk n (updR nd j y) ml g :=
  h.same hj ((h.nodes j hj.1 hj.2).congr hi hl h1 h2 h3 h4 h5 h6 h7 h8) (by omega) (fun hr _ => ⟨by omega, h4⟩)
/-! ### A later term -/
theorem NOk.step {x : Rn} {m : Ml} (h : NOk n g j x) (hm : mailOk x.id x.n m) : NOk n g j (stepS m x) := by
  have hi := h.inv.step hm
  have hl : Ld (stepS m x) := by
    have hid := h.inv.id
    unfold stepS
    split
    · exact ⟨fun e => absurd e (by show ¬ (0 : Int) = 2; decide), fun e => absurd e (by show ¬ (0 : Int) = x.id; omega)⟩
    · exact h.ld
  revert hi hl
  unfold stepS
  split
  · rename_i ht
    intro hi hl
    refine ⟨hi, hl, h.id, h.nn, fun s hs => ?_, ?_, fun hr => absurd hr (by show ¬ (0 : Int) = 1; decide), fun hr => absurd hr (by show ¬ (0 : Int) = 2; decide), fun s hs => ⟨?_, fun _ => by show ¬ (0 : Int) = 1; decide⟩, h.good, ?_, h.a, fun hr => absurd hr (by show ¬ (0 : Int) = 1; decide), ?_⟩
    · have := h.v1 s hs; show s ≤ m.term; omega
    · show g.vote j m.term = 0
      apply Classical.byContradiction
      intro hn
      have := h.v1 _ hn
      omega
    · have := (h.was s hs).1; show s ≤ m.term; omega
    · have := h.acc; show g.acc j ≤ m.term; omega
    · exact h.c.ext (Ext.refl g) (by show x.term ≤ m.term; omega)
  · exact fun _ _ => h
theorem stepS_mono {x : Rn} {m : Ml} : x.term ≤ (stepS m x).term := by
  unfold stepS
  split
  · show x.term ≤ m.term; omega
  · exact Int.le_refl _
theorem IOk.step {m : Ml} (h : IOk n nd ml g) (hj : 1 ≤ j ∧ j ≤ n) (hm : mailOk (nd j).id (nd j).n m) : IOk n (updR nd j (stepS m (nd j))) ml g :=
  h.same hj ((h.nodes j hj.1 hj.2).step hm) stepS_mono (by
    unfold stepS
    split
    · exact fun hr => absurd hr (by show ¬ (0 : Int) = 1; decide)
    · exact fun hr _ => ⟨hr, rfl⟩)
/-! ### Votes -/
def setVote (g : Gh) (j T i : Int) : Gh := { g with vote := fun k s => if k = j ∧ s = T then i else g.vote k s }
theorem Chg.setVote {T i : Int} (h0 : g.vote j T = 0) : Chg g (setVote g j T i) j T :=
  ⟨⟨fun k s hv => if_neg (fun h => hv (by rw [h.1, h.2]; exact h0)), fun _ _ => rfl, fun s _ => ⟨[], by simp [Raft.setVote], by simp⟩, fun _ _ => Nat.le_refl _⟩, fun k s h => if_neg (fun hh => h.elim (fun a => a hh.1) (fun a => a hh.2)), fun _ _ => rfl, fun h => absurd rfl h, fun _ _ _ _ => rfl, fun _ _ _ => rfl, fun _ _ => rfl, fun _ _ => rfl⟩
theorem GOk.setVote {T i : Int} (hg : GOk n g) (h0 : g.vote j T = 0) (hi : 1 ≤ i ∧ i ≤ n) (hs : i = j ∨ g.vote i T = i) : GOk n (setVote g j T i) := by
  refine ⟨hg.pos, hg.rng, fun k s hk => ?_, fun s i' hs' => ?_, hg.rise, hg.good, hg.ack, hg.lacc, hg.acc, hg.comp⟩
  · simp only [Raft.setVote] at hk ⊢
    by_cases hks : k = j ∧ s = T
    · rw [if_pos hks]
      refine ⟨hi.1, hi.2, ?_⟩
      rcases hs with hs | hs
      · rw [if_pos ⟨hs, hks.2⟩]
      · split
        · rfl
        · rw [hks.2]; exact hs
    · rw [if_neg hks] at hk ⊢
      have h1 := hg.self k s hk
      refine ⟨h1.1, h1.2.1, ?_⟩
      rw [if_neg (fun hh => ?_)]
      · exact h1.2.2
      · have h2 := h1.2.2
        rw [hh.1, hh.2, h0] at h2
        omega
  · have h1 := hg.qu s i' hs'
    refine ⟨h1.1, fun k hk => ?_⟩
    have h2 := h1.2 k hk
    have h3 := hg.rng s i' hs'
    show (if k = j ∧ s = T then i else g.vote k s) = i'
    rw [if_neg (fun hh => by rw [hh.1, hh.2, h0] at h2; omega)]
    exact h2
theorem askedS_vote {x : Rn} {m : Ml} (h : voteOk x m) : askedS x m = ({ x with vote := m.fr, waited := 0 }, [{ mk x 2 m.fr with ok := true }]) := by unfold askedS; rw [if_pos h, decide_eq_true h]
theorem askedS_no {x : Rn} {m : Ml} (h : ¬ voteOk x m) : askedS x m = (x, [{ mk x 2 m.fr with ok := false }]) := by unfold askedS; rw [if_neg h, decide_eq_false h]
theorem last_le {l : List Cl} {T : Int} (h : rises l 1 T = true) {p : Nat} (h1 : 1 ≤ p) (h2 : p ≤ l.length) : atT l p ≤ atT l l.length := by
  have := atT_mono' h (p := p - 1) (q := l.length - 1) (by omega) (by omega)
  rwa [show (((p - 1 : Nat) : Int) + 1) = (p : Int) by omega, show (((l.length - 1 : Nat) : Int) + 1) = (l.length : Int) by omega] at this
/-- a candidate for whom a node votes has what that node took -/
theorem fresh_has (hg : GOk n g) {x c : Rn} {i t T : Int} {p : Nat} (hx : NOk n g j x) (hc : NOk n g i c) (hcT : c.term = T) (hl : g.ld T = none) (ht : t < T) (hv : Val g t p) (hh : Has g x.log t p)
    (hf : atT x.log x.log.length < atT c.log c.log.length ∨ atT c.log c.log.length = atT x.log x.log.length ∧ x.log.length ≤ c.log.length) : Has g c.log t p ∨ Bad g t p (T - 1) := by
  have hp1 := hv.2.1
  have ht1 := hg.pos t hv.1
  have hpt : atT x.log p = t := by rw [atT_eq_of_take hh.2 (Nat.le_refl p)]; exact hv.2.2.2
  have hlast := last_le hx.inv.rise hp1 hh.1
  have hxl : 1 ≤ x.log.length := Nat.le_trans hp1 hh.1
  have hcl : 1 ≤ c.log.length := by
    rcases Nat.eq_zero_or_pos c.log.length with h0 | h0
    · rw [h0, atT_zero (l := c.log) (.inl (by decide))] at hf; omega
    · exact h0
  obtain ⟨u, hu⟩ : ∃ u, atT c.log c.log.length = u := ⟨_, rfl⟩
  rw [hu] at hf
  have hgc := hc.good c.log.length hcl (Nat.le_refl _)
  rw [hu, List.take_length] at hgc
  rcases hf with hf | ⟨hf, hlen⟩
  · have huT : u < T := by
      have h1 := (atT_bound (p := (c.log.length : Int)) hc.inv.rise hc.inv.term.1).2
      rw [hu, hcT] at h1
      rcases Int.lt_or_eq_of_le h1 with h2 | h2
      · exact h2
      · rw [h2] at hgc; exact absurd hl hgc.1
    by_cases hb : Has g (g.lg u) t p
    · refine .inl ?_
      by_cases hp : p ≤ c.log.length
      · refine ⟨hp, ?_⟩
        rw [hgc.2.2, List.take_take, Nat.min_eq_left hp]; exact hb.2
      · exfalso
        have h1 : atT (g.lg u) c.log.length = u := by
          exact ((atT_eq_of_take (q := c.log.length) (by rw [List.take_length]; exact hgc.2.2) (Nat.le_refl _)).symm).trans hu
        have h2 := atT_eq_of_take hb.2 (p := c.log.length) (by omega)
        have h3 := (atT_bound (p := (c.log.length : Int)) (hg.rise t hv.1) (by omega)).2
        omega
    · exact .inr ⟨u, by omega, by omega, hgc.1, hb⟩
  · have hgx := hx.good x.log.length hxl (Nat.le_refl _)
    rw [← hf, List.take_length] at hgx
    have hle : p ≤ c.log.length := Nat.le_trans hh.1 hlen
    refine .inl ⟨hle, ?_⟩
    have e : c.log.take x.log.length = x.log := by
      rw [hgc.2.2, List.take_take, Nat.min_eq_left hlen]; exact hgx.2.2.symm
    have h4 := congrArg (List.take p) e
    rw [List.take_take, Nat.min_eq_left hh.1] at h4
    rw [h4]; exact hh.2
theorem IOk.asked {m : Ml} (h : IOk n nd ml g) (hj : 1 ≤ j ∧ j ≤ n) (hm : ml m) (hto : m.to_ = j) (hk : m.kind = 1) (hmk : mailOk (nd j).id (nd j).n m) (ht : m.term ≤ (nd j).term) : Stp n nd ml g j (askedS (nd j) m).1 (askedS (nd j) m).2 := by
  have hx := h.nodes j hj.1 hj.2
  have hmm := h.mails m hm
  have hi := hx.inv.asked (m := m) ⟨hmk.1.1, hmk.1.2.1⟩
  have hfr := hmm.fr
  have hne := hmm.ne
  by_cases hv : voteOk (nd j) m
  · rw [askedS_vote hv] at hi ⊢
    have hT := hv.1
    have hl : Ld { nd j with vote := m.fr, waited := 0 } := hx.ld
    have hmo : ∀ g' : Gh, g'.vote j (nd j).term = m.fr → ∀ q ∈ [({ Raft.mk (nd j) 2 m.fr with ok := true } : Ml)], MOk n g' (updR nd j { nd j with vote := m.fr, waited := 0 }) q := fun g' hg' q hq => by
      have : q = { Raft.mk (nd j) 2 m.fr with ok := true } := by simpa using hq
      subst this
      refine ⟨by show 1 ≤ (nd j).id ∧ (nd j).id ≤ n; rw [hx.id]; exact hj, hfr, by show (nd j).id ≠ m.fr; rw [hx.id]; omega, ⟨by show 1 ≤ (nd j).term; have := hmm.term; omega, by show (nd j).term ≤ (updR nd j _ (nd j).id).term; rw [hx.id, updR_same]; exact Int.le_refl _⟩, fun hk => absurd hk (by show ¬ (2 : Int) = 1; decide), fun _ _ => by show g'.vote (nd j).id (nd j).term = m.fr; rw [hx.id]; exact hg', fun hk => absurd hk (by show ¬ (2 : Int) = 3; decide), fun hk => absurd hk (by show ¬ (2 : Int) = 4; decide)⟩
    by_cases hvf : (nd j).vote = m.fr
    · refine ⟨g, Ext.refl g, h.congr hj hi hl ⟨rfl, rfl⟩ rfl hvf.symm rfl rfl rfl rfl rfl, hmo g ?_⟩
      rw [hx.v2]; exact hvf
    · have hv0 : (nd j).vote = 0 := hv.2.1.resolve_right hvf
      have h0 : g.vote j (nd j).term = 0 := by rw [hx.v2]; exact hv0
      have hk1 := hmm.k1 hk
      rw [hT] at hk1
      have hself : m.fr = j ∨ g.vote m.fr (nd j).term = m.fr := .inr hk1.1
      refine ⟨setVote g j (nd j).term m.fr, (Chg.setVote h0).ext, ?_, hmo _ (if_pos ⟨rfl, rfl⟩)⟩
      have hr0 := hv.2.2.1
      refine h.move (T := (nd j).term) (Chg.setVote h0) hx.v1 (h.gok.setVote h0 hfr hself) ?_ ?_ (Int.le_refl _) (fun hr _ => ⟨hr, rfl⟩)
      · refine ⟨hi, hl, hx.id, hx.nn, fun s hs => ?_, if_pos ⟨rfl, rfl⟩, fun hr => absurd (show (nd j).role = 1 from hr) (by omega), fun hr => absurd (show (nd j).role = 2 from hr) (by omega), hx.was, hx.good, hx.acc, hx.a, fun hr => absurd (show (nd j).role = 1 from hr) (by omega), hx.c⟩
        simp only [setVote] at hs
        by_cases hsT : s = (nd j).term
        · exact Int.le_of_eq hsT
        · rw [if_neg (fun hh => hsT hh.2)] at hs; exact hx.v1 s hs
      · intro k hkj hk1' hkn hrole hld hold hnew t p ht' hval hack
        replace hnew : (if j = j ∧ (nd k).term = (nd j).term then m.fr else g.vote j (nd k).term) = k := hnew
        have hkT : (nd k).term = (nd j).term := by
          apply Classical.byContradiction
          intro hne'
          rw [if_neg (fun hh => hne' hh.2)] at hnew
          exact hold hnew
        rw [if_pos ⟨rfl, hkT⟩] at hnew
        subst hnew
        have hk1b := hk1.2 hkT hrole
        rw [hkT] at hld ht' ⊢
        have haccT : g.acc j ≤ (nd j).term - 1 := by
          have h1 := hx.acc
          rcases h.gok.acc j with h2 | h2
          · have := hmm.term; omega
          · have : g.acc j ≠ (nd j).term := fun e => by rw [e] at h2; exact h2 hld
            omega
        rcases hx.a t p hval hack with hh | hh
        · refine fresh_has h.gok hx (h.nodes _ hk1' hkn) hkT hld ht' hval hh ?_
          rcases hv.2.2.2 with h5 | h5
          · left; rw [← hk1b.2]; exact h5
          · right; exact ⟨by rw [← hk1b.2]; exact h5.1, by have := h5.2; have := hk1b.1; omega⟩
        · exact .inr (hh.less haccT)
  · rw [askedS_no hv] at hi ⊢
    refine ⟨g, Ext.refl g, by rw [updR_self]; exact h, fun q hq => ?_⟩
    rw [updR_self]
    have : q = { Raft.mk (nd j) 2 m.fr with ok := false } := by simpa using hq
    subst this
    exact ⟨by show 1 ≤ (nd j).id ∧ (nd j).id ≤ n; rw [hx.id]; exact hj, hfr, by show (nd j).id ≠ m.fr; rw [hx.id]; omega, ⟨by show 1 ≤ (nd j).term; have := hmm.term; omega, by show (nd j).term ≤ (nd (nd j).id).term; rw [hx.id]; exact Int.le_refl _⟩, fun hk => absurd hk (by show ¬ (2 : Int) = 1; decide), fun _ ho => (by cases ho), fun hk => absurd hk (by show ¬ (2 : Int) = 3; decide), fun hk => absurd hk (by show ¬ (2 : Int) = 4; decide)⟩
end
end Go.Raft
