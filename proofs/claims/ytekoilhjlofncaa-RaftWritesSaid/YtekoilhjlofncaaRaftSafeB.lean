/-
  Layer 19: what one node's doing leaves true of the others and of the mails.
-/
import Derived.Test.YtekoilhjlofncaaRaftSafeA
set_option linter.unusedVariables false
set_option linter.unusedSimpArgs false
namespace Go.Raft

/-- more happened, of node j's doing in term T alone -/
structure Chg (g g' : Gh) (j T : Int) : Prop where
  ext : Ext g g'
  vote : ∀ k s, (k ≠ j ∨ s ≠ T) → g'.vote k s = g.vote k s
  ld : ∀ s, s ≠ T → g'.ld s = g.ld s
  ldT : g'.ld T ≠ g.ld T → g.ld T = none ∧ g'.ld T = some j
  lg : ∀ s i, g.ld s = some i → (s ≠ T ∨ i ≠ j) → g'.lg s = g.lg s
  ack : ∀ k t, (k ≠ j ∨ t ≠ T) → g'.ack k t = g.ack k t
  acc : ∀ k, k ≠ j → g'.acc k = g.acc k
  qu : ∀ s, g.ld s ≠ none → g'.qu s = g.qu s
theorem Ext.refl (g : Gh) : Ext g g := ⟨fun _ _ _ => rfl, fun _ _ => rfl, fun s _ => ⟨[], by simp, by simp⟩, fun _ _ => Nat.le_refl _⟩
theorem Ext.trans {g g' g2 : Gh} (h : Ext g g') (k : Ext g' g2) : Ext g g2 :=
  ⟨fun j s hv => by rw [k.vote j s (by rw [h.vote j s hv]; exact hv), h.vote j s hv], fun s hs => by rw [k.ld s (h.ldn hs), h.ld s hs], fun s hs => by
    obtain ⟨e, he, h1⟩ := h.lg s hs
    obtain ⟨f, hf, h2⟩ := k.lg s (h.ldn hs)
    exact ⟨e ++ f, by rw [hf, he, List.append_assoc], fun c hc => (List.mem_append.1 hc).elim (h1 c) (h2 c)⟩, fun j t => Nat.le_trans (h.ack j t) (k.ack j t)⟩
theorem Chg.refl (g : Gh) (j T : Int) : Chg g g j T := ⟨Ext.refl g, fun _ _ _ => rfl, fun _ _ => rfl, fun h => absurd rfl h, fun _ _ _ _ => rfl, fun _ _ _ => rfl, fun _ _ => rfl, fun _ _ => rfl⟩
section
variable {n j T : Int} {g g' : Gh}
theorem Chg.back (c : Chg g g' j T) (hg : GOk n g) {k t : Int} {p : Nat} (hk : k ≠ j ∨ t ≠ T) (hv : Val g' t p) (ha : Ack g' k t p) : Val g t p ∧ Ack g k t p := by
  have hp := hv.2.1
  have key : Ack g k t p → Val g t p ∧ Ack g k t p := fun h => by
    have h1 := h.val hg hp
    exact ⟨⟨h1.1, hp, h1.2.1, by rw [← atT_eq_of_take (c.ext.lgTake h1.1 h1.2.1) (Nat.le_refl p)]; exact hv.2.2.2⟩, h⟩
  apply key
  rcases ha with ha | ⟨ha, hb⟩
  · exact .inl (by rw [c.ack k t hk] at ha; exact ha)
  · have hld : g.ld t = some k := by
      by_cases ht : t = T
      · subst ht
        have hkj : k ≠ j := hk.resolve_right (fun h => h rfl)
        by_cases he : g'.ld t = g.ld t
        · rw [← he]; exact ha
        · have := (c.ldT he).2
          rw [ha] at this
          exact absurd (Option.some.inj this) hkj
      · rw [← c.ld t ht]; exact ha
    exact .inr ⟨hld, by rw [c.lg t k hld hk.symm] at hb; exact hb⟩
theorem Chg.comp (c : Chg g g' j T) (hg : GOk n g) (hv : ∀ s, g.vote j s ≠ 0 → s ≤ T) {s : Int} (hs : g.ld s ≠ none) : ∀ k ∈ g'.qu s, ∀ t p, t < s → Val g' t p → Ack g' k t p → Has g' (g'.lg s) t p ∨ Bad g' t p (s - 1) := by
  intro k hk t p ht hvl ha
  rw [c.qu s hs] at hk
  obtain ⟨i, hi⟩ := Option.ne_none_iff_exists'.1 hs
  have h1 := (hg.qu s i hi).2 k hk
  have h2 := hg.rng s i hi
  have hkj : k ≠ j ∨ t ≠ T := by
    by_cases hkj : k = j
    · subst hkj
      have := hv s (by rw [h1]; omega)
      exact .inr (by omega)
    · exact .inl hkj
  obtain ⟨hv0, ha0⟩ := c.back hg hkj hvl ha
  rcases hg.comp s hs k hk t p ht hv0 ha0 with h | h
  · exact .inl (h.extlg c.ext hv0 hs)
  · exact .inr (h.ext c.ext hv0 (hg.rise t hv0.1) (Int.le_refl _))
theorem NOk.other (c : Chg g g' j T) (hg : GOk n g) {k : Int} {x : Rn} (hk : k ≠ j) (h : NOk n g k x) (hv : ∀ s, g.vote j s ≠ 0 → s ≤ T)
    (hnew : x.role = 1 → g.ld x.term = none → g.vote j x.term ≠ k → g'.vote j x.term = k → ∀ t p, t < x.term → Val g t p → Ack g j t p → Has g x.log t p ∨ Bad g t p (x.term - 1)) : NOk n g' k x := by
  have hvk : ∀ s, g'.vote k s = g.vote k s := fun s => c.vote k s (.inl hk)
  have hk1 : 1 ≤ k := by rw [← h.id]; exact h.inv.id.1
  have hup : ∀ {t : Int} {p : Nat} {hi : Int}, Val g t p → (Has g x.log t p ∨ Bad g t p hi) → Has g' x.log t p ∨ Bad g' t p hi := fun {t p hi} hv0 hh => by
    rcases hh with hh | hh
    · exact .inl ((Has.ext c.ext hv0).2 hh)
    · exact .inr (hh.ext c.ext hv0 (hg.rise t hv0.1) (Int.le_refl _))
  refine ⟨h.inv, h.ld, h.id, h.nn, fun s hs => h.v1 s (by rw [← hvk]; exact hs), by rw [hvk]; exact h.v2, fun hr => ⟨(h.cand hr).1, fun i hi => ?_⟩, fun hr => ?_, fun s hs => ?_, h.good.ext c.ext, by rw [c.acc k hk]; exact h.acc, fun t p hvl ha => ?_, fun hr hl i hi t p ht hvl ha => ?_, h.c.ext c.ext (Int.le_refl _)⟩
  · have := (h.cand hr).2 i hi
    rw [c.ext.vote i x.term (by rw [this]; omega)]; exact this
  · obtain ⟨a, b, d, e⟩ := h.lead hr
    exact ⟨by rw [c.ext.ld _ (by rw [a]; simp)]; exact a, by rw [c.lg _ _ a (.inr hk)]; exact b, by rw [c.acc k hk]; exact d, fun i => by have := e i; have := c.ext.ack i x.term; omega⟩
  · have : g.ld s = some k := by
      by_cases he : g'.ld s = g.ld s
      · rw [← he]; exact hs
      · by_cases hsT : s = T
        · subst hsT
          have := (c.ldT he).2
          rw [hs] at this
          exact absurd (Option.some.inj this) hk
        · exact absurd (c.ld s hsT) he
    exact h.was s this
  · obtain ⟨hv0, ha0⟩ := c.back hg (.inl hk) hvl ha
    rw [c.acc k hk]
    exact hup hv0 (h.a t p hv0 ha0)
  · have hl0 : g.ld x.term = none := by
      apply Classical.byContradiction
      intro hn
      exact (c.ext.ldn hn) hl
    by_cases hij : i = j
    · subst hij
      by_cases hold : g.vote i x.term = k
      · have h1 := hv x.term (by rw [hold]; omega)
        obtain ⟨hv0, ha0⟩ := c.back hg (.inr (by omega)) hvl ha
        exact hup hv0 (h.b hr hl0 i hold t p ht hv0 ha0)
      · have hxT : x.term = T := by
          apply Classical.byContradiction
          intro hne
          rw [c.vote i x.term (.inr hne)] at hi
          exact hold hi
        obtain ⟨hv0, ha0⟩ := c.back hg (.inr (by omega)) hvl ha
        exact hup hv0 (hnew hr hl0 hold hi t p ht hv0 ha0)
    · obtain ⟨hv0, ha0⟩ := c.back hg (.inl hij) hvl ha
      rw [c.vote i x.term (.inl hij)] at hi
      exact hup hv0 (h.b hr hl0 i hi t p ht hv0 ha0)
theorem MOk.move (c : Ext g g') {nd : Int → Rn} {y : Rn} {m : Ml} (h : MOk n g nd m) (hterm : (nd j).term ≤ y.term)
    (hk1 : m.fr = j → m.kind = 1 → y.term = m.term → y.role = 1 → (nd j).role = 1 ∧ (nd j).term = y.term ∧ y.log = (nd j).log) : MOk n g' (updR nd j y) m := by
  refine ⟨h.fr, h.to_, h.ne, ⟨h.term.1, ?_⟩, fun hk => ?_, fun hk ho => ?_, fun hk => ?_, fun hk ho => ?_⟩
  · unfold updR
    split
    · rename_i he; rw [← he] at hterm; have := h.term.2; omega
    · exact h.term.2
  · have h1 := h.k1 hk
    refine ⟨by rw [c.vote _ _ (by rw [h1.1]; have := h.fr; omega)]; exact h1.1, fun ht hr => ?_⟩
    unfold updR at ht hr ⊢
    by_cases he : m.fr = j
    · rw [if_pos he] at ht hr ⊢
      obtain ⟨a, b, d⟩ := hk1 he hk ht hr
      rw [d]
      rw [he] at h1
      exact h1.2 (by omega) a
    · rw [if_neg he] at ht hr ⊢
      exact h1.2 ht hr
  · have h1 := h.k2 hk ho
    rw [c.vote _ _ (by rw [h1]; have := h.to_; omega)]; exact h1
  · obtain ⟨a, ⟨b0, b1⟩, d, e, f0, f1, f2⟩ := h.k3 hk
    have hn : g.ld m.term ≠ none := by rw [a]; simp
    obtain ⟨z, hz, _⟩ := c.lg m.term hn
    obtain ⟨i, hi⟩ : ∃ i : Nat, m.index = (i : Int) := ⟨m.index.toNat, by omega⟩
    refine ⟨by rw [c.ld _ hn]; exact a, ⟨b0, by have := c.lgLen hn; omega⟩, ?_, ?_, f0, by have := c.lgLen hn; omega, ?_⟩
    · rw [hz, hi, atT_append (by omega), ← hi]; exact d
    · rw [hz, List.drop_append_of_le_length (by omega), List.take_append_of_le_length (by rw [List.length_drop]; omega)]; exact e
    · refine CC.log ?_ (f2.ext c (Int.le_refl _))
      rw [hz, List.take_append_of_le_length (by omega)]
  · have := h.k4 hk ho
    have := c.ack m.fr m.term
    omega
theorem IOk.move {nd : Int → Rn} {ml : Ml → Prop} {y : Rn} (h : IOk n nd ml g) (c : Chg g g' j T) (hv : ∀ s, g.vote j s ≠ 0 → s ≤ T) (hg' : GOk n g') (hy : NOk n g' j y)
    (hnew : ∀ k, k ≠ j → 1 ≤ k → k ≤ n → (nd k).role = 1 → g.ld (nd k).term = none → g.vote j (nd k).term ≠ k → g'.vote j (nd k).term = k → ∀ t p, t < (nd k).term → Val g t p → Ack g j t p → Has g (nd k).log t p ∨ Bad g t p ((nd k).term - 1))
    (hterm : (nd j).term ≤ y.term) (hk1 : y.role = 1 → (nd j).term = y.term → (nd j).role = 1 ∧ y.log = (nd j).log) : IOk n (updR nd j y) ml g' := by
  refine ⟨hg', fun k h1 h2 => ?_, fun m hm => (h.mails m hm).move c.ext hterm fun he hk ht hr => ?_⟩
  · unfold updR
    split
    · rename_i he; rw [he]; exact hy
    · rename_i he
      exact (h.nodes k h1 h2).other c h.gok he hv (hnew k he h1 h2)
  · have h1 := (h.mails m hm).term.2
    rw [he] at h1
    have h2 := hk1 hr (by omega)
    exact ⟨h2.1, by omega, h2.2⟩
/-- a node's doing of which nothing is written -/
theorem IOk.same {nd : Int → Rn} {ml : Ml → Prop} {y : Rn} (h : IOk n nd ml g) (hj : 1 ≤ j ∧ j ≤ n) (hy : NOk n g j y) (hterm : (nd j).term ≤ y.term) (hk1 : y.role = 1 → (nd j).term = y.term → (nd j).role = 1 ∧ y.log = (nd j).log) : IOk n (updR nd j y) ml g :=
  h.move (Chg.refl g j y.term) hy.v1 h.gok hy (fun k _ _ _ _ _ a b => absurd b a) hterm hk1
theorem NOk.congr {x y : Rn} (h : NOk n g j x) (hi : RInv y) (hl : Ld y) (h1 : y.id = x.id ∧ y.n = x.n) (h2 : y.term = x.term) (h3 : y.vote = x.vote) (h4 : y.log = x.log) (h5 : y.role = x.role) (h6 : y.commit = x.commit) (h7 : y.voted = x.voted) (h8 : y.mt = x.mt) : NOk n g j y := by
  refine ⟨hi, hl, h1.1.trans h.id, h1.2.trans h.nn, ?_, ?_, ?_, ?_, ?_, ?_, ?_, ?_, ?_, ?_⟩
  · rw [h2]; exact h.v1
  · rw [h2, h3]; exact h.v2
  · rw [h5, h3, h2, h7]; exact h.cand
  · rw [h5, h2, h4, h8]; exact h.lead
  · rw [h5, h2]; exact h.was
  · rw [h4]; exact h.good
  · rw [h2]; exact h.acc
  · rw [h4]; exact h.a
  · rw [h5, h2, h4]; exact h.b
  · rw [h4, h6, h2]; exact h.c
end
end Go.Raft
