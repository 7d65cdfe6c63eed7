/-
  Layer 19: what is true among nodes: votes, leaders, what they wrote. The words, and how they last.
-/
import Derived.Test.YtekoilhjlofncaaRaftKeepB
set_option linter.unusedVariables false
set_option linter.unusedSimpArgs false
namespace Go.Raft

/-- what happened: votes, leaders of terms, what they wrote, who voted for them, how far nodes took it, the last term from which they took -/
structure Gh where
  vote : Int → Int → Int
  ld : Int → Option Int
  lg : Int → List Cl
  qu : Int → List Int
  ack : Int → Int → Nat
  acc : Int → Int
def Ack (g : Gh) (j t : Int) (p : Nat) : Prop := p ≤ g.ack j t ∨ (g.ld t = some j ∧ p ≤ (g.lg t).length)
def Val (g : Gh) (t : Int) (p : Nat) : Prop := g.ld t ≠ none ∧ 1 ≤ p ∧ p ≤ (g.lg t).length ∧ atT (g.lg t) p = t
def Has (g : Gh) (l : List Cl) (t : Int) (p : Nat) : Prop := p ≤ l.length ∧ l.take p = (g.lg t).take p
def Bad (g : Gh) (t : Int) (p : Nat) (hi : Int) : Prop := ∃ s, t < s ∧ s ≤ hi ∧ g.ld s ≠ none ∧ ¬ Has g (g.lg s) t p
def Good (g : Gh) (l : List Cl) : Prop := ∀ p : Nat, 1 ≤ p → p ≤ l.length → g.ld (atT l p) ≠ none ∧ p ≤ (g.lg (atT l p)).length ∧ l.take p = (g.lg (atT l p)).take p
def Maj (n : Int) (Q : List Int) : Prop := Q.Nodup ∧ (∀ k ∈ Q, 1 ≤ k ∧ k ≤ n) ∧ n < 2 * (Q.length : Int)
def Cm (n : Int) (g : Gh) (t : Int) (p : Nat) : Prop := Val g t p ∧ ∃ Q, Maj n Q ∧ ∀ k ∈ Q, Ack g k t p
/-- c cells of l are committed by a term up to T -/
def CC (n : Int) (g : Gh) (l : List Cl) (c : Int) (T : Int) : Prop := c = 0 ∨ ∃ t p, Cm n g t p ∧ t ≤ T ∧ c ≤ (p : Int) ∧ l.take c.toNat = (g.lg t).take c.toNat
structure GOk (n : Int) (g : Gh) : Prop where
  pos : ∀ s, g.ld s ≠ none → 1 ≤ s
  rng : ∀ s j, g.ld s = some j → 1 ≤ j ∧ j ≤ n
  self : ∀ k s, g.vote k s ≠ 0 → 1 ≤ g.vote k s ∧ g.vote k s ≤ n ∧ g.vote (g.vote k s) s = g.vote k s
  qu : ∀ s j, g.ld s = some j → Maj n (g.qu s) ∧ ∀ k ∈ g.qu s, g.vote k s = j
  rise : ∀ s, g.ld s ≠ none → rises (g.lg s) 1 s = true
  good : ∀ s, g.ld s ≠ none → Good g (g.lg s)
  ack : ∀ j t, 0 < g.ack j t → t ≤ g.acc j ∧ g.ld t ≠ none ∧ g.ack j t ≤ (g.lg t).length
  lacc : ∀ s j, g.ld s = some j → s ≤ g.acc j
  acc : ∀ j, g.acc j = 0 ∨ g.ld (g.acc j) ≠ none
  comp : ∀ s, g.ld s ≠ none → ∀ k ∈ g.qu s, ∀ t p, t < s → Val g t p → Ack g k t p → Has g (g.lg s) t p ∨ Bad g t p (s - 1)
structure NOk (n : Int) (g : Gh) (j : Int) (x : Rn) : Prop where
  inv : RInv x
  ld : Ld x
  id : x.id = j
  nn : x.n = n
  v1 : ∀ s, g.vote j s ≠ 0 → s ≤ x.term
  v2 : g.vote j x.term = x.vote
  cand : x.role = 1 → x.vote = j ∧ ∀ k ∈ x.voted, g.vote k x.term = j
  lead : x.role = 2 → g.ld x.term = some j ∧ g.lg x.term = x.log ∧ g.acc j = x.term ∧ ∀ k, x.mt k ≤ (g.ack k x.term : Int)
  was : ∀ s, g.ld s = some j → s ≤ x.term ∧ (s = x.term → x.role ≠ 1)
  good : Good g x.log
  acc : g.acc j ≤ x.term
  a : ∀ t p, Val g t p → Ack g j t p → Has g x.log t p ∨ Bad g t p (g.acc j)
  b : x.role = 1 → g.ld x.term = none → ∀ k, g.vote k x.term = j → ∀ t p, t < x.term → Val g t p → Ack g k t p → Has g x.log t p ∨ Bad g t p (x.term - 1)
  c : CC n g x.log x.commit x.term
structure MOk (n : Int) (g : Gh) (nd : Int → Rn) (m : Ml) : Prop where
  fr : 1 ≤ m.fr ∧ m.fr ≤ n
  to_ : 1 ≤ m.to_ ∧ m.to_ ≤ n
  ne : m.fr ≠ m.to_
  term : 1 ≤ m.term ∧ m.term ≤ (nd m.fr).term
  k1 : m.kind = 1 → g.vote m.fr m.term = m.fr ∧ ((nd m.fr).term = m.term → (nd m.fr).role = 1 → m.index = (nd m.fr).log.length ∧ m.prev = atT (nd m.fr).log (nd m.fr).log.length)
  k2 : m.kind = 2 → m.ok = true → g.vote m.fr m.term = m.to_
  k3 : m.kind = 3 → g.ld m.term = some m.fr ∧ (0 ≤ m.index ∧ m.index + m.cells.length ≤ ((g.lg m.term).length : Int)) ∧ m.prev = atT (g.lg m.term) m.index ∧ m.cells = ((g.lg m.term).drop m.index.toNat).take m.cells.length ∧ 0 ≤ m.commit ∧ m.commit ≤ ((g.lg m.term).length : Int) ∧ CC n g (g.lg m.term) m.commit m.term
  k4 : m.kind = 4 → m.ok = true → m.index ≤ (g.ack m.fr m.term : Int)
def updR (nd : Int → Rn) (j : Int) (y : Rn) : Int → Rn := fun k => if k = j then y else nd k
theorem updR_same {nd : Int → Rn} {j : Int} {y : Rn} : updR nd j y j = y := if_pos rfl
theorem updR_other {nd : Int → Rn} {j k : Int} {y : Rn} (h : k ≠ j) : updR nd j y k = nd k := if_neg h
structure IOk (n : Int) (nd : Int → Rn) (ml : Ml → Prop) (g : Gh) : Prop where
  gok : GOk n g
  nodes : ∀ j, 1 ≤ j → j ≤ n → NOk n g j (nd j)
  mails : ∀ m, ml m → MOk n g nd m
/-! ### Lists of cells -/
theorem atT_take {l : List Cl} {p q : Nat} (h : p ≤ q) : atT (l.take q) p = atT l p := by
  rcases Nat.eq_zero_or_pos p with h0 | h0
  · subst h0; rw [atT_zero (.inl (by decide)), atT_zero (.inl (by decide))]
  · by_cases hp : p ≤ l.length
    · have h1 : l[p - 1]? = some l[p - 1] := List.getElem?_eq_getElem (by omega)
      have h2 : (l.take q)[p - 1]? = some l[p - 1] := by rw [List.getElem?_take, if_pos (by omega)]; exact h1
      have e : ((p : Nat) : Int) = ((p - 1 : Nat) : Int) + 1 := by omega
      rw [e, atT_pos h1, atT_pos h2]
    · rw [atT_zero (.inr (by rw [List.length_take]; omega)), atT_zero (.inr (by omega))]
theorem atT_eq_of_take {l m : List Cl} {p q : Nat} (h : l.take q = m.take q) (hp : p ≤ q) : atT l p = atT m p := by
  rw [← atT_take hp (l := l), h, atT_take hp]
theorem atT_append {l e : List Cl} {p : Nat} (h : p ≤ l.length) : atT (l ++ e) p = atT l p :=
  atT_eq_of_take (q := l.length) (by rw [List.take_left, List.take_length]) h
theorem take_less {l m : List Cl} {p q : Nat} (h : l.take q = m.take q) (hp : p ≤ q) : l.take p = m.take p := by
  have := congrArg (List.take p) h
  rwa [List.take_take, List.take_take, Nat.min_eq_left hp] at this
theorem atT_mem {l : List Cl} {p : Nat} (h1 : 1 ≤ p) (h : p ≤ l.length) : ∃ c ∈ l, atT l p = c.term := by
  refine ⟨l[p - 1], List.getElem_mem (by omega), ?_⟩
  have := atT_pos (l := l) (p := p - 1) (List.getElem?_eq_getElem (by omega))
  rw [← this]; congr 1; omega
theorem maj_meet {n : Int} {P Q : List Int} (hn : 0 ≤ n) (hP : Maj n P) (hQ : Maj n Q) : ∃ k, k ∈ P ∧ k ∈ Q := by
  apply Classical.byContradiction
  intro hno
  have hd : (P ++ Q).Nodup := List.nodup_append.2 ⟨hP.1, hQ.1, fun a ha b hb hab => hno ⟨a, ha, hab ▸ hb⟩⟩
  have hs : ∀ k ∈ P ++ Q, k ∈ (List.range n.toNat).map fun i : Nat => (i : Int) + 1 := by
    intro k hk
    have h1 : 1 ≤ k ∧ k ≤ n := (List.mem_append.1 hk).elim (hP.2.1 k) (hQ.2.1 k)
    exact List.mem_map.2 ⟨(k - 1).toNat, List.mem_range.2 (by omega), by omega⟩
  have hl := hd.length_le_of_subset hs
  rw [List.length_append, List.length_map, List.length_range] at hl
  have h1 := hP.2.2
  have h2 := hQ.2.2
  omega
/-! ### What is more -/
structure Ext (g g' : Gh) : Prop where
  vote : ∀ j s, g.vote j s ≠ 0 → g'.vote j s = g.vote j s
  ld : ∀ s, g.ld s ≠ none → g'.ld s = g.ld s
  lg : ∀ s, g.ld s ≠ none → ∃ e, g'.lg s = g.lg s ++ e ∧ ∀ c ∈ e, c.term = s
  ack : ∀ j t, g.ack j t ≤ g'.ack j t
section
variable {n : Int} {g g' : Gh}
theorem Ext.lgLen (h : Ext g g') {s : Int} (hs : g.ld s ≠ none) : (g.lg s).length ≤ (g'.lg s).length := by
  obtain ⟨e, he, _⟩ := h.lg s hs
  rw [he, List.length_append]; omega
theorem Ext.lgTake (h : Ext g g') {s : Int} (hs : g.ld s ≠ none) {p : Nat} (hp : p ≤ (g.lg s).length) : (g'.lg s).take p = (g.lg s).take p := by
  obtain ⟨e, he, _⟩ := h.lg s hs
  rw [he, List.take_append_of_le_length hp]
theorem Ext.ldn (h : Ext g g') {s : Int} (hs : g.ld s ≠ none) : g'.ld s ≠ none := by rw [h.ld s hs]; exact hs
theorem Val.ext (h : Ext g g') {t : Int} {p : Nat} (hv : Val g t p) : Val g' t p := by
  refine ⟨h.ldn hv.1, hv.2.1, Nat.le_trans hv.2.2.1 (h.lgLen hv.1), ?_⟩
  rw [atT_eq_of_take (h.lgTake hv.1 hv.2.2.1) (Nat.le_refl p)]; exact hv.2.2.2
theorem Has.ext (h : Ext g g') {t : Int} {p : Nat} (hv : Val g t p) {l : List Cl} : Has g' l t p ↔ Has g l t p := by
  unfold Has; rw [h.lgTake hv.1 hv.2.2.1]
theorem Has.app {l e : List Cl} {t : Int} {p : Nat} (h : Has g l t p) : Has g (l ++ e) t p :=
  ⟨by rw [List.length_append]; have := h.1; omega, by rw [List.take_append_of_le_length h.1]; exact h.2⟩
theorem Has.extlg (h : Ext g g') {t s : Int} {p : Nat} (hv : Val g t p) (hs : g.ld s ≠ none) (hh : Has g (g.lg s) t p) : Has g' (g'.lg s) t p := by
  obtain ⟨e, he, _⟩ := h.lg s hs
  rw [he, Has.ext h hv]; exact hh.app
theorem lack_ext (h : Ext g g') {t s : Int} {p : Nat} (hv : Val g t p) (hr : rises (g.lg t) 1 t = true) (hs : g.ld s ≠ none) (hts : t < s) (hh : ¬ Has g (g.lg s) t p) : ¬ Has g' (g'.lg s) t p := by
  obtain ⟨e, he, hterm⟩ := h.lg s hs
  rw [he, Has.ext h hv]
  intro hk
  apply hh
  by_cases hp : p ≤ (g.lg s).length
  · exact ⟨hp, by rw [← hk.2, List.take_append_of_le_length hp]⟩
  · exfalso
    have h1 : atT (g.lg s ++ e) ((g.lg s).length + 1 : Nat) = atT (g.lg t) ((g.lg s).length + 1 : Nat) := atT_eq_of_take hk.2 (by omega)
    have hel : 0 < e.length := by have := hk.1; rw [List.length_append] at this; omega
    have h2 : (g.lg s ++ e)[(g.lg s).length]? = some e[0] := by rw [List.getElem?_append_right (Nat.le_refl _), Nat.sub_self, List.getElem?_eq_getElem hel]
    have h3 := atT_pos h2
    have h4 := hterm e[0] (List.getElem_mem hel)
    obtain ⟨c, hc, hce⟩ := atT_mem (l := g.lg t) (p := (g.lg s).length + 1) (by omega) (by have := hv.2.2.1; omega)
    have h5 := (rises_mem hr c hc).2.2.1
    rw [show (((g.lg s).length + 1 : Nat) : Int) = ((g.lg s).length : Int) + 1 from rfl] at h1 hce
    omega
theorem Bad.ext (h : Ext g g') {t hi hi' : Int} {p : Nat} (hv : Val g t p) (hr : rises (g.lg t) 1 t = true) (hh : hi ≤ hi') (hb : Bad g t p hi) : Bad g' t p hi' := by
  obtain ⟨s, h1, h2, h3, h4⟩ := hb
  exact ⟨s, h1, by omega, h.ldn h3, lack_ext h hv hr h3 h1 h4⟩
theorem Bad.less {t hi hi' : Int} {p : Nat} (hh : hi ≤ hi') (hb : Bad g t p hi) : Bad g t p hi' := by
  obtain ⟨s, h1, h2, h3, h4⟩ := hb
  exact ⟨s, h1, by omega, h3, h4⟩
theorem Ack.ext (h : Ext g g') {j t : Int} {p : Nat} (ha : Ack g j t p) : Ack g' j t p := by
  rcases ha with ha | ⟨ha, hb⟩
  · exact .inl (Nat.le_trans ha (h.ack j t))
  · have hn : g.ld t ≠ none := by rw [ha]; simp
    exact .inr ⟨by rw [h.ld t hn]; exact ha, Nat.le_trans hb (h.lgLen hn)⟩
theorem Cm.ext (h : Ext g g') {t : Int} {p : Nat} (hc : Cm n g t p) : Cm n g' t p := by
  obtain ⟨hv, Q, hQ, ha⟩ := hc
  exact ⟨hv.ext h, Q, hQ, fun k hk => (ha k hk).ext h⟩
theorem CC.ext (h : Ext g g') {l : List Cl} {c T T' : Int} (hT : T ≤ T') (hc : CC n g l c T) : CC n g' l c T' := by
  rcases hc with hc | ⟨t, p, h1, h2, h3, h4⟩
  · exact .inl hc
  · exact .inr ⟨t, p, h1.ext h, by omega, h3, by rw [h.lgTake h1.1.1 (by have := h1.1.2.2.1; omega)]; exact h4⟩
theorem CC.log {l l' : List Cl} {c T : Int} (hl : l'.take c.toNat = l.take c.toNat) (hc : CC n g l c T) : CC n g l' c T := by
  rcases hc with hc | ⟨t, p, h1, h2, h3, h4⟩
  · exact .inl hc
  · exact .inr ⟨t, p, h1, h2, h3, by rw [hl]; exact h4⟩
theorem Good.ext (h : Ext g g') {l : List Cl} (hg : Good g l) : Good g' l := fun p h1 h2 => by
  obtain ⟨a, b, c⟩ := hg p h1 h2
  exact ⟨h.ldn a, Nat.le_trans b (h.lgLen a), by rw [h.lgTake a b]; exact c⟩
theorem Good.take {l : List Cl} (hg : Good g l) (k : Nat) : Good g (l.take k) := fun p h1 h2 => by
  rw [List.length_take] at h2
  rw [atT_take (by omega)]
  obtain ⟨a, b, c⟩ := hg p h1 (by omega)
  exact ⟨a, b, by rw [List.take_take, Nat.min_eq_left (by omega)]; exact c⟩
theorem Good.meet {l m : List Cl} (hl : Good g l) (hm : Good g m) {p : Nat} (h1 : p ≤ l.length) (h2 : p ≤ m.length) (he : atT l p = atT m p) : l.take p = m.take p := by
  rcases Nat.eq_zero_or_pos p with h0 | h0
  · subst h0; rfl
  · rw [(hl p h0 h1).2.2, (hm p h0 h2).2.2, he]
theorem Ack.val (hg : GOk n g) {j t : Int} {p : Nat} (hp : 1 ≤ p) (ha : Ack g j t p) : g.ld t ≠ none ∧ p ≤ (g.lg t).length ∧ t ≤ g.acc j := by
  rcases ha with ha | ⟨ha, hb⟩
  · have := hg.ack j t (by omega)
    exact ⟨this.2.1, by omega, this.1⟩
  · exact ⟨by rw [ha]; simp, hb, hg.lacc t j ha⟩
/-- what a majority took, all later leaders have -/
theorem complete (hg : GOk n g) {t : Int} {p : Nat} (hc : Cm n g t p) : ∀ (k : Nat) (s : Int), (s - t).toNat = k → t < s → g.ld s ≠ none → Has g (g.lg s) t p := by
  intro k
  induction k using Nat.strongRecOn with
  | _ k ih =>
    intro s hk hts hs
    obtain ⟨hv, Q, hQ, hack⟩ := hc
    obtain ⟨i, hi⟩ := Option.ne_none_iff_exists'.1 hs
    obtain ⟨q, h1, h2⟩ := maj_meet (by have := hg.rng s i hi; omega) hQ (hg.qu s i hi).1
    rcases hg.comp s hs q h2 t p hts hv (hack q h1) with h | ⟨s', a, b, c, d⟩
    · exact h
    · exact absurd (ih (s' - t).toNat (by omega) s' rfl a c) d
theorem Cm.leader (hg : GOk n g) {t s : Int} {p : Nat} (hc : Cm n g t p) (hts : t < s) (hs : g.ld s ≠ none) : Has g (g.lg s) t p := complete hg hc _ s rfl hts hs
/-- two committed rows are one -/
theorem Cm.meet (hg : GOk n g) {t t' : Int} {p p' k : Nat} (hc : Cm n g t p) (hc' : Cm n g t' p') (h1 : k ≤ p) (h2 : k ≤ p') : (g.lg t).take k = (g.lg t').take k := by
  rcases Int.lt_trichotomy t t' with h | h | h
  · have := (hc.leader hg h hc'.1.1).2
    exact (take_less this h1).symm
  · rw [h]
  · have := (hc'.leader hg h hc.1.1).2
    exact take_less this h2
end
end Go.Raft
