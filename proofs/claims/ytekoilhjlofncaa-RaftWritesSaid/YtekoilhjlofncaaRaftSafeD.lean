/-
  Layer 19: elections, what leaders write, what is counted.
-/
import Derived.Test.YtekoilhjlofncaaRaftSafeC
set_option linter.unusedVariables false
set_option linter.unusedSimpArgs false
namespace Go.Raft

section
variable {n j : Int} {g g' : Gh} {nd : Int → Rn} {ml : Ml → Prop} {y z : Rn} {out : List Ml}
def setLead (g : Gh) (j T : Int) (l : List Cl) (Q : List Int) : Gh := { g with ld := fun s => if s = T then some j else g.ld s, lg := fun s => if s = T then l else g.lg s, qu := fun s => if s = T then Q else g.qu s, acc := fun k => if k = j then T else g.acc k }
theorem Chg.setLead {T : Int} {l : List Cl} {Q : List Int} (h0 : g.ld T = none) : Chg g (setLead g j T l Q) j T := by
  have hne : ∀ s, g.ld s ≠ none → s ≠ T := fun s hs e => hs (by rw [e]; exact h0)
  refine ⟨⟨fun _ _ _ => rfl, fun s hs => if_neg (hne s hs), fun s hs => ⟨[], ?_, by simp⟩, fun _ _ => Nat.le_refl _⟩, fun _ _ _ => rfl, fun s hs => if_neg hs, fun _ => ⟨h0, if_pos rfl⟩, fun s i hs _ => if_neg (hne s (by rw [hs]; simp)), fun _ _ _ => rfl, fun k hk => if_neg hk, fun s hs => if_neg (hne s hs)⟩
  show (if s = T then l else g.lg s) = g.lg s ++ []
  rw [if_neg (hne s hs), List.append_nil]
/-- a log that goes on with cells of a term whose leader has it -/
theorem Good.more (c : Ext g g') {l e : List Cl} {T : Int} (hl : Good g l) (he : ∀ c ∈ e, c.term = T) (hT : g'.ld T ≠ none) (hg : g'.lg T = l ++ e) : Good g' (l ++ e) := fun p h1 h2 => by
  by_cases hp : p ≤ l.length
  · rw [atT_append hp]
    obtain ⟨a, b, d⟩ := hl p h1 hp
    exact ⟨c.ldn a, Nat.le_trans b (c.lgLen a), by rw [List.take_append_of_le_length hp, c.lgTake a b]; exact d⟩
  · have h3 : atT (l ++ e) p = T := by
      rw [List.length_append] at h2
      have hi : (l ++ e)[p - 1]? = some e[p - 1 - l.length] := by rw [List.getElem?_append_right (by omega), List.getElem?_eq_getElem (by omega)]
      have := atT_pos hi
      rw [show (((p - 1 : Nat) : Int) + 1) = (p : Int) by omega] at this
      rw [this]; exact he _ (List.getElem_mem (by omega))
    rw [h3, hg]
    exact ⟨hT, h2, rfl⟩
theorem IOk.elect (h : IOk n nd ml g) (hj : 1 ≤ j ∧ j ≤ n) {e : List Cl} (hr : (nd j).role = 1) (hmaj : (nd j).n < 2 * ((nd j).voted.length : Int)) (hi : RInv y) (hl : Ld y) (h1 : y.id = (nd j).id ∧ y.n = (nd j).n) (h2 : y.term = (nd j).term) (h3 : y.vote = (nd j).vote)
    (h4 : y.log = (nd j).log ++ e) (h5 : y.role = 2) (h6 : y.commit = (nd j).commit) (h8 : ∀ k, y.mt k = 0) (he : ∀ c ∈ e, c.term = (nd j).term) : ∃ g', Ext g g' ∧ IOk n (updR nd j y) ml g' := by
  have hx := h.nodes j hj.1 hj.2
  have hc := hx.cand hr
  have hvd := hx.inv.voted hr
  have hQ : Maj n (nd j).voted := ⟨hvd.1, fun k hk => by rw [← hx.nn]; exact hvd.2 k hk, by rw [← hx.nn]; exact hmaj⟩
  have h0 : g.ld (nd j).term = none := by
    apply Classical.byContradiction
    intro hn
    obtain ⟨i, hi'⟩ := Option.ne_none_iff_exists'.1 hn
    have hq := h.gok.qu _ i hi'
    obtain ⟨k, k1, k2⟩ := maj_meet (by omega) hQ hq.1
    have e1 := hc.2 k k1
    have e2 := hq.2 k k2
    have : i = j := by omega
    rw [this] at hi'
    exact (hx.was _ hi').2 rfl hr
  have hT1 := hx.inv.lead (by omega)
  have hch := Chg.setLead (j := j) (l := y.log) (Q := (nd j).voted) h0
  have hgT : (setLead g j (nd j).term y.log (nd j).voted).lg (nd j).term = y.log := if_pos rfl
  have hlT : (setLead g j (nd j).term y.log (nd j).voted).ld (nd j).term = some j := if_pos rfl
  have haT : (setLead g j (nd j).term y.log (nd j).voted).acc j = (nd j).term := if_pos rfl
  have haccle : ∀ k, g.acc k ≤ (setLead g j (nd j).term y.log (nd j).voted).acc k := fun k => by
    show g.acc k ≤ if k = j then (nd j).term else g.acc k
    split
    · rename_i hk; rw [hk]; exact hx.acc
    · exact Int.le_refl _
  have hgood : Good (setLead g j (nd j).term y.log (nd j).voted) y.log := by
    rw [h4]
    refine hx.good.more ?_ he ?_ ?_
    · rw [← h4]; exact hch.ext
    · rw [← h4, hlT]; simp
    · rw [← h4]; exact hgT
  have hup : ∀ {t : Int} {p : Nat} {a b : Int}, a ≤ b → Val g t p → (Has g (nd j).log t p ∨ Bad g t p a) → Has (setLead g j (nd j).term y.log (nd j).voted) y.log t p ∨ Bad (setLead g j (nd j).term y.log (nd j).voted) t p b := fun {t p a b} hab hv hh => by
    rcases hh with hh | hh
    · refine .inl ((Has.ext hch.ext hv).2 ?_); rw [h4]; exact hh.app
    · exact .inr (hh.ext hch.ext hv (h.gok.rise t hv.1) hab)
  have hrise : rises y.log 1 (nd j).term = true := by rw [← h2]; exact hi.rise
  refine ⟨setLead g j (nd j).term y.log (nd j).voted, hch.ext, h.move hch (fun s hs => hx.v1 s hs) ?_ ?_ (fun k _ _ _ _ _ a b => absurd b a) (by omega) (fun hr' _ => by omega)⟩
  · refine ⟨fun s hs => ?_, fun s i hs => ?_, h.gok.self, fun s i hs => ?_, fun s hs => ?_, fun s hs => ?_, fun k t hk => ?_, fun s i hs => ?_, fun k => ?_, fun s hs => ?_⟩
    · by_cases hsT : s = (nd j).term
      · omega
      · exact h.gok.pos s (by rw [← hch.ld s hsT]; exact hs)
    · by_cases hsT : s = (nd j).term
      · rw [hsT, hlT] at hs; cases hs; exact hj
      · exact h.gok.rng s i (by rw [← hch.ld s hsT]; exact hs)
    · by_cases hsT : s = (nd j).term
      · rw [hsT, hlT] at hs; cases hs
        rw [hsT]
        have hqT : (setLead g j (nd j).term y.log (nd j).voted).qu (nd j).term = (nd j).voted := if_pos rfl
        rw [hqT]
        exact ⟨hQ, hc.2⟩
      · have hs' : g.ld s = some i := by rw [← hch.ld s hsT]; exact hs
        rw [hch.qu s (by rw [hs']; simp)]
        exact h.gok.qu s i hs'
    · by_cases hsT : s = (nd j).term
      · rw [hsT, hgT]; exact hrise
      · have hs' : g.ld s ≠ none := by rw [← hch.ld s hsT]; exact hs
        obtain ⟨i, hi'⟩ := Option.ne_none_iff_exists'.1 hs'
        rw [hch.lg s i hi' (.inl hsT)]; exact h.gok.rise s hs'
    · by_cases hsT : s = (nd j).term
      · rw [hsT, hgT]; exact hgood
      · have hs' : g.ld s ≠ none := by rw [← hch.ld s hsT]; exact hs
        obtain ⟨i, hi'⟩ := Option.ne_none_iff_exists'.1 hs'
        rw [hch.lg s i hi' (.inl hsT)]; exact (h.gok.good s hs').ext hch.ext
    · have h9 := h.gok.ack k t hk
      have := haccle k
      exact ⟨by omega, hch.ext.ldn h9.2.1, Nat.le_trans h9.2.2 (hch.ext.lgLen h9.2.1)⟩
    · by_cases hsT : s = (nd j).term
      · rw [hsT, hlT] at hs; cases hs; rw [haT]; omega
      · have h9 := h.gok.lacc s i (by rw [← hch.ld s hsT]; exact hs)
        have := haccle i
        omega
    · by_cases hkj : k = j
      · rw [hkj, haT]; exact .inr (by rw [hlT]; simp)
      · rw [hch.acc k hkj]
        exact (h.gok.acc k).imp id fun h9 => hch.ext.ldn h9
    · by_cases hsT : s = (nd j).term
      · intro k hk t p ht hv ha
        rw [hsT] at hk ht ⊢
        have hqT : (setLead g j (nd j).term y.log (nd j).voted).qu (nd j).term = (nd j).voted := if_pos rfl
        rw [hqT] at hk
        obtain ⟨hv0, ha0⟩ := hch.back h.gok (.inr (by omega)) hv ha
        rw [hgT]
        exact hup (Int.le_refl _) hv0 (hx.b hr h0 k (hc.2 k hk) t p ht hv0 ha0)
      · exact hch.comp h.gok (fun s hs => hx.v1 s hs) (by rw [← hch.ld s hsT]; exact hs)
  · refine ⟨hi, hl, h1.1.trans hx.id, h1.2.trans hx.nn, fun s hs => by rw [h2]; exact hx.v1 s hs, by rw [h2, h3]; exact hx.v2, fun hr' => by omega, fun _ => ?_, fun s hs => ?_, hgood, ?_, fun t p hv ha => ?_, fun hr' => by omega, ?_⟩
    · rw [h2]
      exact ⟨hlT, hgT, haT, fun k => by rw [h8]; omega⟩
    · rw [h2]
      by_cases hsT : s = (nd j).term
      · exact ⟨by omega, fun _ => by omega⟩
      · have := hx.was s (by rw [← hch.ld s hsT]; exact hs)
        exact ⟨this.1, fun _ => by omega⟩
    · rw [haT]; omega
    · rw [haT]
      by_cases htT : t = (nd j).term
      · refine .inl ⟨?_, ?_⟩
        · have := hv.2.2.1; rw [htT, hgT] at this; exact this
        · rw [htT, hgT]
      · obtain ⟨hv0, ha0⟩ := hch.back h.gok (.inr htT) hv ha
        exact hup hx.acc hv0 (hx.a t p hv0 ha0)
    · rw [h2, h6]
      refine CC.log ?_ (hx.c.ext hch.ext (Int.le_refl _))
      rw [h4, List.take_append_of_le_length (by have := hx.inv.commit; omega)]
/-! ### What a leader writes -/
def setLog (g : Gh) (T : Int) (l : List Cl) : Gh := { g with lg := fun s => if s = T then l else g.lg s }
theorem IOk.append (h : IOk n nd ml g) (hj : 1 ≤ j ∧ j ≤ n) {e : List Cl} (hr : (nd j).role = 2) (hi : RInv y) (hl : Ld y) (h1 : y.id = (nd j).id ∧ y.n = (nd j).n) (h2 : y.term = (nd j).term) (h3 : y.vote = (nd j).vote)
    (h4 : y.log = (nd j).log ++ e) (h5 : y.role = 2) (h6 : y.commit = (nd j).commit) (h8 : ∀ k, y.mt k = (nd j).mt k) (he : ∀ c ∈ e, c.term = (nd j).term) : ∃ g', Ext g g' ∧ IOk n (updR nd j y) ml g' := by
  have hx := h.nodes j hj.1 hj.2
  obtain ⟨l1, l2, l3, l4⟩ := hx.lead hr
  have hn : g.ld (nd j).term ≠ none := by rw [l1]; simp
  have hgT : (setLog g (nd j).term y.log).lg (nd j).term = y.log := if_pos rfl
  have hch : Chg g (setLog g (nd j).term y.log) j (nd j).term := by
    refine ⟨⟨fun _ _ _ => rfl, fun _ _ => rfl, fun s hs => ?_, fun _ _ => Nat.le_refl _⟩, fun _ _ _ => rfl, fun _ _ => rfl, fun hh => absurd rfl hh, fun s i hs hh => if_neg fun e => ?_, fun _ _ _ => rfl, fun _ _ => rfl, fun _ _ => rfl⟩
    · by_cases hsT : s = (nd j).term
      · refine ⟨e, ?_, by rw [hsT]; exact he⟩
        rw [hsT, hgT, l2]; exact h4
      · exact ⟨[], by show (if s = _ then _ else g.lg s) = _; rw [if_neg hsT, List.append_nil], by simp⟩
    · rw [e, l1] at hs
      exact hh.elim (fun a => a e) (fun a => a (Option.some.inj hs).symm)
  have hgood : Good (setLog g (nd j).term y.log) y.log := by
    rw [h4]
    refine hx.good.more ?_ he ?_ ?_
    · rw [← h4]; exact hch.ext
    · exact hn
    · rw [← h4]; exact hgT
  have hrise : rises y.log 1 (nd j).term = true := by rw [← h2]; exact hi.rise
  have hup : ∀ {t : Int} {p : Nat} {a b : Int}, a ≤ b → Val g t p → (Has g (nd j).log t p ∨ Bad g t p a) → Has (setLog g (nd j).term y.log) y.log t p ∨ Bad (setLog g (nd j).term y.log) t p b := fun {t p a b} hab hv hh => by
    rcases hh with hh | hh
    · refine .inl ((Has.ext hch.ext hv).2 ?_); rw [h4]; exact hh.app
    · exact .inr (hh.ext hch.ext hv (h.gok.rise t hv.1) hab)
  refine ⟨setLog g (nd j).term y.log, hch.ext, h.move hch (fun s hs => hx.v1 s hs) ?_ ?_ (fun k _ _ _ _ _ a b => absurd b a) (by omega) (fun hr' _ => by omega)⟩
  · refine ⟨h.gok.pos, h.gok.rng, h.gok.self, h.gok.qu, fun s hs => ?_, fun s hs => ?_, fun k t hk => ?_, h.gok.lacc, h.gok.acc, fun s hs => hch.comp h.gok (fun s hs => hx.v1 s hs) hs⟩
    · by_cases hsT : s = (nd j).term
      · rw [hsT, hgT]; exact hrise
      · obtain ⟨i, hi'⟩ := Option.ne_none_iff_exists'.1 hs
        rw [hch.lg s i hi' (.inl hsT)]; exact h.gok.rise s hs
    · by_cases hsT : s = (nd j).term
      · rw [hsT, hgT]; exact hgood
      · obtain ⟨i, hi'⟩ := Option.ne_none_iff_exists'.1 hs
        rw [hch.lg s i hi' (.inl hsT)]; exact (h.gok.good s hs).ext hch.ext
    · have h9 := h.gok.ack k t hk
      exact ⟨h9.1, h9.2.1, Nat.le_trans h9.2.2 (hch.ext.lgLen h9.2.1)⟩
  · refine ⟨hi, hl, h1.1.trans hx.id, h1.2.trans hx.nn, fun s hs => by rw [h2]; exact hx.v1 s hs, by rw [h2, h3]; exact hx.v2, fun hr' => by omega, fun _ => ?_, fun s hs => ?_, hgood, ?_, fun t p hv ha => ?_, fun hr' => by omega, ?_⟩
    · rw [h2]
      exact ⟨l1, hgT, l3, fun k => by rw [h8]; exact l4 k⟩
    · rw [h2]
      exact ⟨(hx.was s hs).1, fun _ => by omega⟩
    · rw [h2]; exact hx.acc
    · by_cases htT : t = (nd j).term
      · refine .inl ⟨?_, ?_⟩
        · have := hv.2.2.1; rw [htT, hgT] at this; exact this
        · rw [htT, hgT]
      · obtain ⟨hv0, ha0⟩ := hch.back h.gok (.inr htT) hv ha
        exact hup (Int.le_refl _) hv0 (hx.a t p hv0 ha0)
    · rw [h2, h6]
      refine CC.log ?_ (hx.c.ext hch.ext (Int.le_refl _))
      rw [h4, List.take_append_of_le_length (by have := hx.inv.commit; omega)]
/-! ### What is counted -/
theorem countP_spec {x : Rn} : ∀ {p : Nat}, countP x p = x.commit ∨ ∃ q : Nat, countP x p = q ∧ 1 ≤ q ∧ q ≤ p ∧ atT x.log q = x.term ∧ x.n < 2 * haveC x q
  | 0 => .inl rfl
  | p + 1 => by
    unfold countP
    split
    · rename_i h
      split
      · rename_i h2
        exact .inr ⟨p + 1, rfl, by omega, Nat.le_refl _, h.2, h2⟩
      · rcases countP_spec (x := x) (p := p) with h3 | ⟨q, a, b, c, d⟩
        · exact .inl h3
        · exact .inr ⟨q, a, b, by omega, d⟩
    · exact .inl rfl
theorem IOk.count (h : IOk n nd ml g) (hj : 1 ≤ j ∧ j ≤ n) (hr : (nd j).role = 2) : IOk n (updR nd j (countS (nd j))) ml g := by
  have hx := h.nodes j hj.1 hj.2
  obtain ⟨l1, l2, l3, l4⟩ := hx.lead hr
  refine h.same hj ⟨hx.inv.count, hx.ld, hx.id, hx.nn, hx.v1, hx.v2, hx.cand, hx.lead, hx.was, hx.good, hx.acc, hx.a, hx.b, ?_⟩ (Int.le_refl _) (fun hr _ => ⟨hr, rfl⟩)
  show CC n g (nd j).log (countP (nd j) (nd j).log.length) (nd j).term
  rcases countP_spec (x := nd j) (p := (nd j).log.length) with h3 | ⟨q, a, b, c, d, e⟩
  · rw [h3]; exact hx.c
  · rw [a]
    refine .inr ⟨(nd j).term, q, ⟨⟨by rw [l1]; simp, b, by rw [l2]; exact c, by rw [l2]; exact d⟩, j :: (others (nd j)).filter (fun k => decide ((q : Int) ≤ (nd j).mt k)), ⟨?_, ?_, ?_⟩, ?_⟩, Int.le_refl _, Int.le_refl _, by rw [l2]⟩
    · refine List.nodup_cons.2 ⟨fun hm => ?_, oth_nodup.filter _⟩
      have := (oth_mem.1 (List.mem_filter.1 hm).1).2.2
      exact this hx.id.symm
    · intro k hk
      rcases List.mem_cons.1 hk with rfl | hk
      · exact hj
      · have := oth_mem.1 (List.mem_filter.1 hk).1
        have h9 := hx.nn
        have h10 := hx.inv.n
        omega
    · rw [← hx.nn]
      have : ((j :: (others (nd j)).filter (fun k => decide ((q : Int) ≤ (nd j).mt k))).length : Int) = haveC (nd j) q := by
        unfold haveC; rw [List.length_cons]; omega
      rw [this]; exact e
    · intro k hk
      rcases List.mem_cons.1 hk with rfl | hk
      · exact .inr ⟨l1, by rw [l2]; exact c⟩
      · have h9 : (q : Int) ≤ (nd j).mt k := by simpa using (List.mem_filter.1 hk).2
        have := l4 k
        exact .inl (by omega)
/-! ### Mails of a leader -/
theorem feed_ok (h : IOk n nd ml g) (hj : 1 ≤ j ∧ j ≤ n) (hr : (nd j).role = 2) {k : Int} (hk : k ∈ others (nd j)) (hnx : 1 ≤ (nd j).nx k ∧ (nd j).nx k ≤ ((nd j).log.length : Int) + 1) : MOk n g nd (feedM (nd j) k) := by
  have hx := h.nodes j hj.1 hj.2
  obtain ⟨l1, l2, l3, l4⟩ := hx.lead hr
  have hk' := oth_mem.1 hk
  have hn := hx.nn
  have hnn := hx.inv.n
  have hid := hx.id
  have hcm := hx.inv.commit
  obtain ⟨i, hi⟩ : ∃ i : Nat, (nd j).nx k - 1 = (i : Int) := ⟨((nd j).nx k - 1).toNat, by omega⟩
  have hlen : (((nd j).log.drop i).take 8).length = min 8 ((nd j).log.length - i) := by rw [List.length_take, List.length_drop]
  have hcells : (feedM (nd j) k).cells = ((nd j).log.drop i).take 8 := by show ((nd j).log.drop ((nd j).nx k - 1).toNat).take 8 = _; rw [hi, Int.toNat_natCast]
  refine ⟨by show 1 ≤ (nd j).id ∧ (nd j).id ≤ n; omega, by show 1 ≤ k ∧ k ≤ n; omega, by show (nd j).id ≠ k; omega, ⟨hx.inv.lead (by omega), by show (nd j).term ≤ (nd (nd j).id).term; rw [hid]; exact Int.le_refl _⟩, fun hk => absurd hk (by show ¬ (3 : Int) = 1; decide), fun hk => absurd hk (by show ¬ (3 : Int) = 2; decide), fun _ => ?_, fun hk => absurd hk (by show ¬ (3 : Int) = 4; decide)⟩
  rw [hcells]
  refine ⟨by show g.ld (nd j).term = some (nd j).id; rw [hid]; exact l1, ⟨by show 0 ≤ (nd j).nx k - 1; omega, ?_⟩, by show atT (nd j).log _ = atT (g.lg (nd j).term) _; rw [l2]; rfl, ?_, hcm.1, ?_, ?_⟩
  · show (nd j).nx k - 1 + _ ≤ ((g.lg (nd j).term).length : Int)
    rw [l2, hlen]; omega
  · show _ = ((g.lg (nd j).term).drop ((nd j).nx k - 1).toNat).take _
    rw [l2, hi, Int.toNat_natCast, hlen]
    have : (((nd j).log.drop i).length) = (nd j).log.length - i := List.length_drop
    rw [← this]
    rcases Nat.le_total 8 (((nd j).log.drop i).length) with h1 | h1
    · rw [Nat.min_eq_left h1]
    · rw [Nat.min_eq_right h1, List.take_length, List.take_of_length_le h1]
  · show (nd j).commit ≤ ((g.lg (nd j).term).length : Int)
    rw [l2]; exact hcm.2
  · show CC n g (g.lg (nd j).term) (nd j).commit (nd j).term
    rw [l2]; exact hx.c
theorem IOk.feedAll (h : IOk n nd ml g) (hj : 1 ≤ j ∧ j ≤ n) (hr : (nd j).role = 2) : Stp n nd ml g j (feedAllS (nd j)).1 (feedAllS (nd j)).2 := by
  have hx := h.nodes j hj.1 hj.2
  have h1 := h.congr hj hx.inv.feedAll hx.ld ⟨rfl, rfl⟩ rfl rfl rfl rfl rfl rfl rfl
  refine ⟨g, Ext.refl g, h1, fun q hq => ?_⟩
  obtain ⟨k, hk, rfl⟩ := List.mem_map.1 hq
  have hp := hx.inv.peers hr k
  have := feed_ok h1 hj (k := k) (by rw [updR_same]; exact hr) (by rw [updR_same]; exact hk) (by rw [updR_same]; exact ⟨by show 1 ≤ (nd j).nx k; omega, hp.2.2⟩)
  rwa [updR_same] at this
theorem IOk.leads (h : IOk n nd ml g) (hj : 1 ≤ j ∧ j ≤ n) (hr : (nd j).role = 1) : Stp n nd ml g j (leadS (nd j)).1 (leadS (nd j)).2 := by
  have hx := h.nodes j hj.1 hj.2
  unfold leadS
  split
  · rename_i hm
    have key : ∀ y : Rn, y.role = 2 → (∃ g', Ext g g' ∧ IOk n (updR nd j y) ml g') → Stp n nd ml g j (feedAllS (countS y)).1 (feedAllS (countS y)).2 := fun y hy ⟨g', h1, h2⟩ => by
      have h3 := h2.count hj (by rw [updR_same]; exact hy)
      rw [updR_same, updR_updR] at h3
      have h4 := h3.feedAll hj (by rw [updR_same]; exact hy)
      rw [updR_same] at h4
      exact Stp.then h1 h4
    have hil := hx.inv.leader hr
    split
    · rename_i hlen
      exact key _ rfl (h.elect hj (e := [⟨(nd j).term, ByteArray.empty⟩]) hr hm (hil.add rfl hlen (by decide)) ⟨fun _ => rfl, fun _ => rfl⟩ ⟨rfl, rfl⟩ rfl rfl rfl rfl rfl (fun _ => rfl) (by intro c hc; rcases List.mem_singleton.1 hc with rfl; rfl))
    · exact key _ rfl (h.elect hj (e := []) hr hm hil ⟨fun _ => rfl, fun _ => rfl⟩ ⟨rfl, rfl⟩ rfl rfl (by simp [leaderS]) rfl rfl (fun _ => rfl) (fun c hc => by cases hc))
  · exact Stp.stay h
end
end Go.Raft
