/-
  Layer 19: a node ticks, takes a mail, is asked to write, begins anew: what was true of all stays so.
-/
import Derived.Test.YtekoilhjlofncaaRaftSafeD
set_option linter.unusedVariables false
set_option linter.unusedSimpArgs false
namespace Go.Raft

section
variable {n j : Int} {g g' : Gh} {nd : Int → Rn} {ml : Ml → Prop} {y z : Rn} {out : List Ml}
theorem IOk.run (h : IOk n nd ml g) (hj : 1 ≤ j ∧ j ≤ n) (hr : (nd j).role ≠ 2) (ht : (nd j).term ≠ 1000000000) : ∃ g', Ext g g' ∧ IOk n (updR nd j (runS (nd j))) ml g' := by
  have hx := h.nodes j hj.1 hj.2
  have h0 : g.vote j ((nd j).term + 1) = 0 := by
    apply Classical.byContradiction
    intro hn
    have := hx.v1 _ hn
    omega
  have hch := Chg.setVote (i := j) h0
  have hl : Ld (runS (nd j)) := ⟨fun e => absurd e (by show ¬ (1 : Int) = 2; decide), fun e => absurd e (by have := hx.inv.id; show ¬ (0 : Int) = (nd j).id; omega)⟩
  refine ⟨setVote g j ((nd j).term + 1) j, hch.ext, h.move (T := (nd j).term + 1) hch (fun s hs => by have := hx.v1 s hs; omega) (h.gok.setVote h0 hj (.inl rfl)) ?_ ?_ (by show (nd j).term ≤ (nd j).term + 1; omega) (fun _ e => absurd e (by show ¬ (nd j).term = (nd j).term + 1; omega))⟩
  · refine ⟨hx.inv.run ht, hl, hx.id, hx.nn, fun s hs => ?_, ?_, fun _ => ⟨hx.id, fun k hk => ?_⟩, fun e => absurd e (by show ¬ (1 : Int) = 2; decide), fun s hs => ?_, hx.good, ?_, hx.a, fun _ hld k hk t p htt hv ha => ?_, hx.c.ext (Ext.refl _) (by show (nd j).term ≤ (nd j).term + 1; omega)⟩
    · show s ≤ (nd j).term + 1
      simp only [setVote] at hs
      by_cases hsT : s = (nd j).term + 1
      · omega
      · rw [if_neg (fun hh => hsT hh.2)] at hs
        have := hx.v1 s hs; omega
    · show (if j = j ∧ (nd j).term + 1 = (nd j).term + 1 then j else _) = (nd j).id
      rw [if_pos ⟨rfl, rfl⟩, hx.id]
    · have : k = (nd j).id := by simpa [runS] using hk
      rw [this, hx.id]
      exact if_pos ⟨rfl, rfl⟩
    · have := hx.was s hs
      exact ⟨by show s ≤ (nd j).term + 1; omega, fun e => absurd e (by show ¬ s = (nd j).term + 1; omega)⟩
    · have := hx.acc; show g.acc j ≤ (nd j).term + 1; omega
    · replace hk : (if k = j ∧ (nd j).term + 1 = (nd j).term + 1 then j else g.vote k ((nd j).term + 1)) = j := hk
      by_cases hkj : k = j
      · subst hkj
        rcases hx.a t p hv ha with h1 | h1
        · exact .inl h1
        · have := hx.acc
          exact .inr (Bad.less (g := g) (by show g.acc k ≤ (nd k).term + 1 - 1; omega) h1)
      · rw [if_neg (fun hh => hkj hh.1)] at hk
        have h1 := h.gok.self k ((nd j).term + 1) (by rw [hk]; omega)
        rw [hk, h0] at h1
        omega
  · intro k hkj _ _ _ _ hold hnew
    replace hnew : (if j = j ∧ (nd k).term = (nd j).term + 1 then j else g.vote j (nd k).term) = k := hnew
    by_cases hT : (nd k).term = (nd j).term + 1
    · rw [if_pos ⟨rfl, hT⟩] at hnew
      exact absurd hnew.symm hkj
    · rw [if_neg (fun hh => hT hh.2)] at hnew
      exact absurd hnew hold
theorem IOk.tick (h : IOk n nd ml g) (hj : 1 ≤ j ∧ j ≤ n) : Stp n nd ml g j (tickS (nd j)).1 (tickS (nd j)).2 := by
  have hx := h.nodes j hj.1 hj.2
  unfold tickS
  split
  · rename_i hr
    split
    · rename_i hs
      exact Stp.same (h.congr hj (hx.inv.since1 hs) hx.ld ⟨rfl, rfl⟩ rfl rfl rfl rfl rfl rfl rfl)
    · exact h.feedAll hj hr
  · rename_i hr
    split
    · have h1 := hx.inv.tick
      rename_i hw
      have e : (tickS (nd j)).1 = { nd j with waited := (nd j).waited + 1 } := by unfold tickS; rw [if_neg hr, if_pos hw]
      rw [e] at h1
      exact Stp.same (h.congr hj h1 hx.ld ⟨rfl, rfl⟩ rfl rfl rfl rfl rfl rfl rfl)
    · rename_i hw
      obtain ⟨g', h1, h2⟩ := h.run hj hr (by omega)
      split
      · have h3 := h2.leads hj (by rw [updR_same]; rfl)
        rw [updR_same] at h3
        exact Stp.then h1 h3
      · refine ⟨g', h1, h2, fun q hq => ?_⟩
        obtain ⟨k, hk, rfl⟩ := List.mem_map.1 hq
        have hk' := oth_mem.1 hk
        have hn := hx.nn
        have hnn := hx.inv.n
        have hid := hx.id
        have hy := h2.nodes j hj.1 hj.2
        rw [updR_same] at hy
        have hv := hy.v2
        refine ⟨by show 1 ≤ (nd j).id ∧ (nd j).id ≤ n; omega, by show 1 ≤ k ∧ k ≤ n; omega, by show (nd j).id ≠ k; omega, ⟨by have := hx.inv.term; show 1 ≤ (nd j).term + 1; omega, by show (nd j).term + 1 ≤ (updR nd j (runS (nd j)) (nd j).id).term; rw [hid, updR_same]; exact Int.le_refl _⟩, fun _ => ⟨?_, fun _ _ => ?_⟩, fun hk => absurd hk (by show ¬ (1 : Int) = 2; decide), fun hk => absurd hk (by show ¬ (1 : Int) = 3; decide), fun hk => absurd hk (by show ¬ (1 : Int) = 4; decide)⟩
        · show g'.vote (nd j).id ((nd j).term + 1) = (nd j).id
          rw [hid]
          exact hv.trans hid
        · show ((nd j).log.length : Int) = ((updR nd j (runS (nd j)) (nd j).id).log.length : Int) ∧ atT (nd j).log (nd j).log.length = atT (updR nd j (runS (nd j)) (nd j).id).log (updR nd j (runS (nd j)) (nd j).id).log.length
          rw [hid, updR_same]
          exact ⟨rfl, rfl⟩
theorem IOk.votes {m : Ml} (h : IOk n nd ml g) (hj : 1 ≤ j ∧ j ≤ n) (hm : ml m) (hto : m.to_ = j) (hk : m.kind = 2) : Stp n nd ml g j (votesS (nd j) m).1 (votesS (nd j) m).2 := by
  have hx := h.nodes j hj.1 hj.2
  have hmm := h.mails m hm
  unfold votesS
  split
  · exact Stp.stay h
  · rename_i hc
    have hr : (nd j).role = 1 := by omega
    have hT : m.term = (nd j).term := by omega
    have ho : m.ok = true := by
      cases hmo : m.ok
      · exact absurd (.inr (.inl hmo)) hc
      · rfl
    have hv := hmm.k2 hk ho
    rw [hT, hto] at hv
    have hi := hx.inv.votedS hr (k := m.fr) (by rw [hx.nn]; exact hmm.fr)
    have h1 : IOk n (updR nd j (votedS m.fr (nd j))) ml g := by
      refine h.same hj ⟨hi, hx.ld, hx.id, hx.nn, hx.v1, hx.v2, fun hr' => ⟨(hx.cand hr').1, fun k hk => ?_⟩, hx.lead, hx.was, hx.good, hx.acc, hx.a, hx.b, hx.c⟩ (Int.le_refl _) (fun hr' _ => ⟨hr', rfl⟩)
      replace hk : k ∈ if m.fr ∈ (nd j).voted then (nd j).voted else (nd j).voted ++ [m.fr] := hk
      have hold := (hx.cand hr').2
      split at hk
      · exact hold k hk
      · rcases List.mem_append.1 hk with hk | hk
        · exact hold k hk
        · have : k = m.fr := by simpa using hk
          rw [this]; exact hv
    have h2 := h1.leads hj (by rw [updR_same]; exact hr)
    rw [updR_same] at h2
    exact Stp.then (Ext.refl g) h2
/-! ### Cells are taken -/
theorem merge_lead {log L : List Cl} (hl : Good g log) (hL : Good g L) {commit : Int} : ∀ {cs : List Cl} {p : Nat} {log' : List Cl}, log.take p = L.take p → p ≤ log.length → p + cs.length ≤ L.length → cs = (L.drop p).take cs.length → (∀ c ∈ cs, 1 ≤ c.term) → mergeS log commit p cs = some log' →
    (log' = log ∧ log.take (p + cs.length) = L.take (p + cs.length) ∧ p + cs.length ≤ log.length) ∨ (log' = L.take (p + cs.length) ∧ ∃ q : Nat, q < p + cs.length ∧ q ≤ log.length ∧ atT log ((q : Int) + 1) ≠ atT L ((q : Int) + 1))
  | [], p, log', h1, h2, _, _, _, hm => by
    have : log' = log := by simpa [mergeS] using hm.symm
    exact .inl ⟨this, by simpa using h1, by simpa using h2⟩
  | c :: l, p, log', h1, h2, h3, h4, h5, hm => by
    simp only [List.length_cons] at h3
    have hpL : p < L.length := by omega
    have hd : L.drop p = L[p] :: L.drop (p + 1) := List.drop_eq_getElem_cons hpL
    rw [hd, List.length_cons, List.take_succ_cons] at h4
    have hc : c = L[p] := by injection h4
    have hl' : l = (L.drop (p + 1)).take l.length := by injection h4
    have haL : atT L ((p : Int) + 1) = c.term := atT_pos (by rw [hc]; exact List.getElem?_eq_getElem hpL)
    unfold mergeS at hm
    by_cases h6 : atT log ((p : Int) + 1) = c.term
    · rw [if_pos h6] at hm
      have hpl : p < log.length := by
        rcases Nat.lt_or_ge p log.length with h7 | h7
        · exact h7
        · rw [atT_zero (.inr (by omega))] at h6; have := h5 c (by simp); omega
      have e : ((p : Int) + 1) = ((p + 1 : Nat) : Int) := rfl
      have ht : log.take (p + 1) = L.take (p + 1) := hl.meet hL (by omega) (by omega) (by rw [← e, h6, haL])
      rw [e] at hm
      have := merge_lead hl hL (cs := l) (p := p + 1) ht (by omega) (by omega) hl' (fun d hd => h5 d (by simp [hd])) hm
      rw [show p + 1 + l.length = p + (c :: l).length by simp only [List.length_cons]; omega] at this
      exact this
    · rw [if_neg h6] at hm
      split at hm
      · cases hm
      · refine .inr ⟨?_, p, by simp only [List.length_cons]; omega, h2, by rw [haL]; exact h6⟩
        have : log' = log.take p ++ c :: l := by rw [Int.toNat_natCast] at hm; simpa using hm.symm
        rw [this, h1, List.length_cons, List.take_add]
        congr 1
        rw [hd, List.take_succ_cons, ← hc, ← hl']
def setAck (g : Gh) (j T : Int) (q : Nat) : Gh := { g with ack := fun k t => if k = j ∧ t = T then max (g.ack k t) q else g.ack k t, acc := fun k => if k = j then T else g.acc k }
theorem IOk.accept (h : IOk n nd ml g) (hj : 1 ≤ j ∧ j ≤ n) {i : Int} {q : Nat} (hr0 : y.role = 0) (hr : (nd j).role ≠ 2) (hi : RInv y) (hl : Ld y) (h1 : y.id = (nd j).id ∧ y.n = (nd j).n) (h2 : y.term = (nd j).term) (h3 : y.vote = (nd j).vote)
    (hld : g.ld (nd j).term = some i) (hij : i ≠ j) (hq : q ≤ (g.lg (nd j).term).length) (hT1 : 1 ≤ (nd j).term)
    (hlog : (y.log = (nd j).log ∧ (nd j).log.take q = (g.lg (nd j).term).take q ∧ q ≤ (nd j).log.length) ∨ (y.log = (g.lg (nd j).term).take q ∧ ∃ q' : Nat, q' < q ∧ q' ≤ (nd j).log.length ∧ atT (nd j).log ((q' : Int) + 1) ≠ atT (g.lg (nd j).term) ((q' : Int) + 1)))
    (hc : CC n g y.log y.commit y.term) : ∃ g', Ext g g' ∧ IOk n (updR nd j y) ml g' ∧ q ≤ g'.ack j (nd j).term := by
  have hx := h.nodes j hj.1 hj.2
  have hn : g.ld (nd j).term ≠ none := by rw [hld]; simp
  have hackT : (setAck g j (nd j).term q).ack j (nd j).term = max (g.ack j (nd j).term) q := if_pos ⟨rfl, rfl⟩
  have haccT : (setAck g j (nd j).term q).acc j = (nd j).term := if_pos rfl
  have hch : Chg g (setAck g j (nd j).term q) j (nd j).term := by
    refine ⟨⟨fun _ _ _ => rfl, fun _ _ => rfl, fun s _ => ⟨[], by simp [setAck], by simp⟩, fun k t => ?_⟩, fun _ _ _ => rfl, fun _ _ => rfl, fun hh => absurd rfl hh, fun _ _ _ _ => rfl, fun k t hh => if_neg (fun e => hh.elim (fun a => a e.1) (fun a => a e.2)), fun k hk => if_neg hk, fun _ _ => rfl⟩
    show g.ack k t ≤ if k = j ∧ t = (nd j).term then max (g.ack k t) q else g.ack k t
    split <;> omega
  have haccle : ∀ k, g.acc k ≤ (setAck g j (nd j).term q).acc k := fun k => by
    show g.acc k ≤ if k = j then (nd j).term else g.acc k
    split
    · rename_i hk; rw [hk]; exact hx.acc
    · exact Int.le_refl _
  -- y bears the first q of the leader's cells
  have hyq : q ≤ y.log.length ∧ y.log.take q = (g.lg (nd j).term).take q := by
    rcases hlog with ⟨a, b, c⟩ | ⟨a, _⟩
    · rw [a]; exact ⟨c, b⟩
    · rw [a, List.length_take, List.take_take, Nat.min_self]; exact ⟨by omega, rfl⟩
  -- what both bear stays
  have hboth : ∀ {t : Int} {p : Nat}, Has g (nd j).log t p → Has g (g.lg (nd j).term) t p → Has g y.log t p := fun {t p} a b => by
    rcases hlog with ⟨e, _, _⟩ | ⟨e, q', c1, c2, c3⟩
    · rw [e]; exact a
    · have hpq : p ≤ q' := by
        apply Classical.byContradiction
        intro hpq
        have h9 : (nd j).log.take p = (g.lg (nd j).term).take p := by rw [a.2, b.2]
        exact c3 (atT_eq_of_take (p := q' + 1) h9 (by omega))
      rw [e]
      exact ⟨by rw [List.length_take]; have := b.1; omega, by rw [List.take_take, Nat.min_eq_left (by omega)]; exact b.2⟩
  refine ⟨setAck g j (nd j).term q, hch.ext, h.move hch (fun s hs => hx.v1 s hs) ?_ ?_ (fun k _ _ _ _ _ a b => absurd b a) (by omega) (fun hr' _ => by omega), by rw [hackT]; omega⟩
  · refine ⟨h.gok.pos, h.gok.rng, h.gok.self, h.gok.qu, h.gok.rise, h.gok.good, fun k t hk => ?_, fun s i' hs => ?_, fun k => ?_, fun s hs => hch.comp h.gok (fun s hs => hx.v1 s hs) hs⟩
    · by_cases hkt : k = j ∧ t = (nd j).term
      · rw [hkt.1, hkt.2, hackT, haccT]
        refine ⟨Int.le_refl _, hn, ?_⟩
        show max (g.ack j (nd j).term) q ≤ (g.lg (nd j).term).length
        rcases Nat.eq_zero_or_pos (g.ack j (nd j).term) with h9 | h9
        · omega
        · have := (h.gok.ack _ _ h9).2.2; omega
      · have e : (setAck g j (nd j).term q).ack k t = g.ack k t := if_neg hkt
        rw [e] at hk ⊢
        have h9 := h.gok.ack k t hk
        have := haccle k
        exact ⟨by omega, h9.2⟩
    · have := h.gok.lacc s i' hs
      have := haccle i'
      omega
    · by_cases hkj : k = j
      · rw [hkj, haccT]; exact .inr hn
      · rw [hch.acc k hkj]; exact h.gok.acc k
  · refine ⟨hi, hl, h1.1.trans hx.id, h1.2.trans hx.nn, fun s hs => by rw [h2]; exact hx.v1 s hs, by rw [h2, h3]; exact hx.v2, fun hr' => by omega, fun hr' => by omega, fun s hs => ⟨by rw [h2]; exact (hx.was s hs).1, fun _ => by omega⟩, ?_, by rw [haccT]; omega, fun t p hv ha => ?_, fun hr' => by omega, hc.ext hch.ext (Int.le_refl _)⟩
    · refine Good.ext hch.ext ?_
      rcases hlog with ⟨e, _, _⟩ | ⟨e, _⟩
      · rw [e]; exact hx.good
      · rw [e]; exact (h.gok.good _ hn).take q
    · rw [haccT]
      have hup : Has g y.log t p ∨ Bad g t p (nd j).term → Has (setAck g j (nd j).term q) y.log t p ∨ Bad (setAck g j (nd j).term q) t p (nd j).term := fun hh => hh
      apply hup
      by_cases htT : t = (nd j).term
      · subst htT
        have hv0 : Val g (nd j).term p := hv
        have hL : Has g (g.lg (nd j).term) (nd j).term p := ⟨hv0.2.2.1, rfl⟩
        rcases ha with ha | ⟨ha, _⟩
        · rw [hackT] at ha
          by_cases hpq : p ≤ q
          · exact .inl ⟨by have := hyq.1; omega, take_less hyq.2 hpq⟩
          · rcases hx.a _ p hv0 (.inl (by omega)) with h9 | ⟨s, s1, s2, _⟩
            · exact .inl (hboth h9 hL)
            · have := hx.acc; omega
        · replace ha : g.ld (nd j).term = some j := ha
          rw [hld] at ha
          exact absurd (Option.some.inj ha) hij
      · obtain ⟨hv0, ha0⟩ := hch.back h.gok (.inr htT) hv ha
        have h9 := (ha0.val h.gok hv0.2.1).2.2
        have h10 := hx.acc
        rcases hx.a t p hv0 ha0 with h11 | h11
        · by_cases hb : Has g (g.lg (nd j).term) t p
          · exact .inl (hboth h11 hb)
          · exact .inr ⟨(nd j).term, by omega, Int.le_refl _, hn, hb⟩
        · exact .inr (h11.less h10)
theorem reply_ok (h : IOk n nd ml g) (hj : 1 ≤ j ∧ j ≤ n) {k at_ : Int} {ok : Bool} (hk : 1 ≤ k ∧ k ≤ n) (hkj : k ≠ j) (hT : 1 ≤ (nd j).term) (hok : ok = true → at_ ≤ (g.ack j (nd j).term : Int)) : ∀ q ∈ reply (nd j) k ok at_, MOk n g nd q := fun q hq => by
  have hx := h.nodes j hj.1 hj.2
  have : q = { Raft.mk (nd j) 4 k with ok := ok, index := at_ } := by simpa [reply] using hq
  subst this
  exact ⟨by show 1 ≤ (nd j).id ∧ (nd j).id ≤ n; rw [hx.id]; exact hj, hk, by show (nd j).id ≠ k; rw [hx.id]; omega, ⟨hT, by show (nd j).term ≤ (nd (nd j).id).term; rw [hx.id]; exact Int.le_refl _⟩, fun hk => absurd hk (by show ¬ (4 : Int) = 1; decide), fun hk => absurd hk (by show ¬ (4 : Int) = 2; decide), fun hk => absurd hk (by show ¬ (4 : Int) = 3; decide), fun _ ho => by show at_ ≤ (g.ack (nd j).id (nd j).term : Int); rw [hx.id]; exact hok ho⟩
theorem NOk.follow {x : Rn} (hx : NOk n g j x) (hr : x.role ≠ 2) (hi : RInv y) (hl : Ld y) (h1 : y.id = x.id ∧ y.n = x.n) (h2 : y.term = x.term) (h3 : y.vote = x.vote) (h4 : y.log = x.log) (h5 : y.role = 0) (h6 : y.commit = x.commit) : NOk n g j y := by
  refine ⟨hi, hl, h1.1.trans hx.id, h1.2.trans hx.nn, ?_, ?_, fun e => by omega, fun e => by omega, fun s hs => ⟨by rw [h2]; exact (hx.was s hs).1, fun _ => by omega⟩, ?_, ?_, ?_, fun e => by omega, ?_⟩
  · rw [h2]; exact hx.v1
  · rw [h2, h3]; exact hx.v2
  · rw [h4]; exact hx.good
  · rw [h2]; exact hx.acc
  · rw [h4]; exact hx.a
  · rw [h4, h6, h2]; exact hx.c
theorem IOk.fed {m : Ml} (h : IOk n nd ml g) (hj : 1 ≤ j ∧ j ≤ n) (hm : ml m) (hto : m.to_ = j) (hk : m.kind = 3) (hmk : mailOk (nd j).id (nd j).n m) (ht : m.term ≤ (nd j).term) : Stp n nd ml g j (fedS (nd j) m).1 (fedS (nd j) m).2 := by
  have hx := h.nodes j hj.1 hj.2
  have hmm := h.mails m hm
  have hif := hx.inv.fed hmk hk ht
  have hfr := hmm.fr
  have hne : m.fr ≠ j := by rw [← hto]; exact hmm.ne
  have hT1 : 1 ≤ (nd j).term := by have := hmm.term; omega
  have hlf : ∀ y : Rn, y.role = 0 → y.leader = m.fr → y.id = (nd j).id → Ld y := fun y a b c => ⟨fun e => by omega, fun e => by have := hx.id; omega⟩
  revert hif
  unfold fedS
  split
  · intro _
    exact ⟨g, Ext.refl g, by rw [updR_self]; exact h, by rw [updR_self]; exact reply_ok h hj hfr hne hT1 (fun e => by cases e)⟩
  · rename_i hlt
    have hT : m.term = (nd j).term := by omega
    split
    · exact fun _ => Stp.stay h
    · rename_i hr2
      have hfol : ∀ hi : RInv { nd j with role := 0, leader := m.fr, waited := 0 }, IOk n (updR nd j { nd j with role := 0, leader := m.fr, waited := 0 }) ml g := fun hi =>
        h.same hj (hx.follow hr2 hi (hlf _ rfl rfl rfl) ⟨rfl, rfl⟩ rfl rfl rfl rfl rfl) (Int.le_refl _) (fun hr _ => absurd hr (by show ¬ (0 : Int) = 1; decide))
      split
      · intro hi
        refine ⟨g, Ext.refl g, hfol hi, ?_⟩
        have := reply_ok (hfol hi) hj (k := m.fr) (at_ := min ((nd j).log.length : Int) (m.index - 1)) (ok := false) hfr hne (by rw [updR_same]; exact hT1) (fun e => by cases e)
        rwa [updR_same] at this
      · rename_i hgap
        split
        · exact fun hi => Stp.same (hfol hi)
        · rename_i log' hmg
          intro hi
          obtain ⟨k1, ⟨k2, k3⟩, k4, k5, k6, k7, k8⟩ := hmm.k3 hk
          rw [hT] at k1 k3 k4 k5 k7 k8
          have hn : g.ld (nd j).term ≠ none := by rw [k1]; simp
          obtain ⟨p, hp⟩ : ∃ p : Nat, m.index = p := ⟨m.index.toNat, by omega⟩
          rw [hp] at hmg k3 k4 k5 hgap
          rw [Int.toNat_natCast] at k5
          have hpl : p ≤ (nd j).log.length := by omega
          have hpe : atT (nd j).log p = m.prev := Decidable.not_not.1 fun hh => hgap (.inr hh)
          have hgl := h.gok.good _ hn
          have htk : (nd j).log.take p = (g.lg (nd j).term).take p := hx.good.meet hgl hpl (by omega) (by rw [hpe, k4])
          have hcs : ∀ c ∈ m.cells, 1 ≤ c.term := fun c hc => by
            rw [k5] at hc
            exact (rises_mem (h.gok.rise _ hn) c (List.mem_of_mem_drop (List.mem_of_mem_take hc))).1
          have hml := merge_lead hx.good hgl htk hpl (by omega) k5 hcs hmg
          have hq : p + m.cells.length ≤ (g.lg (nd j).term).length := by omega
          have hrs := mergeS_spec (prev := m.prev) hx.inv.rise hpl hpe (rises_more (fed_facts hx.inv hmk hk).2.2.2.2.2 ht) hx.inv.commit.1 hmg
          have hlq : log'.take (p + m.cells.length) = (g.lg (nd j).term).take (p + m.cells.length) := by
            rcases hml with ⟨a, b, _⟩ | ⟨a, _⟩
            · rw [a]; exact b
            · rw [a, List.take_take, Nat.min_self]
          have hcc : CC n g log' (max (nd j).commit (min m.commit (m.index + (m.cells.length : Int)))) (nd j).term := by
            rcases Int.le_total (min m.commit (m.index + (m.cells.length : Int))) (nd j).commit with h9 | h9
            · rw [Int.max_eq_left h9]; exact hx.c.log hrs.2.2.1
            · rw [Int.max_eq_right h9]
              have hcm0 := hx.inv.commit.1
              rcases k8 with h10 | ⟨t, p', a, b, c, d⟩
              · exact .inl (by omega)
              · have e1 : (min m.commit (m.index + (m.cells.length : Int))).toNat ≤ p + m.cells.length := by omega
                have e2 : (min m.commit (m.index + (m.cells.length : Int))).toNat ≤ m.commit.toNat := by omega
                refine .inr ⟨t, p', a, b, by omega, ?_⟩
                rw [take_less hlq e1]
                exact take_less d e2
          obtain ⟨g', e1, e2, e3⟩ := h.accept (y := { nd j with role := 0, leader := m.fr, waited := 0, log := log', commit := max (nd j).commit (min m.commit (m.index + m.cells.length)) }) hj (q := p + m.cells.length) rfl hr2 hi (hlf _ rfl rfl rfl) ⟨rfl, rfl⟩ rfl rfl k1 hne hq hT1 (hml.imp id fun ⟨a, q', c1, c2, c3⟩ => ⟨a, q', c1, c2, c3⟩) hcc
          refine ⟨g', e1, e2, ?_⟩
          have := reply_ok e2 hj (k := m.fr) (at_ := m.index + (m.cells.length : Int)) (ok := true) hfr hne (by rw [updR_same]; exact hT1) (fun _ => by rw [updR_same]; show _ ≤ (g'.ack j (nd j).term : Int); omega)
          rwa [updR_same] at this
theorem IOk.answered {m : Ml} (h : IOk n nd ml g) (hj : 1 ≤ j ∧ j ≤ n) (hm : ml m) (hto : m.to_ = j) (hk : m.kind = 4) (hmk : mailOk (nd j).id (nd j).n m) : Stp n nd ml g j (answeredS (nd j) m).1 (answeredS (nd j) m).2 := by
  have hx := h.nodes j hj.1 hj.2
  have hmm := h.mails m hm
  have hif := hx.inv.answered (m := m) hmk.1.2.2.2.2.2.2.1
  have hko : m.fr ∈ others (nd j) := oth_mem.2 ⟨hmk.1.1, by have h1 := hx.inv.n; have h2 := hmk.1.2.1; omega, hmk.1.2.2.1⟩
  revert hif
  unfold answeredS
  split
  · exact fun _ => Stp.stay h
  · rename_i hc
    have hr : (nd j).role = 2 := by omega
    have hT : m.term = (nd j).term := by omega
    obtain ⟨l1, l2, l3, l4⟩ := hx.lead hr
    have hpe := hx.inv.peers hr m.fr
    split
    · intro hi
      have h1 := h.congr hj hi hx.ld ⟨rfl, rfl⟩ rfl rfl rfl rfl rfl rfl rfl
      refine ⟨g, Ext.refl g, h1, fun q hq => ?_⟩
      have : q = _ := List.mem_singleton.1 hq
      have h2 := feed_ok h1 hj (k := m.fr) (by rw [updR_same]; exact hr) (by rw [updR_same]; exact hko) (by
        rw [updR_same]
        show 1 ≤ upd _ _ _ _ ∧ upd _ _ _ _ ≤ ((nd j).log.length : Int) + 1
        unfold upd; rw [if_pos rfl]; omega)
      rw [updR_same] at h2
      rw [this]; exact h2
    · rename_i ho
      have ho' : m.ok = true := by simpa using ho
      have hack := hmm.k4 hk ho'
      rw [hT] at hack
      dsimp only
      have hy : ∀ hi : RInv { nd j with mt := upd (nd j).mt m.fr (max ((nd j).mt m.fr) m.index), nx := upd (nd j).nx m.fr (max ((nd j).mt m.fr) m.index + 1) }, IOk n (updR nd j (countS { nd j with mt := upd (nd j).mt m.fr (max ((nd j).mt m.fr) m.index), nx := upd (nd j).nx m.fr (max ((nd j).mt m.fr) m.index + 1) })) ml g := fun hi => by
        have h1 : IOk n (updR nd j { nd j with mt := upd (nd j).mt m.fr (max ((nd j).mt m.fr) m.index), nx := upd (nd j).nx m.fr (max ((nd j).mt m.fr) m.index + 1) }) ml g := by
          refine h.same hj ⟨hi, hx.ld, hx.id, hx.nn, hx.v1, hx.v2, hx.cand, fun _ => ⟨l1, l2, l3, fun k => ?_⟩, hx.was, hx.good, hx.acc, hx.a, hx.b, hx.c⟩ (Int.le_refl _) (fun hr _ => ⟨hr, rfl⟩)
          show upd (nd j).mt m.fr (max ((nd j).mt m.fr) m.index) k ≤ (g.ack k (nd j).term : Int)
          unfold upd
          split
          · rename_i hk'; rw [hk']; have := l4 m.fr; omega
          · exact l4 k
        have h2 := h1.count hj (by rw [updR_same]; exact hr)
        rwa [updR_same, updR_updR] at h2
      have hiy : RInv { nd j with mt := upd (nd j).mt m.fr (max ((nd j).mt m.fr) m.index), nx := upd (nd j).nx m.fr (max ((nd j).mt m.fr) m.index + 1) } := by
        refine ⟨hx.inv.n, hx.inv.id, hx.inv.term, hx.inv.vote, hx.inv.log, hx.inv.rise, hx.inv.role, hx.inv.lead, hx.inv.commit, hx.inv.waited, hx.inv.since, hx.inv.voted, fun _ k => ?_⟩
        have hpk := hx.inv.peers hr k
        show 0 ≤ upd _ _ _ k ∧ upd _ _ _ k + 1 ≤ upd _ _ _ k ∧ upd _ _ _ k ≤ ((nd j).log.length : Int) + 1
        unfold upd
        split
        · rename_i hk; subst hk; omega
        · exact hpk
      have h1 := hy hiy
      split
      · exact fun _ => Stp.same h1
      · intro _
        refine ⟨g, Ext.refl g, h1, fun q hq => ?_⟩
        have : q = _ := List.mem_singleton.1 hq
        have h2 := feed_ok h1 hj (k := m.fr) (by rw [updR_same]; exact hr) (by rw [updR_same]; exact hko) (by
          rw [updR_same]
          show 1 ≤ upd _ _ _ _ ∧ upd _ _ _ _ ≤ ((nd j).log.length : Int) + 1
          unfold upd; rw [if_pos rfl]; omega)
        rw [updR_same] at h2
        rw [this]; exact h2
theorem IOk.take {m : Ml} (h : IOk n nd ml g) (hj : 1 ≤ j ∧ j ≤ n) (hm : ml m) (hto : m.to_ = j) : Stp n nd ml g j (takeS (nd j) m).1 (takeS (nd j) m).2 := by
  unfold takeS
  split
  · rename_i hmk
    have h1 := h.step hj hmk
    have hmk2 : mailOk (updR nd j (stepS m (nd j)) j).id (updR nd j (stepS m (nd j)) j).n m := by rw [updR_same, stepS_idn.1, stepS_idn.2]; exact hmk
    have ht : m.term ≤ (updR nd j (stepS m (nd j)) j).term := by rw [updR_same]; exact stepS_term
    split
    · rename_i hk
      have := h1.asked hj hm hto hk hmk2 ht
      rw [updR_same] at this
      exact Stp.then (Ext.refl g) this
    · split
      · rename_i _ hk
        have := h1.votes hj hm hto hk
        rw [updR_same] at this
        exact Stp.then (Ext.refl g) this
      · split
        · rename_i _ _ hk
          have := h1.fed hj hm hto hk hmk2 ht
          rw [updR_same] at this
          exact Stp.then (Ext.refl g) this
        · rename_i a b c
          have hk : m.kind = 4 := by
            rcases hmk.2 with h9 | h9 | ⟨h9 | h9, _⟩
            · exact absurd h9 b
            · exact h9
            · exact absurd h9 a
            · exact absurd h9 c
          have := h1.answered hj hm hto hk hmk2
          rw [updR_same] at this
          exact Stp.then (Ext.refl g) this
  · exact Stp.stay h
theorem IOk.propose {d : ByteArray} (h : IOk n nd ml g) (hj : 1 ≤ j ∧ j ≤ n) (hp : proposeE (nd j) d = 0) : Stp n nd ml g j (proposeS (nd j) d).1 (proposeS (nd j) d).2 := by
  have hx := h.nodes j hj.1 hj.2
  have hpo := propose_ok hp
  have hr := hpo.2.2.1
  obtain ⟨g', h1, h2⟩ := h.append (y := addS d (nd j)) hj (e := [⟨(nd j).term, d⟩]) hr (hx.inv.add hr hpo.2.2.2 hpo.2.1) hx.ld ⟨rfl, rfl⟩ rfl rfl rfl hr rfl (fun _ => rfl) (by intro c hc; rcases List.mem_singleton.1 hc with rfl; rfl)
  have h3 := h2.count hj (by rw [updR_same]; exact hr)
  rw [updR_same, updR_updR] at h3
  have h4 := h3.feedAll hj (by rw [updR_same]; exact hr)
  rw [updR_same] at h4
  exact Stp.then h1 h4
theorem IOk.again (h : IOk n nd ml g) (hj : 1 ≤ j ∧ j ≤ n) (hi : RInv (againS (nd j))) : IOk n (updR nd j (againS (nd j))) ml g := by
  have hx := h.nodes j hj.1 hj.2
  refine h.same hj ⟨hi, Ld.new hx.inv.id.1, hx.id, hx.nn, hx.v1, hx.v2, fun e => absurd e (by show ¬ (0 : Int) = 1; decide), fun e => absurd e (by show ¬ (0 : Int) = 2; decide), fun s hs => ⟨(hx.was s hs).1, fun _ => by show ¬ (0 : Int) = 1; decide⟩, hx.good, hx.acc, hx.a, fun e => absurd e (by show ¬ (0 : Int) = 1; decide), .inl rfl⟩ (Int.le_refl _) (fun e _ => absurd e (by show ¬ (0 : Int) = 1; decide))
end
end Go.Raft
