/-
  Layer 3: all that was added is there behind any cut of the power.
-/
import Derived.Test.YtephlppgappcnaaJournalAllP
set_option linter.unusedVariables false
set_option linter.unusedSimpArgs false
set_option maxRecDepth 4000
namespace Go.Proofs.Ytephlppgappcnaa
open Go.Sl Go.RowKit Go.Pack Go.Journal

theorem law3_small {w0 : World} {A : List HProp} {pb : Option Addr} {pc n : Nat} (ps : List (Sla UInt8)) (hp : RdC w0 A pb (bss ps)) (hn : n = ps.length) :
    Fun Try.prog w0 17 [.slice pb n pc] A (Ret w0 (fun _ : Unit => True) (fun _ => .bool (decide (ps.length ≤ 150 ∧ ∀ x ∈ ps, x.xs.length ≤ 1024))) (fun _ => A)) := by
  subst hn
  refine Fun.enter Try.func17 rfl Try.ntmps17 rfl ?_
  refine WC.seq <| WC.region <| sv (vaB rfl) <| WL.nil <| WX.thenN <| WC.seq <| WC.seq <| WC.region <| sv (vmS rfl) <| sv (vlen Try.underlying28 rfl) <| sv (vgt rfl rfl) <| WL.nil <| WX.thenN <| ?_
  refine WC.ite rfl (fun h1 => ?_) (fun h1 => ?_)
  · -- then
    exact WC.seq <| WC.region <| sv (vaB rfl) <| WL.nil <| WX.thenN <| WC.ret <| WX.thenR <| WX.ret1 rfl (()) (trivial) (bF (fun h => by omega)) (fun _ h => h)
  · -- else
    refine WC.skip <| WX.thenN <| WC.seq <| WC.seq <| WC.region <| sv (vaI rfl) <| WL.nil <| WX.thenN <| WC.block <| ?_
    refine WC.loop (ι := Nat) (fun i => [(3, .int .i64 i)]) [(0, .slice _ _ _)] (fun i => A) (fun i => i ≤ ps.length ∧ ∀ (k : Nat) (x : Sla UInt8), k < i → ps[k]? = some x → x.xs.length ≤ 1024) (fun i => ps.length - i) (0) (⟨by omega, fun k x h => by omega⟩) ⟨rfl, trivial⟩ ⟨rfl, trivial⟩ (fun _ h => h) ?_
    intro i hi ρh
    refine WC.seq <| WC.seq <| WC.region <| sv (vmI rfl) <| sv (vmS rfl) <| sv (vlen Try.underlying28 rfl) <| sv (vlt rfl rfl) <| WL.nil <| WX.thenN <| ?_
    refine WC.ite rfl (fun h2 => ?_) (fun h2 => ?_)
    · -- then
      have hi1 : i < ps.length := by omega
      refine WC.skip <| WX.thenN <| WC.seq <| WC.block <| WC.seq <| WC.region <| sv (vmS rfl) <| sv (vmI rfl) <| sv (vix1 Try.underlying28 sz22 rfl rfl (by omega) (by omega) hp (by rw [bss_length]; omega)) <| sv (vldo pl22 rfl hp (bss_at hi1)) <| sv (vlen Try.underlying22 rfl) <| sv (vgt rfl rfl) <| WL.nil <| WX.thenN <| ?_
      refine WC.ite rfl (fun h3 => ?_) (fun h3 => ?_)
      · -- then
        exact WC.seq <| WC.region <| sv (vaB rfl) <| WL.nil <| WX.thenN <| WC.ret <| WX.blockR <| WX.thenR <| WX.thenR <| WX.blockR <| WX.thenR <| WX.ret1 rfl (()) (trivial) (bF (fun h => by have := h.2 _ (List.getElem_mem hi1); omega)) (fun _ h => h)
      · -- else
        refine WC.skip <| WX.blockN <| WX.thenN <| WC.region <| sv (vmI rfl) <| sv (vadd rfl rfl (by omega)) <| sv (vaI rfl) <| WL.nil <| WX.again (i + 1) (⟨by omega, fun k x hk hx => by rcases Nat.lt_succ_iff_lt_or_eq.1 hk with h | rfl; exact hi.2 k x h hx; rw [List.getElem?_eq_getElem hi1] at hx; cases hx; omega⟩) (by omega) ⟨rfl, trivial⟩ ⟨rfl, trivial⟩ (fun _ h => h)
    · -- else
      refine WC.exit <| WX.thenE <| WX.thenE <| WX.blockH <| WX.thenN <| WC.seq <| WC.region <| sv (vaB rfl) <| WL.nil <| WX.thenN <| WC.ret <| WX.ret1 rfl (()) (trivial) (bT ⟨by omega, fun x hx => by obtain ⟨k, hk⟩ := List.mem_iff_getElem?.1 hx; exact hi.2 k x (by have := (List.getElem?_eq_some_iff.1 hk).1; omega) hk⟩) (fun _ h => h)
theorem open_new : openS nmJ newD = (newD, 0) := by
  have h1 : readS nmJ newD = ([], 21) := rfl
  unfold openS
  rw [if_neg (by decide), if_neg (fun h => h nmJ_ok), h1]
  dsimp only
  rw [recsB_nil, if_pos rfl]
def AllR (rs : List (List UInt8)) (k : Nat) (st : DSt) (sick : Bool) : Prop := k ≤ rs.length ∧ ((sick = false ∧ k = rs.length ∧ Fz st nmJ (flat rs) (2 * k)) ∨
  (sick = true ∧ ∃ r K, rs[k]? = some r ∧ (flat (rs.take k)).length ≤ K ∧ K ≤ (flat (rs.take k) ++ frameB r).length ∧ Fd st nmJ ((flat (rs.take k) ++ frameB r).take K) (2 * k + 2)))
theorem AllR.found {rs : List (List UInt8)} {k : Nat} {st : DSt} {sick : Bool} (h : AllR rs k st sick) (hs : ∀ r ∈ rs, r.length ≤ 1048576) (f : Int) (hf : 0 ≤ f ∧ f ≤ 9223372036854775807) :
    ∃ c m, Fz { { st with off := false } with fuse := f, keep := 0 } nmJ c (2 * k + 2) ∧ (recsB c).1 = rs.take m ∧ k ≤ m ∧ m ≤ k + 1 ∧ m ≤ rs.length := by
  obtain ⟨hk, ⟨_, h2, h3⟩ | ⟨_, r, K, h2, h3, h4, h5⟩⟩ := h
  · have h6 := h3.on f hf
    refine ⟨flat rs, k, ⟨h6.off, h6.fuse, ⟨h6.deeds.1, by have := h6.deeds.2; omega⟩, h6.file⟩, ?_, by omega, by omega, hk⟩
    have := recsB_flat rs [] hs
    rw [List.append_nil, recsB_nil] at this
    rw [this, h2, List.take_length]; simp
  · have hr := hs r (List.mem_of_getElem? h2)
    have hlt := (List.getElem?_eq_some_iff.1 h2).1
    have h6 := h5.on f hf
    rcases Go.Proofs.Ytephlppgappcnaa.found (rs := rs.take k) (r := r) (fun x hx => hs x (List.mem_of_mem_take hx)) hr h3 h4 with h7 | h7
    · exact ⟨_, k, h6, h7, by omega, by omega, hk⟩
    · refine ⟨_, k + 1, h6, ?_, by omega, by omega, hlt⟩
      rw [h7, List.take_succ_eq_append_getElem hlt, (List.getElem?_eq_some_iff.1 h2).2]
theorem flat_bound {rs : List (List UInt8)} (h : ∀ r ∈ rs, r.length ≤ 1024) : (flat rs).length ≤ 1032 * rs.length := by
  induction rs with
  | nil => simp [flat]
  | cons r rs ih =>
    have e : flat (r :: rs) = frameB r ++ flat rs := by simp [flat]
    have h1 := h r (by simp)
    have h2 := ih fun x hx => h x (by simp [hx])
    rw [e, List.length_append, frame_length, List.length_cons]; omega
theorem journal_add_down {w0 : World} {A : List HProp} {j d k c : Nat} {nm : ByteArray} {n : Int} {base : Option Addr} {rec : List UInt8} {st st' : DSt} (hR : RdC w0 A base (u8s rec)) (hk : k = rec.length) (hl : rec.length ≤ 1048576) (hs : nm.size ≤ 140737488351232) (hd : 0 ≤ st.deeds ∧ st.deeds + 2 ≤ 9223372036854775807) (hn : 0 ≤ n ∧ n + 1 ≤ 9223372036854775807) (h : addP nm rec st = (st', 20)) :
    Fun Try.prog w0 12 [.pointer (some ⟨j, 0, none⟩), .slice base k c] (cel j (jcells d nm n false) 70 :: pdisk d st :: A)
      (Ret w0 (fun _ : Unit => True) (fun _ => .int .i64 20) (fun _ => cel j (jcells d nm n true) 70 :: pdisk d st' :: A)) := by
  have := journal_add_ok (j := j) (d := d) (c := c) hR hk hl hs hd hn
  rw [h] at this
  exact this
theorem walk_all_no {w0 : World} {A : List HProp} {pb : Option Addr} {pc : Nat} {ps : List (Sla UInt8)} {n keep again : Int} (hp : Rd w0 pb (bss ps)) (hsm : ¬ (ps.length ≤ 150 ∧ ∀ x ∈ ps, x.xs.length ≤ 1024)) :
    Fun Try.prog w0 6 [.slice pb ps.length pc, .int .i64 n, .int .i64 keep, .int .i64 again] A (Ret w0 (fun _ : Unit => True) (fun _ => .bool true) (fun _ => A)) := by
  have hd := law3_small (w0 := w0) (A := A) (pc := pc) ps (RdC.old hp) rfl
  rw [decide_eq_false hsm] at hd
  refine Fun.enter Try.func6 rfl Try.ntmps6 rfl ?_
  refine WC.seq <| WC.region <| sv (vaB rfl) <| WL.nil <| WX.thenN <| WC.seq <| WC.seq <| WC.region <| sv (vmS rfl) <| cl (hd) ct17 rfl fun _ _ => sv (vnot rfl) <| WL.nil <| WX.thenN <| ?_
  refine WC.tt rfl ?_
  exact WC.seq <| WC.region <| sv (vaB rfl) <| WL.nil <| WX.thenN <| WC.ret <| WX.thenR <| WX.ret1 rfl (()) (trivial) rfl (fun _ h => h)
theorem walk_all {w0 : World} {A : List HProp} {pb : Option Addr} {pc : Nat} {ps : List (Sla UInt8)} {n keep again : Int} (hp : Rd w0 pb (bss ps)) (hps : ∀ x ∈ ps, Rd w0 x.base (u8s x.xs)) (hpc : ps.length ≤ pc) (hn : n ≤ 9223372036854775807) (hag : again ≤ 9223372036854775807) (hsm : ps.length ≤ 150 ∧ ∀ x ∈ ps, x.xs.length ≤ 1024) :
    Fun Try.prog w0 6 [.slice pb ps.length pc, .int .i64 n, .int .i64 keep, .int .i64 again] A (Ret w0 (fun _ : Unit => True) (fun _ => .bool true) (fun _ => A)) := by
  have hd := law3_small (w0 := w0) (A := A) (pc := pc) ps (RdC.old hp) rfl
  rw [decide_eq_true hsm] at hd
  obtain ⟨rs, hrs⟩ : ∃ rs, rs = ps.map (·.xs) := ⟨_, rfl⟩
  have hrl : rs.length = ps.length := by rw [hrs, List.length_map]
  have hr1 : ∀ r ∈ rs, r.length ≤ 1024 := fun r hr => by rw [hrs] at hr; obtain ⟨x, hx, rfl⟩ := List.mem_map.1 hr; exact hsm.2 x hx
  have hr2 : ∀ r ∈ rs, r.length ≤ 1048576 := fun r hr => by have := hr1 r hr; omega
  have hfb : ∀ k, (flat (rs.take k)).length ≤ 1032 * 150 := fun k => by
    have h1 := flat_bound (rs := rs.take k) fun r hr => hr1 r (List.mem_of_mem_take hr)
    have h2 : (rs.take k).length ≤ 150 := by rw [List.length_take]; omega
    omega
  have hnew : (recsB (readS nmJ newD).1).1 = [] := by rw [Fl.new.read, recsB_nil]
  refine Fun.enter Try.func6 rfl Try.ntmps6 rfl ?_
  refine WC.seq <| WC.region <| sv (vaB rfl) <| WL.nil <| WX.thenN <| WC.seq <| WC.seq <| WC.region <| sv (vmS rfl) <| cl (hd) ct17 rfl fun _ _ => sv (vnot rfl) <| WL.nil <| WX.thenN <| ?_
  refine WC.ff rfl ?_
  refine WC.skip <| WX.thenN <| WC.seq <| WC.region <| cl (disk_new) ct8 rfl fun d _ => sv (vaP rfl) <| WL.nil <| WX.thenN <| WC.seq <| WC.region <| sv (vmP rfl) <| cl (journal_open_at (nm := nmJ) (by decide) open_new hnew) ct10 rfl fun i3 hi3 => ?_
  obtain ⟨u3, _⟩ := hi3
  have len3 : i3.2.2.2.length = 0 := by have := congrArg List.length u3; simpa using this
  refine sv vmv <| sv (vex rfl rfl) <| sv (vex rfl rfl) <| sv (vex rfl rfl) <| sv (vaP rfl) <| sv (vaS rfl) <| sv (vaI rfl) <| WL.nil <| WX.thenN <| WC.seq <| ?_
  refine WC.cut0 [(36, .bool false)] [(0, .slice _ _ _), (1, .int _ _), (2, .int _ _), (3, .int _ _), (9, .pointer _), (10, .pointer _)] (cel i3.1 (jcells d nmJ i3.2.2.2.length false) 70 :: pdisk d newD :: row i3.2.1 i3.2.2.1 1 22 (bss i3.2.2.2) :: rows 5 i3.2.2.2 :: A) ⟨rfl, rfl, rfl, rfl, rfl, rfl, trivial⟩ ?_ fun ρh => ?_
  · -- law.go:126
    exact WC.region <| sv (vmP rfl) <| sv (vpeqF Try.underlying27 rfl rfl) <| sv (vmB rfl) <| svg rfl (vmI rfl) <| svg rfl (vF (vne rfl rfl) (by omega)) <| sv (vpkf rfl) <| WL.nil <| WX.mid () trivial ⟨rfl, trivial⟩ ⟨rfl, rfl, rfl, rfl, rfl, rfl, trivial⟩ (fun _ h => h)
  refine WC.ff rfl ?_
  refine WC.skip <| WX.thenN <| WC.seq <| WC.region <| sv (vmP rfl) <| sv (vmI rfl) <| sv (vmI rfl) <| pm (fun _ h => h.pk1) <| cl (disk_arm hn) ct18 rfl fun _ _ => WL.nil <| WX.thenN <| WC.seq <| WC.region <| sv (vaI rfl) <| WL.nil <| WX.thenN <| ?_
  refine WC.cutv (ι := Nat × DSt × Bool) (fun i => [(13, .int .i64 i.1)]) [(0, .slice _ _ _), (3, .int _ _), (9, .pointer _), (10, .pointer _)] (fun i => pdisk d i.2.1 :: cel i3.1 (jcells d nmJ i.1 i.2.2) 70 :: A) (fun i => AllR rs i.1 i.2.1 i.2.2) ⟨rfl, rfl, rfl, rfl, trivial⟩ ?_ ?_
  · -- up to the join
    refine WC.block <| ?_
    refine WC.loop (ι := Nat × DSt) (fun i => [(13, .int .i64 i.1)]) [(0, .slice _ _ _), (3, .int _ _), (9, .pointer _), (10, .pointer _)] (fun i => pdisk d i.2 :: cel i3.1 (jcells d nmJ i.1 false) 70 :: A) (fun i => i.1 ≤ rs.length ∧ Fz i.2 nmJ (flat (rs.take i.1)) (2 * i.1)) (fun i => rs.length - i.1) ((0, { newD with fuse := max n 0, keep := keep })) (⟨by simp, ⟨rfl, by dsimp only; omega, by simp [newD], rfl⟩⟩) ⟨rfl, trivial⟩ ⟨rfl, rfl, rfl, rfl, trivial⟩ (fun w h => by rw [len3] at h; exact h.pk2.tail.pk2.tail) ?_
    rintro ⟨k, st⟩ ⟨v1, v2⟩ ρh
    dsimp only at v1 v2 ⊢
    have v4 := v2.deeds
    have hX : (∃ (hk : k < ps.length) (st' : DSt), addP nmJ (ps[k]).xs st = (st', 0) ∧ Fz st' nmJ (flat (rs.take (k + 1))) (2 * (k + 1 : Nat))) ∨
        (∃ (hk : k < ps.length) (st' : DSt), addP nmJ (ps[k]).xs st = (st', 20) ∧ AllR rs k st' true) ∨ k = ps.length := by
      rcases Nat.lt_or_ge k rs.length with hk | hk
      · have hkp : k < ps.length := by omega
        have hkx : (rs[k]) = (ps[k]).xs := by simp [hrs]
        have hb1 := hfb k
        have hb2 := hr1 (rs[k]) (List.getElem_mem hk)
        have htk : flat (rs.take (k + 1)) = flat (rs.take k) ++ frameB (rs[k]) := by rw [List.take_succ_eq_append_getElem hk, flat_append, Journal.flat_one]
        rcases v2.add (b := rs[k]) nmJ_ok (by omega) with ⟨st', e, v3⟩ | ⟨st', K, e, g1, g2, v3⟩
        · rw [hkx] at e
          exact .inl ⟨hkp, st', e, by rw [htk]; exact ⟨v3.off, v3.fuse, ⟨v3.deeds.1, by have := v3.deeds.2; omega⟩, v3.file⟩⟩
        · rw [hkx] at e
          exact .inr (.inl ⟨hkp, st', e, v1, .inr ⟨rfl, rs[k], K, List.getElem?_eq_getElem hk, g1, g2, v3⟩⟩)
      · exact .inr (.inr (by omega))
    rcases hX with ⟨hk, st', e, v3⟩ | ⟨hk, st', e, v3⟩ | hk
    · -- ok
      refine WC.seq <| ?_
      refine WC.cut0 [(53, .bool true)] [(0, .slice _ _ _), (3, .int _ _), (9, .pointer _), (10, .pointer _), (13, .int _ _)] (pdisk d st' :: cel i3.1 (jcells d nmJ (k + 1 : Nat) false) 70 :: A) ⟨rfl, rfl, rfl, rfl, rfl, trivial⟩ ?_ fun ρh => ?_
      · -- law.go:131
        exact WC.region <| sv (vmI rfl) <| sv (vmS rfl) <| sv (vlen Try.underlying28 rfl) <| sv (vT (vlt rfl rfl) (by omega)) <| sv (vmB rfl) <| svg rfl (vmP rfl) <| svg rfl (vmS rfl) <| svg rfl (vmI rfl) <| svg rfl (vix1 Try.underlying28 sz22 rfl rfl (by omega) (by omega) (RdC.old hp) (by rw [bss_length]; omega)) <| svg rfl (vldo pl22 rfl (RdC.old hp) (bss_at hk)) <| pm (fun _ h => h.pk1) <| gy rfl <| cl (journal_add_at (nm := nmJ) (rec := (ps[k]).xs) (RdC.old (hps _ (List.getElem_mem hk))) rfl (by have := hsm.2 _ (List.getElem_mem hk); omega) nmJ_len (by omega) (by omega) e) ct12 rfl fun _ _ => svg rfl (vT (veq rfl rfl) (by omega)) <| sv (vpkt rfl) <| WL.nil <| WX.mid () trivial ⟨rfl, trivial⟩ ⟨rfl, rfl, rfl, rfl, rfl, trivial⟩ (fun w h => h.pk1)
      refine WC.tt rfl ?_
      exact WC.skip <| WX.thenN <| WC.block <| WC.region <| sv (vmI rfl) <| sv (vadd rfl rfl (by omega)) <| sv (vaI rfl) <| WL.nil <| WX.blockN <| WX.again ((k + 1, st')) (⟨by dsimp only; omega, v3⟩) (by dsimp only; omega) ⟨rfl, trivial⟩ ⟨rfl, rfl, rfl, rfl, trivial⟩ (fun _ h => h)
    · -- dead
      refine WC.seq <| ?_
      refine WC.cut0 [(53, .bool false)] [(0, .slice _ _ _), (3, .int _ _), (9, .pointer _), (10, .pointer _), (13, .int _ _)] (pdisk d st' :: cel i3.1 (jcells d nmJ k true) 70 :: A) ⟨rfl, rfl, rfl, rfl, rfl, trivial⟩ ?_ fun ρh => ?_
      · -- law.go:131
        exact WC.region <| sv (vmI rfl) <| sv (vmS rfl) <| sv (vlen Try.underlying28 rfl) <| sv (vT (vlt rfl rfl) (by omega)) <| sv (vmB rfl) <| svg rfl (vmP rfl) <| svg rfl (vmS rfl) <| svg rfl (vmI rfl) <| svg rfl (vix1 Try.underlying28 sz22 rfl rfl (by omega) (by omega) (RdC.old hp) (by rw [bss_length]; omega)) <| svg rfl (vldo pl22 rfl (RdC.old hp) (bss_at hk)) <| pm (fun _ h => h.pk1) <| gy rfl <| cl (journal_add_down (nm := nmJ) (rec := (ps[k]).xs) (RdC.old (hps _ (List.getElem_mem hk))) rfl (by have := hsm.2 _ (List.getElem_mem hk); omega) nmJ_len (by omega) (by omega) e) ct12 rfl fun _ _ => svg rfl (vF (veq rfl rfl) (by omega)) <| sv (vpkt rfl) <| WL.nil <| WX.mid () trivial ⟨rfl, trivial⟩ ⟨rfl, rfl, rfl, rfl, rfl, trivial⟩ (fun w h => h.pk1)
      refine WC.ff rfl ?_
      exact WC.exit <| WX.thenE <| WX.thenE <| WX.blockH <| WX.mid ((k, st', true)) (v3) ⟨rfl, trivial⟩ ⟨rfl, rfl, rfl, rfl, trivial⟩ (fun _ h => h)
    · -- full
      refine WC.seq <| ?_
      refine WC.cut0 [(53, .bool false)] [(0, .slice _ _ _), (3, .int _ _), (9, .pointer _), (10, .pointer _), (13, .int _ _)] (pdisk d st :: cel i3.1 (jcells d nmJ k false) 70 :: A) ⟨rfl, rfl, rfl, rfl, rfl, trivial⟩ ?_ fun ρh => ?_
      · -- law.go:131
        exact WC.region <| sv (vmI rfl) <| sv (vmS rfl) <| sv (vlen Try.underlying28 rfl) <| sv (vF (vlt rfl rfl) (by omega)) <| sv (vmB rfl) <| sng rfl <| sng rfl <| sng rfl <| sng rfl <| sng rfl <| sng rfl <| sng rfl <| sv (vpkf rfl) <| WL.nil <| WX.mid () trivial ⟨rfl, trivial⟩ ⟨rfl, rfl, rfl, rfl, rfl, trivial⟩ (fun _ h => h)
      refine WC.ff rfl ?_
      exact WC.exit <| WX.thenE <| WX.thenE <| WX.blockH <| WX.mid ((k, st, false)) (⟨v1, .inl ⟨rfl, by dsimp only; omega, by rw [show rs = rs.take k from (List.take_of_length_le (by omega)).symm]; exact v2⟩⟩) ⟨rfl, trivial⟩ ⟨rfl, rfl, rfl, rfl, trivial⟩ (fun _ h => h)
  · -- behind the join
    rintro ⟨k, st, sick⟩ hall ρh
    dsimp only at hall ⊢
    have hk := hall.1
    obtain ⟨c, m, hz, hc1, hm1, hm2, hm3⟩ := hall.found hr2 (max again 0) (by omega)
    refine WC.cutv (ι := Unit) (fun i => []) [(0, .slice _ _ _), (3, .int _ _), (9, .pointer _), (13, .int _ _)] (fun i => pdisk d st :: A) (fun i => True) ⟨rfl, rfl, rfl, rfl, trivial⟩ ?_ ?_
    · -- up to the join
      rcases hall.2 with ⟨hs, hk2, _⟩ | ⟨hs, _, _, hk2, _⟩
      all_goals subst hs
      · -- alive
        refine WC.cut0 [(64, .bool false)] [(0, .slice _ _ _), (3, .int _ _), (9, .pointer _), (13, .int _ _)] (pdisk d st :: cel i3.1 (jcells d nmJ k false) 70 :: A) ⟨rfl, rfl, rfl, rfl, trivial⟩ ?_ fun ρh => ?_
        · -- law.go:134
          exact WC.region <| sv (vmI rfl) <| sv (vmS rfl) <| sv (vlen Try.underlying28 rfl) <| sv (vF (vlt rfl rfl) (by omega)) <| sv (vmB rfl) <| sng rfl <| sng rfl <| sng rfl <| sv (vpkf rfl) <| WL.nil <| WX.mid () trivial ⟨rfl, trivial⟩ ⟨rfl, rfl, rfl, rfl, trivial⟩ (fun _ h => h)
        refine WC.ff rfl ?_
        exact WC.skip <| WX.mid (()) (trivial) trivial ⟨rfl, rfl, rfl, rfl, trivial⟩ (fun w h => h.pk1.tail)
      · -- dead2
        have hk3 := (List.getElem?_eq_some_iff.1 hk2).1
        refine WC.cut0 [(64, .bool false)] [(0, .slice _ _ _), (3, .int _ _), (9, .pointer _), (13, .int _ _)] (cel i3.1 (jcells d nmJ k true) 70 :: pdisk d st :: A) ⟨rfl, rfl, rfl, rfl, trivial⟩ ?_ fun ρh => ?_
        · -- law.go:134
          exact WC.region <| sv (vmI rfl) <| sv (vmS rfl) <| sv (vlen Try.underlying28 rfl) <| sv (vT (vlt rfl rfl) (by omega)) <| sv (vmB rfl) <| svg rfl (vmP rfl) <| pm (fun _ h => h.pk1) <| gy rfl <| cl (journal_add_sick) ct12 rfl fun _ _ => svg rfl (vF (vne rfl rfl) (by omega)) <| sv (vpkt rfl) <| WL.nil <| WX.mid () trivial ⟨rfl, trivial⟩ ⟨rfl, rfl, rfl, rfl, trivial⟩ (fun _ h => h)
        refine WC.ff rfl ?_
        exact WC.skip <| WX.mid (()) (trivial) trivial ⟨rfl, rfl, rfl, rfl, trivial⟩ (fun w h => h.tail)
    · -- behind the join
      intro _ _ ρh
      rcases hz.open_ nmJ_ok with ⟨st3, e3, z3⟩ | ⟨stb, eb, zb⟩
      · -- good
        have hre : (recsB (readS nmJ { { st with off := false } with fuse := max again 0, keep := 0 }).1).1 = rs.take m := by rw [hz.read, hc1]
        rw [hc1] at z3
        have zd := hz.deeds
        have zd3 := z3.deeds
        have FL : Fl { st3 with fuse := max 0 0, keep := 0 } nmJ (flat (rs.take m)) st3.deeds := ⟨z3.off, rfl, rfl, congrArg Prod.fst z3.file⟩
        refine WC.seq <| WC.region <| sv (vmP rfl) <| cl (disk_on) ct19 rfl fun _ _ => WL.nil <| WX.thenN <| WC.seq <| WC.region <| sv (vmP rfl) <| sv (vmI rfl) <| cl (disk_arm hag) ct18 rfl fun _ _ => WL.nil <| WX.thenN <| WC.seq <| WC.region <| sv (vmP rfl) <| cl (journal_open_at (nm := nmJ) (by have := hz.deeds; dsimp only at this ⊢; omega) e3 hre) ct10 rfl fun iq hiq => ?_
        obtain ⟨uq, vq⟩ := hiq
        refine sv vmv <| sv (vex rfl rfl) <| sv (vex rfl rfl) <| sv (vex rfl rfl) <| sv (vaP rfl) <| sv (vaS rfl) <| sv (vaI rfl) <| WL.nil <| WX.thenN <| WC.seq <| WC.seq <| WC.region <| sv (vmI rfl) <| sv (vne rfl rfl) <| WL.nil <| WX.thenN <| ?_
        refine WC.ite rfl (fun h8 => ?_) (fun h8 => ?_)
        · -- then
          exact absurd rfl h8
        · -- else
          refine WC.skip <| WX.thenN <| WC.seq <| WC.region <| sv (vmP rfl) <| pm (fun _ h => h.pk1) <| cl (disk_arm (by decide)) ct18 rfl fun _ _ => ?_
          have lenq : iq.2.2.2.length = m := by have := congrArg List.length uq; rw [List.length_map, List.length_take] at this; omega
          have hb3 := hfb m
          obtain ⟨s5, e5, f5, _⟩ := FL.add (b := [98, 101, 104, 105, 110, 100]) nmJ_ok (by simp only [List.length_cons, List.length_nil]; omega)
          obtain ⟨s6, n6, e6, f6, l6, m6, _⟩ := f5.open nmJ_ok
          have d5 := f5.deeds
          have hr6 : (recsB (readS nmJ s5).1).1 = rs.take m ++ [[98, 101, 104, 105, 110, 100]] := by
            have h := recsB_flat (rs.take m) (frameB [98, 101, 104, 105, 110, 100]) fun r hr => hr2 r (List.mem_of_mem_take hr)
            have h2 := recsB_frame (r := [98, 101, 104, 105, 110, 100]) (by decide) []
            rw [List.append_nil, recsB_nil] at h2
            rw [h2] at h
            rw [f5.read, h]
          refine WL.nil <| WX.thenN <| WC.seq <| ?_
          refine WC.cut0 [(129, .bool false)] [(9, .pointer _), (14, .pointer _), (15, .slice _ _ _)] (pdisk d { st3 with fuse := max 0 0, keep := 0 } :: cel iq.1 (jcells d nmJ iq.2.2.2.length false) 70 :: row iq.2.1 iq.2.2.1 1 22 (bss iq.2.2.2) :: rows 5 iq.2.2.2 :: A) ⟨rfl, rfl, rfl, trivial⟩ ?_ fun ρh => ?_
          · -- law.go:145
            exact WC.region <| sv (vmP rfl) <| sv (vpeqF Try.underlying27 rfl rfl) <| sv (vmB rfl) <| svg rfl (vmI rfl) <| svg rfl (vF (vne rfl rfl) (by omega)) <| sv (vpkf rfl) <| sv (vmB rfl) <| svg rfl (vmS rfl) <| svg rfl (vlen Try.underlying28 rfl) <| svg rfl (vmI rfl) <| svg rfl (vF (vlt rfl rfl) (by omega)) <| sv (vpkf rfl) <| sv (vmB rfl) <| svg rfl (vmS rfl) <| svg rfl (vlen Try.underlying28 rfl) <| svg rfl (vmI rfl) <| svg rfl (vadd rfl rfl (by omega)) <| svg rfl (vF (vgt rfl rfl) (by omega)) <| sv (vpkf rfl) <| sv (vmB rfl) <| svg rfl (vmS rfl) <| svg rfl (vlen Try.underlying28 rfl) <| svg rfl (vmS rfl) <| svg rfl (vlen Try.underlying28 rfl) <| svg rfl (vF (vgt rfl rfl) (by omega)) <| sv (vpkf rfl) <| sv (vmB rfl) <| svg rfl (vmS rfl) <| svg rfl (vmS rfl) <| svg rfl (vmS rfl) <| svg rfl (vlen Try.underlying28 rfl) <| svg rfl (vslH Try.underlying28 sz22 rfl rfl (by omega) (by omega)) <| gy rfl <| cl (law3_same_true iq.2.2.2 (ps.take iq.2.2.2.length) reads (fun x hx => RdC.of_rows (e := 5) (by simp) hx) (by rw [bss_take]; exact (RdC.old hp).take _) (fun x hx => RdC.old (hps x (List.mem_of_mem_take hx))) rfl (by rw [List.length_take]; omega) (by omega) (by rw [uq, List.map_take, ← hrs, lenq])) ct11 rfl fun _ _ => svg rfl (vnot rfl) <| sv (vpkf rfl) <| sv (vmB rfl) <| svg rfl (vmP rfl) <| pm (fun _ h => h.pk1) <| gy rfl <| cl (journal_len) ct16 rfl fun _ _ => svg rfl (vmS rfl) <| svg rfl (vlen Try.underlying28 rfl) <| svg rfl (vF (vne rfl rfl) (by omega)) <| sv (vpkf rfl) <| WL.nil <| WX.mid () trivial ⟨rfl, trivial⟩ ⟨rfl, rfl, rfl, trivial⟩ (fun w h => h.pk1)
          refine WC.ff rfl ?_
          refine WC.skip <| WX.thenN <| WC.seq <| WC.region <| sv (vmP rfl) <| bslb [98, 101, 104, 105, 110, 100] rfl Try.underlying22 zt5 (by simp [enumP, ev, u8s, u8v]) (by decide) fun b22 => cvm Try.underlying22 Try.underlying5 rfl <| pm (fun _ h => h.pk2.pk2.pk1) <| cl (journal_add_at (nm := nmJ) (rec := [98, 101, 104, 105, 110, 100]) reads rfl (by decide) nmJ_len (by dsimp only; omega) (by omega) e5) ct12 rfl fun _ _ => sv (vaI rfl) <| WL.nil <| WX.thenN <| WC.seq <| WC.region <| sv (vmP rfl) <| pm (fun _ h => h.pk1) <| cl (journal_open_at (nm := nmJ) (by omega) e6 hr6) ct10 rfl fun ie hie => ?_
          obtain ⟨ue, ve⟩ := hie
          have lene : ie.2.2.2.length = m + 1 := by have := congrArg List.length ue; rw [List.length_map, List.length_append, List.length_take] at this; simp at this; omega
          have hke : iq.2.2.2.length < ie.2.2.2.length := by omega
          have hlast : (ie.2.2.2[iq.2.2.2.length]).xs = [98, 101, 104, 105, 110, 100] := by
            have h1 := congrArg (fun l => l[m]?) ue
            have h2 : (rs.take m).length = m := by rw [List.length_take]; omega
            rw [List.getElem?_map, List.getElem?_append_right (by omega), h2, Nat.sub_self] at h1
            have h3 : m < ie.2.2.2.length := by omega
            rw [List.getElem?_eq_getElem h3] at h1
            simp only [lenq]
            simpa using h1
          have htk : (ie.2.2.2.take iq.2.2.2.length).map (·.xs) = iq.2.2.2.map (·.xs) := by
            rw [List.map_take, ue, uq, lenq]; exact List.take_left' (by rw [List.length_take]; omega)
          refine sv vmv <| sv (vex rfl rfl) <| sv (vex rfl rfl) <| sv (vex rfl rfl) <| sv (vaP rfl) <| sv (vaS rfl) <| sv (vaI rfl) <| WL.nil <| WX.thenN <| ?_
          refine WC.cut0 [(8, .bool true)] [] (A) trivial ?_ fun ρh => ?_
          · -- law.go:150
            exact WC.region <| cl (law3_awake) ct13 rfl fun _ _ => sv (vmB rfl) <| svg rfl (vmI rfl) <| svg rfl (vT (veq rfl rfl) (by omega)) <| sv (vpkt rfl) <| sv (vmB rfl) <| svg rfl (vmI rfl) <| svg rfl (vT (veq rfl rfl) (by omega)) <| sv (vpkt rfl) <| sv (vmB rfl) <| svg rfl (vmS rfl) <| svg rfl (vlen Try.underlying28 rfl) <| svg rfl (vmS rfl) <| svg rfl (vlen Try.underlying28 rfl) <| svg rfl (vadd rfl rfl (by omega)) <| svg rfl (vT (veq rfl rfl) (by omega)) <| sv (vpkt rfl) <| sv (vmB rfl) <| svg rfl (vmS rfl) <| svg rfl (vmS rfl) <| svg rfl (vlen Try.underlying28 rfl) <| svg rfl (vslH Try.underlying28 sz22 rfl rfl (by omega) (by omega)) <| svg rfl (vmS rfl) <| gy rfl <| cl (law3_same_true (ie.2.2.2.take iq.2.2.2.length) iq.2.2.2 (by rw [bss_take]; exact reads.take _) (fun x hx => RdC.of_rows (e := 5) (l := ie.2.2.2) (by simp) (List.mem_of_mem_take hx)) reads (fun x hx => RdC.of_rows (e := 5) (by simp) hx) (by rw [List.length_take]; omega) rfl (by rw [List.length_take]; omega) htk) ct11 rfl fun _ _ => sv (vpkt rfl) <| sv (vmB rfl) <| svg rfl (vmS rfl) <| svg rfl (vmS rfl) <| svg rfl (vlen Try.underlying28 rfl) <| svg rfl (vix1 Try.underlying28 sz22 rfl rfl (by omega) (by omega) reads (by rw [bss_length]; omega)) <| svg rfl (vldo pl22 rfl reads (bss_at hke)) <| svg rfl (vstr Try.underlying22 Try.underlying5 Try.underlying9 rfl (RdC.of_rows (e := 5) (l := ie.2.2.2) (by simp) (List.getElem_mem hke)) rfl) <| svg rfl (vT (veqs rfl rfl) (bytes_eq.2 hlast)) <| sv (vpkt rfl) <| sv (vaB rfl) <| WL.nil <| WX.mid () trivial ⟨rfl, trivial⟩ trivial (fun w h => h.suf)
          exact WC.ret <| WX.ret1 rfl (()) (trivial) rfl (fun _ h => h)
      · -- bad
        have zd := hz.deeds
        have zdb := zb.deeds
        have FLb : Fl { stb with off := false } nmJ c stb.deeds := ⟨rfl, zb.fuse, rfl, by dsimp only; rw [zb.file]; rfl⟩
        obtain ⟨st3, n3, e3, f3, l3, m3, _⟩ := FLb.open nmJ_ok
        have hre : (recsB (readS nmJ { stb with off := false }).1).1 = rs.take m := by rw [FLb.read, hc1]
        rw [hc1] at f3
        have zd3 : 0 ≤ st3.deeds ∧ st3.deeds ≤ 2 * k + 4 := by have := f3.deeds; omega
        have FL : Fl { st3 with fuse := max 0 0, keep := 0 } nmJ (flat (rs.take m)) st3.deeds := ⟨f3.off, rfl, rfl, f3.file⟩
        refine WC.seq <| WC.region <| sv (vmP rfl) <| cl (disk_on) ct19 rfl fun _ _ => WL.nil <| WX.thenN <| WC.seq <| WC.region <| sv (vmP rfl) <| sv (vmI rfl) <| cl (disk_arm hag) ct18 rfl fun _ _ => WL.nil <| WX.thenN <| WC.seq <| WC.region <| sv (vmP rfl) <| cl (journal_open_bad (nm := nmJ) (by have := hz.deeds; dsimp only at this ⊢; omega) rfl nmJ_ok (show (20 : Int) ≠ 0 by decide) eb) ct10 rfl fun _ _ => sv vmv <| sv (vex rfl rfl) <| sv (vex rfl rfl) <| sv (vex rfl rfl) <| sv (vaP rfl) <| sv (vaS rfl) <| sv (vaI rfl) <| WL.nil <| WX.thenN <| WC.seq <| WC.seq <| WC.region <| sv (vmI rfl) <| sv (vne rfl rfl) <| WL.nil <| WX.thenN <| ?_
        refine WC.ite rfl (fun h10 => ?_) (fun h10 => ?_)
        · -- then
          refine WC.seq <| WC.region <| sv (vmP rfl) <| cl (disk_on) ct19 rfl fun _ _ => WL.nil <| WX.thenN <| WC.region <| sv (vmP rfl) <| cl (journal_open_at (nm := nmJ) (by dsimp only; omega) e3 hre) ct10 rfl fun iq hiq => ?_
          obtain ⟨uq, vq⟩ := hiq
          refine sv vmv <| sv (vex rfl rfl) <| sv (vex rfl rfl) <| sv (vex rfl rfl) <| sv (vaP rfl) <| sv (vaS rfl) <| sv (vaI rfl) <| WL.nil <| WX.thenN <| WC.seq <| WC.region <| sv (vmP rfl) <| pm (fun _ h => h.pk1) <| cl (disk_arm (by decide)) ct18 rfl fun _ _ => ?_
          have lenq : iq.2.2.2.length = m := by have := congrArg List.length uq; rw [List.length_map, List.length_take] at this; omega
          have hb3 := hfb m
          obtain ⟨s5, e5, f5, _⟩ := FL.add (b := [98, 101, 104, 105, 110, 100]) nmJ_ok (by simp only [List.length_cons, List.length_nil]; omega)
          obtain ⟨s6, n6, e6, f6, l6, m6, _⟩ := f5.open nmJ_ok
          have d5 := f5.deeds
          have hr6 : (recsB (readS nmJ s5).1).1 = rs.take m ++ [[98, 101, 104, 105, 110, 100]] := by
            have h := recsB_flat (rs.take m) (frameB [98, 101, 104, 105, 110, 100]) fun r hr => hr2 r (List.mem_of_mem_take hr)
            have h2 := recsB_frame (r := [98, 101, 104, 105, 110, 100]) (by decide) []
            rw [List.append_nil, recsB_nil] at h2
            rw [h2] at h
            rw [f5.read, h]
          refine WL.nil <| WX.thenN <| WC.seq <| ?_
          refine WC.cut0 [(129, .bool false)] [(9, .pointer _), (14, .pointer _), (15, .slice _ _ _)] (pdisk d { st3 with fuse := max 0 0, keep := 0 } :: cel iq.1 (jcells d nmJ iq.2.2.2.length false) 70 :: row iq.2.1 iq.2.2.1 1 22 (bss iq.2.2.2) :: rows 5 iq.2.2.2 :: A) ⟨rfl, rfl, rfl, trivial⟩ ?_ fun ρh => ?_
          · -- law.go:145
            exact WC.region <| sv (vmP rfl) <| sv (vpeqF Try.underlying27 rfl rfl) <| sv (vmB rfl) <| svg rfl (vmI rfl) <| svg rfl (vF (vne rfl rfl) (by omega)) <| sv (vpkf rfl) <| sv (vmB rfl) <| svg rfl (vmS rfl) <| svg rfl (vlen Try.underlying28 rfl) <| svg rfl (vmI rfl) <| svg rfl (vF (vlt rfl rfl) (by omega)) <| sv (vpkf rfl) <| sv (vmB rfl) <| svg rfl (vmS rfl) <| svg rfl (vlen Try.underlying28 rfl) <| svg rfl (vmI rfl) <| svg rfl (vadd rfl rfl (by omega)) <| svg rfl (vF (vgt rfl rfl) (by omega)) <| sv (vpkf rfl) <| sv (vmB rfl) <| svg rfl (vmS rfl) <| svg rfl (vlen Try.underlying28 rfl) <| svg rfl (vmS rfl) <| svg rfl (vlen Try.underlying28 rfl) <| svg rfl (vF (vgt rfl rfl) (by omega)) <| sv (vpkf rfl) <| sv (vmB rfl) <| svg rfl (vmS rfl) <| svg rfl (vmS rfl) <| svg rfl (vmS rfl) <| svg rfl (vlen Try.underlying28 rfl) <| svg rfl (vslH Try.underlying28 sz22 rfl rfl (by omega) (by omega)) <| gy rfl <| cl (law3_same_true iq.2.2.2 (ps.take iq.2.2.2.length) reads (fun x hx => RdC.of_rows (e := 5) (by simp) hx) (by rw [bss_take]; exact (RdC.old hp).take _) (fun x hx => RdC.old (hps x (List.mem_of_mem_take hx))) rfl (by rw [List.length_take]; omega) (by omega) (by rw [uq, List.map_take, ← hrs, lenq])) ct11 rfl fun _ _ => svg rfl (vnot rfl) <| sv (vpkf rfl) <| sv (vmB rfl) <| svg rfl (vmP rfl) <| pm (fun _ h => h.pk1) <| gy rfl <| cl (journal_len) ct16 rfl fun _ _ => svg rfl (vmS rfl) <| svg rfl (vlen Try.underlying28 rfl) <| svg rfl (vF (vne rfl rfl) (by omega)) <| sv (vpkf rfl) <| WL.nil <| WX.mid () trivial ⟨rfl, trivial⟩ ⟨rfl, rfl, rfl, trivial⟩ (fun w h => h.pk1)
          refine WC.ff rfl ?_
          refine WC.skip <| WX.thenN <| WC.seq <| WC.region <| sv (vmP rfl) <| bslb [98, 101, 104, 105, 110, 100] rfl Try.underlying22 zt5 (by simp [enumP, ev, u8s, u8v]) (by decide) fun b22 => cvm Try.underlying22 Try.underlying5 rfl <| pm (fun _ h => h.pk2.pk2.pk1) <| cl (journal_add_at (nm := nmJ) (rec := [98, 101, 104, 105, 110, 100]) reads rfl (by decide) nmJ_len (by dsimp only; omega) (by omega) e5) ct12 rfl fun _ _ => sv (vaI rfl) <| WL.nil <| WX.thenN <| WC.seq <| WC.region <| sv (vmP rfl) <| pm (fun _ h => h.pk1) <| cl (journal_open_at (nm := nmJ) (by omega) e6 hr6) ct10 rfl fun ie hie => ?_
          obtain ⟨ue, ve⟩ := hie
          have lene : ie.2.2.2.length = m + 1 := by have := congrArg List.length ue; rw [List.length_map, List.length_append, List.length_take] at this; simp at this; omega
          have hke : iq.2.2.2.length < ie.2.2.2.length := by omega
          have hlast : (ie.2.2.2[iq.2.2.2.length]).xs = [98, 101, 104, 105, 110, 100] := by
            have h1 := congrArg (fun l => l[m]?) ue
            have h2 : (rs.take m).length = m := by rw [List.length_take]; omega
            rw [List.getElem?_map, List.getElem?_append_right (by omega), h2, Nat.sub_self] at h1
            have h3 : m < ie.2.2.2.length := by omega
            rw [List.getElem?_eq_getElem h3] at h1
            simp only [lenq]
            simpa using h1
          have htk : (ie.2.2.2.take iq.2.2.2.length).map (·.xs) = iq.2.2.2.map (·.xs) := by
            rw [List.map_take, ue, uq, lenq]; exact List.take_left' (by rw [List.length_take]; omega)
          refine sv vmv <| sv (vex rfl rfl) <| sv (vex rfl rfl) <| sv (vex rfl rfl) <| sv (vaP rfl) <| sv (vaS rfl) <| sv (vaI rfl) <| WL.nil <| WX.thenN <| ?_
          refine WC.cut0 [(8, .bool true)] [] (A) trivial ?_ fun ρh => ?_
          · -- law.go:150
            exact WC.region <| cl (law3_awake) ct13 rfl fun _ _ => sv (vmB rfl) <| svg rfl (vmI rfl) <| svg rfl (vT (veq rfl rfl) (by omega)) <| sv (vpkt rfl) <| sv (vmB rfl) <| svg rfl (vmI rfl) <| svg rfl (vT (veq rfl rfl) (by omega)) <| sv (vpkt rfl) <| sv (vmB rfl) <| svg rfl (vmS rfl) <| svg rfl (vlen Try.underlying28 rfl) <| svg rfl (vmS rfl) <| svg rfl (vlen Try.underlying28 rfl) <| svg rfl (vadd rfl rfl (by omega)) <| svg rfl (vT (veq rfl rfl) (by omega)) <| sv (vpkt rfl) <| sv (vmB rfl) <| svg rfl (vmS rfl) <| svg rfl (vmS rfl) <| svg rfl (vlen Try.underlying28 rfl) <| svg rfl (vslH Try.underlying28 sz22 rfl rfl (by omega) (by omega)) <| svg rfl (vmS rfl) <| gy rfl <| cl (law3_same_true (ie.2.2.2.take iq.2.2.2.length) iq.2.2.2 (by rw [bss_take]; exact reads.take _) (fun x hx => RdC.of_rows (e := 5) (l := ie.2.2.2) (by simp) (List.mem_of_mem_take hx)) reads (fun x hx => RdC.of_rows (e := 5) (by simp) hx) (by rw [List.length_take]; omega) rfl (by rw [List.length_take]; omega) htk) ct11 rfl fun _ _ => sv (vpkt rfl) <| sv (vmB rfl) <| svg rfl (vmS rfl) <| svg rfl (vmS rfl) <| svg rfl (vlen Try.underlying28 rfl) <| svg rfl (vix1 Try.underlying28 sz22 rfl rfl (by omega) (by omega) reads (by rw [bss_length]; omega)) <| svg rfl (vldo pl22 rfl reads (bss_at hke)) <| svg rfl (vstr Try.underlying22 Try.underlying5 Try.underlying9 rfl (RdC.of_rows (e := 5) (l := ie.2.2.2) (by simp) (List.getElem_mem hke)) rfl) <| svg rfl (vT (veqs rfl rfl) (bytes_eq.2 hlast)) <| sv (vpkt rfl) <| sv (vaB rfl) <| WL.nil <| WX.mid () trivial ⟨rfl, trivial⟩ trivial (fun w h => h.suf)
          exact WC.ret <| WX.ret1 rfl (()) (trivial) rfl (fun _ h => h)
        · -- else
          exact absurd (show (20 : Int) ≠ 0 by decide) h10
theorem walk_all_any {w0 : World} {A : List HProp} {pb : Option Addr} {pc : Nat} {ps : List (Sla UInt8)} {n keep again : Int} (hp : Rd w0 pb (bss ps)) (hps : ∀ x ∈ ps, Rd w0 x.base (u8s x.xs)) (hpc : ps.length ≤ pc) (hn : n ≤ 9223372036854775807) (hag : again ≤ 9223372036854775807) :
    Fun Try.prog w0 6 [.slice pb ps.length pc, .int .i64 n, .int .i64 keep, .int .i64 again] A (Ret w0 (fun _ : Unit => True) (fun _ => .bool true) (fun _ => A)) := by
  by_cases hsm : ps.length ≤ 150 ∧ ∀ x ∈ ps, x.xs.length ≤ 1024
  · exact walk_all hp hps hpc hn hag hsm
  · exact walk_all_no hp hsm
end Go.Proofs.Ytephlppgappcnaa
