/-
  Texts one behind the other: RaftSpecC, RaftSpecD, RaftSpecE, RaftSpecF, RaftTick, RaftAsk, RaftMore, CouncilInv, RaftFed, RaftMay, RaftTake, RaftTakeB, SlIface, CouncilMem, SlDel, PackSpecB, SlFlat, CouncilStepA, CouncilStepB, CouncilStepC, CouncilStepD, CouncilStepE, PackSpecC, PackRefSum, PackSpecD.
-/
import Derived.Test.YtigjompojlhomaaGreatPg2
section
set_option linter.unusedVariables false
set_option linter.unusedSimpArgs false
set_option maxRecDepth 4000
namespace Go.Proofs.YtigjompojlhomaaGreat
open Go.Sl Go.RowKit Go.Raft
variable {w0 : World} {A : List HProp}
def mvs (l : List Mh) : List Value := l.flatMap mv
theorem mvs_length (l : List Mh) : (mvs l).length = l.length * 9 := flat_len (fun _ _ => rfl)
theorem mvs_snoc (l : List Mh) (m : Mh) : mvs (l ++ [m]) = mvs l ++ mv m := by simp [mvs]
def mrows : List Mh → HProp
 | [] => emp
 | m :: l => star (row m.cs.base m.cs.cap 2 89 (cvs m.cs.xs)) (mrows l)
theorem mrows_snoc {w0 w : World} {y : Mh} : ∀ {l : List Mh} {A : List HProp}, Own w0 (row y.cs.base y.cs.cap 2 89 (cvs y.cs.xs) :: mrows l :: A) w → Own w0 (mrows (l ++ [y]) :: A) w
 | [], A, H => H.intro_star
 | z :: l, A, H => by
  have h1 := H.pk1.star.pk1.pk2
  exact ((mrows_snoc (l := l) (h1.ix [0, 1, 2])).ix [1, 0]).intro_star
def outC (b : Nat) (l : List Ml) : HProp := fun h => ∃ base c ms, (ms.map Mh.ml = l ∧ ms.length ≤ c) ∧ star (mrows ms) (star (cel b [.slice base ms.length c] 41) (row base c 9 85 (mvs ms))) h
theorem outC_mk {w0 w : World} {A : List HProp} {b n c : Nat} {base : Option Addr} {ms : List Mh} {l : List Ml} (hl : ms.map Mh.ml = l) (hn : n = ms.length) (hc : n ≤ c) (H : Own w0 (mrows ms :: cel b [.slice base n c] 41 :: row base c 9 85 (mvs ms) :: A) w) : Own w0 (outC b l :: A) w := by
 subst hn
 exact (H.pk2.pk2.intro_star.pk1.intro_star).head fun _ h => ⟨base, c, ms, ⟨hl, hc⟩, h⟩
theorem outC_nil {w0 w : World} {A : List HProp} {b : Nat} (H : Own w0 (cel b [.slice none 0 0] 41 :: A) w) : Own w0 (outC b [] :: A) w :=
 outC_mk (ms := []) (n := 0) (c := 0) (base := none) rfl rfl (Nat.le_refl _) ((H.intro_row_nil.pk1).intro_emp)
theorem outC_open {w0 w : World} {A : List HProp} {b : Nat} {l : List Ml} (H : Own w0 (outC b l :: A) w) : ∃ i : Option Addr × Nat × List Mh, (i.2.2.map Mh.ml = l ∧ i.2.2.length ≤ i.2.1) ∧ Own w0 (cel b [.slice i.1 i.2.2.length i.2.1] 41 :: row i.1 i.2.1 9 85 (mvs i.2.2) :: mrows i.2.2 :: A) w := by
 obtain ⟨hb, h, ⟨h1, h2, ⟨base, c, ms, hl, a⟩, a2, dd, x⟩, hw⟩ := H
 have h3 : Own w0 (star (mrows ms) (star (cel b [.slice base ms.length c] 41) (row base c 9 85 (mvs ms))) :: A) w := ⟨hb, h, ⟨h1, h2, a, a2, dd, x⟩, hw⟩
 exact ⟨(base, c, ms), hl, h3.star.pk1.star⟩
theorem oth_id {id : Int} {k : Nat} (h : (k : Int) + 1 = id) : oth id (k + 1) = oth id k := by simp [oth, h]
theorem oth_snoc {id : Int} {k : Nat} (h : (k : Int) + 1 ≠ id) : oth id (k + 1) = oth id k ++ [(k : Int) + 1] := by simp [oth, h]
theorem peer_at {x : Rn} {ps : List (Int × Nat)} (hps : ps.map Prod.fst = others x) {k : Int} (hk : k ∈ others x) : ∃ (j b : Nat), ps[j]? = some (k, b) := by
 rw [← hps] at hk
 obtain ⟨q, hq, rfl⟩ := List.mem_map.1 hk
 obtain ⟨j, hj⟩ := List.mem_iff_getElem?.1 hq
 exact ⟨j, q.2, hj⟩
theorem raft_feedAll {w0 : World} {R : List HProp} {p c m : Nat} {base : Option Addr} {vv : Value} {x : Rn} {ps : List (Int × Nat)} (hn : 0 ≤ x.n ∧ x.n ≤ 5) (hl : x.log.length ≤ 10000) (hc : x.log.length ≤ c) (hk : ∀ k ∈ others x, 1 ≤ x.nx k ∧ x.nx k ≤ (x.log.length : Int) + 1) (hps : ps.map Prod.fst = others x) :
  Fun Tryz.prog w0 131 [.pointer (some ⟨p, 0, none⟩)] (cel p (ncells x base c vv (.map (some m))) 150 :: row base c 2 89 (cvs x.log) :: mp (.int .i64) m (pents ps) :: peersC x.nx x.mt ps :: R)
   (Ret w0 (fun i : Option Addr × Nat × List Mh => i.2.2.map Mh.ml = (feedAllS x).2 ∧ i.2.2.length ≤ i.2.1) (fun i => .slice i.1 i.2.2.length i.2.1) (fun i => row i.1 i.2.1 9 85 (mvs i.2.2) :: mrows i.2.2 :: cel p (ncells (feedAllS x).1 base c vv (.map (some m))) 150 :: row base c 2 89 (cvs x.log) :: mp (.int .i64) m (pents ps) :: peersC x.nx x.mt ps :: R)) := by
 refine Fun.enterM Tryz.func131 rfl Tryz.ntmps131 rfl ?_
 refine wS $ wR $ bxc (v := .pointer _) (cs := [.pointer _]) rfl rfl fun b1 => yS rfl $ wN $ tN $ wS $ wR $ sv (vldc pl47 rfl) $ uN rfl $ sv (vfld fl150f9 rfl) $ pm (fun _ h => h.pk1) $ stc (v := .int _ _) pl3 sz3 rfl rfl rfl $ wN $ tN $ wS $ wR $ alz (cs := [.slice none 0 0]) zt41 (by rfl) fun b4 => wN $ tN $ wS $ wS $ wR $ sv (vldc pl47 rfl) $ sv (vfnb rfl) $ wN $ tN $ WC.block $ ?_
 refine WC.rangeF (bnd := [.pointer (some ⟨p, 0, none⟩)]) (fun k => [cel p (ncells { x with since := 0 } base c vv (.map (some m))) 150, row base c 2 89 (cvs x.log), mp (.int .i64) m (pents ps), peersC x.nx x.mt ps, outC b4 ((oth x.id k).map (feedM { x with since := 0 })), cel b1 [.pointer (some ⟨p, 0, none⟩)] 47]) (0) (x.n.toNat) (fun k v => v = .int .i64 ((k : Int) + 1) ∧ k < x.n.toNat ∧ (k : Int) + 1 ≠ x.id) ct134 rfl (fun w h => (outC_nil h).ix [1, 3, 4, 5, 0, 2]) (fun l Rr hY => raft_others (x := { x with since := 0 }) (C := fun k => row base c 2 89 (cvs x.log) :: mp (.int .i64) m (pents ps) :: peersC x.nx x.mt ps :: outC b4 ((oth x.id k).map (feedM { x with since := 0 })) :: cel b1 [.pointer (some ⟨p, 0, none⟩)] 47 :: Rr) hn (fun k h => by simp only [oth_id h]) (fun k h1 h2 => hY k _ ⟨rfl, h1, h2⟩)) ?_ ?_
 ·
  intro lR XR YR k v hS
  obtain ⟨rfl, hk1, hk2⟩ := hS
  refine WG.region (by kernel_rfl) $ yI rfl $ wN $ WX.asg $ ?_
  refine WG.perm (A' := cel p (ncells { x with since := 0 } base c vv (.map (some m))) 150 :: row base c 2 89 (cvs x.log) :: mp (.int .i64) m (pents ps) :: peersC x.nx x.mt ps :: outC b4 ((oth x.id k).map (feedM { x with since := 0 })) :: cel b1 [.pointer (some ⟨p, 0, none⟩)] 47 :: YR :: R) ?_ (fun _ h => h)
  have hko : (k : Int) + 1 ∈ others x := oth_mem.2 ⟨by omega, by omega, hk2⟩
  obtain ⟨j, pb, hj⟩ := peer_at hps hko
  have hkn := hk _ hko
  refine WG.ex (B := fun i : Option Addr × Nat × List Mh => cel p (ncells { x with since := 0 } base c vv (.map (some m))) 150 :: row base c 2 89 (cvs x.log) :: mp (.int .i64) m (pents ps) :: peersC x.nx x.mt ps :: row i.1 i.2.1 9 85 (mvs i.2.2) :: cel b4 [.slice i.1 i.2.2.length i.2.1] 41 :: mrows i.2.2 :: cel b1 [.pointer (some ⟨p, 0, none⟩)] 47 :: YR :: R) (fun w h => by obtain ⟨i, hi, hO⟩ := outC_open h.pk4; exact ⟨i, hi, hO.ix [3, 4, 5, 6, 1, 0, 2]⟩) ?_
  rintro ⟨ob, oc, ms⟩ ⟨hms, hmc⟩
  dsimp only at hms hmc ⊢
  have hml : ms.length ≤ 5 := by have := congrArg List.length hms; have h2 := oth_len (id := x.id) (n := k); rw [List.length_map, List.length_map] at this; omega
  have hmvl := mvs_length ms
  refine WG.block $ WG.plan (.pre [1, 2] (.one [0] 3 (.one [] 4 (.bar [] 5 (.bar [] 6 (.done [])))))) rfl (by kernel_rfl) $ WPl.pre (trivial) $ dv (fun g => (vldc pl47 rfl)) $ dv (fun g => (vmI rfl)) $ WD.nil $ WPl.one (fun g => g ++ cel p (ncells { x with since := 0 } base c vv (.map (some m))) 150 :: row base c 2 89 (cvs x.log) :: mp (.int .i64) m (pents ps) :: peersC x.nx x.mt ps :: row ob oc 9 85 (mvs ms) :: cel b4 [.slice ob ms.length oc] 41 :: mrows ms :: cel b1 [.pointer (some ⟨p, 0, none⟩)] 47 :: YR :: R) ([]) (fun _ => trivial) (rfl) $ dv (fun g => (vldc pl41 rfl)) $ WD.eff rfl $ cl (raft_feed (x := { x with since := 0 }) (q := ((k : Int) + 1, pb)) hl hc hkn hj) ct135 rfl fun i8 hi8 => wN $ WX.br $ WPl.one (fun g => g ++ cel p (ncells { x with since := 0 } base c vv (.map (some m))) 150 :: row base c 2 89 (cvs x.log) :: mp (.int .i64) m (pents ps) :: peersC x.nx x.mt ps :: row ob oc 9 85 (mvs ms) :: cel b4 [.slice ob ms.length oc] 41 :: mrows ms :: cel b1 [.pointer (some ⟨p, 0, none⟩)] 47 :: YR :: R) ([_]) (fun g => good_same _ g) (rfl) $ WD.eff rfl $ bslA (v := .agg _) (cs := mv (feedH { x with since := 0 } ((k : Int) + 1) i8)) Tryz.underlying41 zt85 rfl rfl rfl (by decide) (by decide) fun b9 =>wN $ WX.br $ WPl.bar (⟨[_, _], rfl⟩) $ WD.eff rfl $ pm (fun _ h => h.pk6) $ ap (news := mv (feedH { x with since := 0 } ((k : Int) + 1) i8)) rfl Tryz.underlying41 zt85 rfl rfl rfl hmvl rfl (mv_one _) (RdC.of_cel (e := 85) (ws := mv (feedH { x with since := 0 } ((k : Int) + 1) i8)) 0 (by simp) (by simp)) (by simp only [maxLen]; omega) (by omega) fun base10 c10 hc10 =>wN $ WX.brT $ WPl.bar (trivial) $ WD.eff rfl $ pm (fun _ h => h.pk7) $ stc (v := .slice _ _ _) pl41 sz41 rfl rfl rfl $ wN $ WX.brT $ WPl.fin (trivial) $ WD.nil $ WX.gblockN $ WX.round (fun w h => ?_)
  have h1 := mrows_snoc (y := feedH { x with since := 0 } ((k : Int) + 1) i8) (h.ix [3, 8, 0, 1, 4, 5, 6, 7, 9, 2])
  rw [← mvs_snoc] at h1
  have h2 := outC_mk (l := (oth x.id (k + 1)).map (feedM { x with since := 0 })) (by rw [oth_snoc hk2, List.map_append, List.map_append, hms]; rfl) (by simp) hc10 h1
  exact (h2.ix [6, 1, 2, 3, 4, 0, 5]).tail
 ·
  intro DR lR rR
  refine WX.perm (A' := cel p (ncells { x with since := 0 } base c vv (.map (some m))) 150 :: row base c 2 89 (cvs x.log) :: mp (.int .i64) m (pents ps) :: peersC x.nx x.mt ps :: outC b4 ((oth x.id x.n.toNat).map (feedM { x with since := 0 })) :: cel b1 [.pointer (some ⟨p, 0, none⟩)] 47 :: lp DR lR rR :: R) ?_ (fun _ h => h)
  refine WX.exi (fun w h => outC_open h.pk4) ?_
  rintro ⟨ob, oc, ms⟩ ⟨hms, hmc⟩
  dsimp only at hms hmc ⊢
  exact WX.gblockN $ WX.gthenN $ WG.seq $ WG.region (by kernel_rfl) $ sv (vldc pl41 rfl) $ yS rfl $ wN $ WX.gthenM $ WG.ret $ WX.ret1G rfl ((ob, oc, ms)) (⟨hms, hmc⟩) rfl (fun w h => (h.ix [0, 7, 8, 1, 2, 3, 4, 5, 6]).tail.tail)
def cntK (x : Rn) (p : Int) (ks : List Int) : Int := 1 + ((ks.filter fun k => decide (p ≤ x.mt k)).length : Int)
theorem cntK_cons {x : Rn} {p k : Int} {ks : List Int} : cntK x p (k :: ks) = if p ≤ x.mt k then cntK x p ks + 1 else cntK x p ks := by
 unfold cntK
 rw [List.filter_cons]
 by_cases h : p ≤ x.mt k
 ·simp [h]; omega
 ·simp [h]
theorem cntK_all {x : Rn} {p : Int} {ks : List Int} (hn : ks.Nodup) (h : ∀ k, k ∈ ks ↔ k ∈ others x) : cntK x p ks = haveC x p := by
 have hp : ks.Perm (others x) := (List.perm_ext_iff_of_nodup hn oth_nodup).2 h
 unfold cntK haveC
 rw [(hp.filter _).length_eq]
theorem countP_succ {x : Rn} {k : Nat} (h : x.commit < (k : Int) + 1 ∧ atT x.log ((k : Int) + 1) = x.term) : countP x (k + 1) = if x.n < 2 * haveC x ((k : Int) + 1) then (k : Int) + 1 else countP x k := by
 rw [countP, if_pos h]
theorem countP_stop {x : Rn} : ∀ {k : Nat}, ¬ (x.commit < (k : Int) ∧ atT x.log (k : Int) = x.term) → countP x k = x.commit
 | 0, _ => rfl
 | k + 1, h => by rw [countP, if_neg (by simpa using h)]
theorem sub_len' {α : Type} {ns l : List α} (hn : ns.Nodup) (hs : ∀ n ∈ ns, n ∈ l) : ns.length ≤ l.length := hn.length_le_of_subset hs
theorem raft_count {w0 : World} {R : List HProp} {p c m : Nat} {base : Option Addr} {vv : Value} {x : Rn} {ps : List (Int × Nat)} (hn : 0 ≤ x.n ∧ x.n ≤ 5) (hl : x.log.length ≤ 10000) (h0 : 0 ≤ x.commit) (hps : ps.map Prod.fst = others x) :
  Fun Tryz.prog w0 127 [.pointer (some ⟨p, 0, none⟩)] (cel p (ncells x base c vv (.map (some m))) 150 :: row base c 2 89 (cvs x.log) :: mp (.int .i64) m (pents ps) :: peersC x.nx x.mt ps :: R)
   (Ru w0 (.tuple #[]) (cel p (ncells (countS x) base c vv (.map (some m))) 150 :: row base c 2 89 (cvs x.log) :: mp (.int .i64) m (pents ps) :: peersC x.nx x.mt ps :: R)) := by
 refine Fun.enter Tryz.func127 rfl Tryz.ntmps127 rfl ?_
 refine wS $ wR $ zP rfl $ uN rfl $ sv (vfld fl150f4 rfl) $ sv (vldc pl54 rfl) $ sv (vlen Tryz.underlying54 rfl) $ yI rfl $ wN $ tN $ WC.block $ ?_
 refine WC.loop (ι := Nat) (fun i => [(2, .int .i64 (i : Nat))]) [(0, .pointer _)] (fun i => cel p (ncells x base c vv (.map (some m))) 150 :: row base c 2 89 (cvs x.log) :: mp (.int .i64) m (pents ps) :: peersC x.nx x.mt ps :: R) (fun i => i ≤ x.log.length ∧ countP x i = countP x x.log.length) (fun i => i) (x.log.length) (⟨Nat.le_refl _, rfl⟩) ⟨rfl, trivial⟩ ⟨rfl, trivial⟩ (fun _ h => h) ?_
 intro i hi ρh
 refine wS $ ?_
 refine WC.cut0 [(26, .bool (decide (x.commit < (i : Int) ∧ atT x.log i = x.term)))] [(0, .pointer _), (2, .int _ _)] (cel p (ncells x base c vv (.map (some m))) 150 :: row base c 2 89 (cvs x.log) :: mp (.int .i64) m (pents ps) :: peersC x.nx x.mt ps :: R) ⟨rfl, rfl, trivial⟩ ?_ fun ρh => ?_
 ·
  refine WC.draws rfl (by kernel_rfl) $ qv (vmI rfl) $ qv (vmP rfl) $ qv (vnil rfl) $ qv (vfld fl150f7 rfl) $ qv (vldc pl3 rfl) $ qvs (vgt rfl rfl) (fun q1 => ?_) (fun q1 => ?_)
  ·
   exact qv (vmB rfl) $ qvg rfl (vmP rfl) $ qvg rfl (vmI rfl) $ qclg rfl (Fun.quiet (raft_at (x := x) (base := base) (c := c) (vv := vv) (pv := .map (some m)) hl)) ct132 rfl $ qvg rfl (vmP rfl) $ qvg rfl (vnil rfl) $ qvg rfl (vfld fl150f2 rfl) $ qvg rfl (vldc pl3 rfl) $ qvg rfl (veq rfl rfl) $ qv (vpkt rfl) $ WQ.nil $ xM () trivial ⟨bIa, trivial⟩ ⟨rfl, rfl, trivial⟩ (fun _ h => h)
  ·
   exact qv (vmB rfl) $ qng rfl $ qng rfl $ qng rfl $ qng rfl $ qng rfl $ qng rfl $ qng rfl $ qng rfl $ qv (vpkf rfl) $ WQ.nil $ xM () trivial ⟨bFa, trivial⟩ ⟨rfl, rfl, trivial⟩ (fun _ h => h)
 refine WC.ite rfl (fun h1 => ?_) (fun h1 => ?_)
 ·
  obtain ⟨k, rfl⟩ : ∃ k, i = k + 1 := by
   cases i with
   | zero => exact absurd h1.1 (by omega)
   | succ k => exact ⟨k, rfl⟩
  refine WC.skip $ tN $ wS $ WC.block $ wS $ wR $ yI rfl $ wN $ tN $ wS $ wS $ wR $ zP rfl $ uN rfl $ sv (vfld fl150f11 rfl) $ sv (vldc pl148 rfl) $ pm (fun _ h => h.pk2) $ rgm Tryz.underlying148 rfl fun it6 => wN $ tN $ WC.block $ ?_
  refine WC.loop (ι := List Int) (fun ks => [(3, .int .i64 (cntK x ((k + 1 : Nat) : Int) ks))]) [(0, .pointer _), (2, .int _ _), (33, _)] (fun ks => mr (.int .i64) m (pents ps) it6 (ks.map (Value.int .i64)) :: cel p (ncells x base c vv (.map (some m))) 150 :: row base c 2 89 (cvs x.log) :: peersC x.nx x.mt ps :: R) (fun ks => ks.Nodup ∧ ∀ k ∈ ks, k ∈ others x) (fun ks => (others x).length - ks.length) ([]) (⟨by simp, by simp⟩) ⟨rfl, trivial⟩ ⟨rfl, rfl, rfl, trivial⟩ (fun _ h => h) ?_
  intro ks hks ρh
  have hcb : 0 ≤ cntK x ((k + 1 : Nat) : Int) ks ∧ cntK x ((k + 1 : Nat) : Int) ks ≤ 6 := by
   have h2 := List.length_filter_le (fun j => decide (((k + 1 : Nat) : Int) ≤ x.mt j)) ks
   have h3 := sub_len' hks.1 (l := others x) hks.2
   have h4 := oth_len (id := x.id) (n := x.n.toNat)
   unfold others at h3; unfold cntK; omega
  refine wS $ wR $ nxm rfl (fun k7 v7 hk7 hv7 => ?_) (fun hall7 => ?_)
  ·
   obtain ⟨q, hq, hqe⟩ := List.mem_map.1 hk7
   cases hqe
   obtain ⟨j, hj⟩ := List.mem_iff_getElem?.1 hq
   have hqn : q.1 ∉ ks := fun h => hv7 (List.mem_map.2 ⟨_, h, rfl⟩)
   have hqo : q.1 ∈ others x := by rw [← hps]; exact List.mem_map.2 ⟨q, hq, rfl⟩
   have hmu : (others x).length - (q.1 :: ks).length < (others x).length - ks.length := by
    have := sub_len' (List.nodup_cons.2 ⟨hqn, hks.1⟩) (l := others x) (fun n hn => by rcases List.mem_cons.1 hn with rfl | hn; exact hqo; exact hks.2 n hn)
    simp only [List.length_cons] at this ⊢
    omega
   have hRk : (q.1 :: ks).Nodup ∧ ∀ k ∈ q.1 :: ks, k ∈ others x := ⟨List.nodup_cons.2 ⟨hqn, hks.1⟩, fun n hn => by rcases List.mem_cons.1 hn with rfl | hn; exact hqo; exact hks.2 n hn⟩
   refine sv (vex rfl rfl) $ wN $ tN $ wS $ ?_
   refine WC.tt rfl ?_
   refine WC.skip $ tN $ WC.block $ wS $ wR $ sv (ven rfl hk7) $ sv (vex rfl rfl) $ sv (vaP rfl) $ wN $ tN $ wS $ wR $ zP rfl $ uN rfl $ sv (vfld fl194f1 rfl) $ sv (vld pl3 rfl (CellC.of_peers (nx := x.nx) (mt := x.mt) (ps := ps) (by simp) hj rfl)) $ zI rfl $ sv (vge rfl rfl) $ wN $ tN $ ?_
   refine WC.ite rfl (fun h3 => ?_) (fun h3 => ?_)
   ·
    exact wR $ zI rfl $ sv (vadd rfl rfl (by omega)) $ yI rfl $ wN $ WX.blockN $ WX.again (q.1 :: ks) (hRk) (hmu) ⟨iv (by rw [cntK_cons, if_pos h3]), trivial⟩ ⟨rfl, rfl, rfl, trivial⟩ (fun _ h => h)
   ·
    exact WC.skip $ WX.blockN $ WX.again (q.1 :: ks) (hRk) (hmu) ⟨iv (by rw [cntK_cons, if_neg h3]), trivial⟩ ⟨rfl, rfl, rfl, trivial⟩ (fun _ h => h)
  ·
   have hall : cntK x ((k + 1 : Nat) : Int) ks = haveC x ((k : Int) + 1) := by
    have := cntK_all (x := x) (p := ((k + 1 : Nat) : Int)) hks.1 (fun n => ⟨hks.2 n, fun hn => by
     rw [← hps] at hn
     obtain ⟨q, hq, rfl⟩ := List.mem_map.1 hn
     have := hall7 _ (List.mem_map.2 ⟨q, hq, rfl⟩)
     simpa using this⟩)
    rw [this]; congr 1
   have hcs := countP_succ (x := x) (k := k) (by simpa using h1)
   refine sv (vex rfl rfl) $ wN $ tN $ wS $ ?_
   refine WC.ff rfl ?_
   refine WC.exit $ WX.thenE $ WX.thenE $ WX.blockH $ tN $ wS $ wR $ zP rfl $ zI rfl $ pm (fun _ h => h.mr_mp.pk1) $ cl (raft_most (x := x) (base := base) (c := c) (vv := vv) (pv := .map (some m)) hn) ct133 rfl fun _ _ => wN $ tN $ ?_
   refine WC.ite rfl (fun h5 => ?_) (fun h5 => ?_)
   ·
    refine wS $ wR $ zP rfl $ zI rfl $ uN rfl $ sv (vfld fl150f7 rfl) $ stc (v := .int _ _) pl3 sz3 rfl rfl rfl $ wN $ tN $ WC.ret $ WX.blockR $ tR $ tR $ WX.blockR $ WX.ret0 rfl (()) (trivial) rfl (fun w h => ?_)
    rw [hall] at h5
    rw [if_pos h5, hi.2] at hcs
    have e : (countS x).commit = ((k + 1 : Nat) : Int) := by show countP x x.log.length = _; rw [hcs]; rfl
    unfold ncells
    rw [e]
    exact h.ix [0, 2, 1]
   ·
    exact WC.skip $ WX.blockN $ tN $ wR $ zI rfl $ sv (vsub rfl rfl (by omega)) $ yI rfl $ wN $ WX.again (k) (⟨by omega, by rw [← hi.2, hcs, if_neg (by rw [← hall]; exact h5)]⟩) (by omega) ⟨iv (by omega), trivial⟩ ⟨rfl, trivial⟩ (fun w h => h.ix [0, 2, 1])
 ·
  refine WC.exit $ WX.thenE $ WX.thenE $ WX.blockH $ WX.end0 rfl (()) (trivial) rfl (fun w h => ?_)
  have e : (countS x).commit = x.commit := by show countP x x.log.length = _; rw [← hi.2]; exact countP_stop h1
  unfold ncells
  rw [e]
  exact h
def vents (l : List Int) : List (Value × Value) := l.map fun k => (.int .i64 k, .agg #[])
def prC (m : Nat) (nx mt : Int → Int) (ks : List Int) : HProp := fun h => ∃ ps : List (Int × Nat), ps.map Prod.fst = ks ∧ star (mp (.int .i64) m (pents ps)) (peersC nx mt ps) h
theorem prC_mk {w0 w : World} {A : List HProp} {m : Nat} {nx mt : Int → Int} {ks : List Int} {ps : List (Int × Nat)} (hk : ps.map Prod.fst = ks) (H : Own w0 (mp (.int .i64) m (pents ps) :: peersC nx mt ps :: A) w) : Own w0 (prC m nx mt ks :: A) w :=
 H.intro_star.head fun _ h => ⟨ps, hk, h⟩
theorem prC_open {w0 w : World} {A : List HProp} {m : Nat} {nx mt : Int → Int} {ks : List Int} (H : Own w0 (prC m nx mt ks :: A) w) : ∃ ps : List (Int × Nat), ps.map Prod.fst = ks ∧ Own w0 (mp (.int .i64) m (pents ps) :: peersC nx mt ps :: A) w := by
 obtain ⟨hb, h, ⟨h1, h2, ⟨ps, hk, a⟩, a2, dd, x⟩, hw⟩ := H
 have h3 : Own w0 (star (mp (.int .i64) m (pents ps)) (peersC nx mt ps) :: A) w := ⟨hb, h, ⟨h1, h2, a, a2, dd, x⟩, hw⟩
 exact ⟨ps, hk, h3.star⟩
structure LI where
 ob : Option Addr
 oc : Nat
 ms : List Mh
 base : Option Addr
 c : Nat
 m : Nat
 ps : List (Int × Nat)
theorem pents_put {ps : List (Int × Nat)} {k : Int} {b : Nat} (h : k ∉ ps.map Prod.fst) : PutE (pents ps) (.int .i64 k) (.pointer (some ⟨b, 0, none⟩)) (pents (ps ++ [(k, b)])) := by
 have e : pents (ps ++ [(k, b)]) = pents ps ++ [(.int .i64 k, .pointer (some ⟨b, 0, none⟩))] := by simp [pents]
 rw [e]
 refine .new fun q hq he => h ?_
 obtain ⟨r, hr, rfl⟩ := List.mem_map.1 hq
 exact List.mem_map.2 ⟨r, hr, by simpa using he⟩
theorem add_fix {w0 w : World} {A : List HProp} {p c : Nat} {base : Option Addr} {vv pv : Value} {x : Rn} {data : ByteArray} (H : Own w0 (cel p [.int .i64 x.id, .int .i64 x.n, .int .i64 x.term, .int .i64 x.vote, .slice base (x.log.length + 1) c, .int .i64 x.role, .int .i64 x.leader, .int .i64 x.commit, .int .i64 x.waited, .int .i64 x.since, vv, pv] 150 :: row base c 2 89 (cvs x.log ++ [.int .i64 x.term, .string data]) :: A) w) :
  Own w0 (cel p (ncells (addS data x) base c vv pv) 150 :: row base c 2 89 (cvs (addS data x).log) :: A) w := by
 have e1 : (addS data x).log.length = x.log.length + 1 := by simp [addS]
 have e2 : cvs (addS data x).log = cvs x.log ++ [.int .i64 x.term, .string data] := by unfold addS; rw [cvs_append]; rfl
 rw [e2]
 unfold ncells
 rw [e1]
 exact H
theorem cone {a : Int} {s : ByteArray} : ∀ v ∈ [Value.int .i64 a, .string s], v.oneCell' = true := by
 intro v hv
 simp only [List.mem_cons, List.not_mem_nil, or_false] at hv
 rcases hv with rfl | rfl <;> rfl
theorem raft_lead_no {w0 : World} {R : List HProp} {p c m : Nat} {base : Option Addr} {pv : Value} {x : Rn} (hn : 0 ≤ x.n ∧ x.n ≤ 5) (hm : ¬ x.n < 2 * (x.voted.length : Int)) :
  Fun Tryz.prog w0 144 [.pointer (some ⟨p, 0, none⟩)] (cel p (ncells x base c (.map (some m)) pv) 150 :: mp (.int .i64) m (vents x.voted) :: R)
   (Ru w0 (.slice none 0 0) (cel p (ncells x base c (.map (some m)) pv) 150 :: mp (.int .i64) m (vents x.voted) :: R)) := by
 have hvl : ((vents x.voted).length : Int) = (x.voted.length : Int) := by simp [vents]
 refine Fun.enterM Tryz.func144 rfl Tryz.ntmps144 rfl ?_
 refine wS $ wR $ bxc (v := .pointer _) (cs := [.pointer _]) rfl rfl fun b1 => yS rfl $ wN $ tN $ wS $ wS $ WC.draws rfl (by kernel_rfl) $ qv (vldc pl47 rfl) $ qv (vldc pl47 rfl) $ qv (vnil rfl) $ qv (vfld fl150f10 rfl) $ qv (vldc pl147 rfl) $ qv (vlenm Tryz.underlying147 rfl) $ qcl (Fun.quiet (raft_most (x := x) (base := base) (c := c) (vv := .map (some m)) (pv := pv) hn)) ct133 rfl $ qv (vnot rfl) $ WQ.nil $ tN $ ?_
 refine WC.iteb rfl (fun h1 => ?_) (fun h1 => ?_)
 ·
  exact wS $ wR $ yS rfl $ wN $ tN $ WC.ret $ tR $ WX.ret1M rfl (()) (trivial) rfl (fun _ h => h.tail)
 ·
  exact absurd (by simpa [hvl] using h1) hm
theorem raft_lead_yes {w0 : World} {R : List HProp} {p c mV : Nat} {base : Option Addr} {pv : Value} {x : Rn} (hn : 0 ≤ x.n ∧ x.n ≤ 5) (hl : x.log.length ≤ 10000) (hc : x.log.length ≤ c) (h0 : 0 ≤ x.commit) (hm : x.n < 2 * (x.voted.length : Int)) :
  Fun Tryz.prog w0 144 [.pointer (some ⟨p, 0, none⟩)] (cel p (ncells x base c (.map (some mV)) pv) 150 :: row base c 2 89 (cvs x.log) :: mp (.int .i64) mV (vents x.voted) :: R)
   (Ret w0 (fun i : LI => (i.ms.map Mh.ml = (leadS x).2 ∧ i.ms.length ≤ i.oc) ∧ (leadS x).1.log.length ≤ i.c ∧ i.ps.map Prod.fst = others x) (fun i => .slice i.ob i.ms.length i.oc) (fun i => row i.ob i.oc 9 85 (mvs i.ms) :: mrows i.ms :: cel p (ncells (leadS x).1 i.base i.c (.map (some mV)) (.map (some i.m))) 150 :: row i.base i.c 2 89 (cvs (leadS x).1.log) :: mp (.int .i64) i.m (pents i.ps) :: peersC (leadS x).1.nx (leadS x).1.mt i.ps :: R)) := by
 have hvl : ((vents x.voted).length : Int) = (x.voted.length : Int) := by simp [vents]
 have hll : (leaderS x).log.length = x.log.length := rfl
 refine Fun.enterM Tryz.func144 rfl Tryz.ntmps144 rfl ?_
 refine wS $ wR $ bxc (v := .pointer _) (cs := [.pointer _]) rfl rfl fun b1 => yS rfl $ wN $ tN $ wS $ wS $ WC.draws rfl (by kernel_rfl) $ qv (vldc pl47 rfl) $ qv (vldc pl47 rfl) $ qv (vnil rfl) $ qv (vfld fl150f10 rfl) $ qv (vldc pl147 rfl) $ qv (vlenm Tryz.underlying147 rfl) $ qcl (Fun.quiet (raft_most (x := x) (base := base) (c := c) (vv := .map (some mV)) (pv := pv) hn)) ct133 rfl $ qv (vnot rfl) $ WQ.nil $ tN $ ?_
 refine WC.iteb rfl (fun h1 => ?_) (fun h1 => ?_)
 ·
  exact absurd hm (by simpa [hvl] using h1)
 ·
  refine WC.perm (A' := cel p (ncells x base c (.map (some mV)) pv) 150 :: cel b1 [.pointer (some ⟨p, 0, none⟩)] 47 :: row base c 2 89 (cvs x.log) :: mp (.int .i64) mV (vents x.voted) :: R) ?_ (fun _ h => h.pk1)
  refine WC.skip $ tN $ wS $ WC.plan (.pre [0, 2, 3, 4, 5, 6, 7] (.one [1] 8 (.bar [9, 10] 11 (.done [])))) rfl (by kernel_rfl) $ WPl.pre (trivial) $ dv (fun g => (vldc pl47 rfl)) $ dv (fun g => (vldc pl47 rfl)) $ dv (fun g => (vnil rfl)) $ dv (fun g => (vfld fl150f0 rfl)) $ dv (fun g => (vldc pl3 rfl)) $ dv (fun g => (vnil rfl)) $ dv (fun g => (vfld fl150f5 rfl)) $ WD.nil $ WPl.one (fun g => g ++ cel b1 [.pointer (some ⟨p, 0, none⟩)] 47 :: row base c 2 89 (cvs x.log) :: mp (.int .i64) mV (vents x.voted) :: R) ([_]) (fun _ => trivial) (rfl) $ dv (fun g => (vldc pl47 rfl)) $ WD.eff rfl $ stc (v := .int _ _) pl3 sz3 rfl rfl rfl $ wN $ WX.br $ WPl.bar (⟨[_], rfl⟩) $ dv (fun g => (vnil rfl)) $ dv (fun g => (vfld fl150f6 rfl)) $ WD.eff rfl $ stc (v := .int _ _) pl3 sz3 rfl rfl rfl $ wN $ WX.brT $ WPl.fin (trivial) $ WD.nil $ tN $ wS $ wR $ sv (vldc pl47 rfl) $ mkm (.int .i64) fun b13 => uN rfl $ sv (vfld fl150f11 rfl) $ pm (fun _ h => h.pk1) $ stc (v := .map _) pl148 sz148 rfl rfl rfl $ wN $ tN $ wS $ wS $ wR $ sv (vldc pl47 rfl) $ sv (vfnb rfl) $ wN $ tN $ WC.block $ ?_
  refine WC.rangeF (bnd := [.pointer (some ⟨p, 0, none⟩)]) (fun k => [cel p (ncells (leaderS x) base c (.map (some mV)) (.map (some b13))) 150, prC b13 (fun _ => (x.log.length : Int) + 1) (fun _ => 0) (oth x.id k), cel b1 [.pointer (some ⟨p, 0, none⟩)] 47, row base c 2 89 (cvs x.log)]) (0) (x.n.toNat) (fun k v => v = .int .i64 ((k : Int) + 1) ∧ k < x.n.toNat ∧ (k : Int) + 1 ≠ x.id) ct134 rfl (fun w h => ((prC_mk (nx := fun _ => (x.log.length : Int) + 1) (mt := fun _ => 0) (ps := []) rfl (h.pk1.intro_emp.pk1)).ix [4, 1, 0, 2, 3]).tail) (fun l Rr hY => raft_others (x := leaderS x) (C := fun k => prC b13 (fun _ => (x.log.length : Int) + 1) (fun _ => 0) (oth x.id k) :: cel b1 [.pointer (some ⟨p, 0, none⟩)] 47 :: row base c 2 89 (cvs x.log) :: Rr) hn (fun k h => by simp only [oth_id (show (k : Int) + 1 = x.id from h)]) (fun k h1 h2 => hY k _ ⟨rfl, h1, h2⟩)) ?_ ?_
  ·
   intro lR XR YR k v hS
   obtain ⟨rfl, hk1, hk2⟩ := hS
   refine WG.region (by kernel_rfl) $ yI rfl $ wN $ WX.asg $ ?_
   refine WG.perm (A' := cel p (ncells (leaderS x) base c (.map (some mV)) (.map (some b13))) 150 :: prC b13 (fun _ => (x.log.length : Int) + 1) (fun _ => 0) (oth x.id k) :: cel b1 [.pointer (some ⟨p, 0, none⟩)] 47 :: row base c 2 89 (cvs x.log) :: YR :: R) ?_ (fun _ h => h)
   refine WG.ex (q := fun ps => ps.map Prod.fst = oth x.id k) (B := fun ps : List (Int × Nat) => cel p (ncells (leaderS x) base c (.map (some mV)) (.map (some b13))) 150 :: mp (.int .i64) b13 (pents ps) :: peersC (fun _ => (x.log.length : Int) + 1) (fun _ => 0) ps :: cel b1 [.pointer (some ⟨p, 0, none⟩)] 47 :: row base c 2 89 (cvs x.log) :: YR :: R) (fun w h => by obtain ⟨i, hi, hO⟩ := prC_open h.pk1; exact ⟨i, hi, hO.ix [2, 0, 1]⟩) ?_
   intro ps hps
   refine WG.block $ WG.plan (.pre [5, 6, 7, 8, 9, 10, 11] (.one [0, 1, 2, 3, 4] 12 (.bar [] 13 (.done [])))) rfl (by kernel_rfl) $ WPl.pre (trivial) $ dv (fun g => (vldc pl47 rfl)) $ dv (fun g => (vnil rfl)) $ dv (fun g => (vfld fl150f4 rfl)) $ dv (fun g => (vldc pl54 rfl)) $ dv (fun g => (vlen Tryz.underlying54 rfl)) $ dv (fun g => (vadd rfl rfl (by omega))) $ dv (fun g => (vbd (ps := [(0, .int _ _)]) (cs := [_, _]) bt194 zt194 rfl (by rfl))) $ WD.nil $ WPl.one (fun g => g ++ cel p (ncells (leaderS x) base c (.map (some mV)) (.map (some b13))) 150 :: mp (.int .i64) b13 (pents ps) :: peersC (fun _ => (x.log.length : Int) + 1) (fun _ => 0) ps :: cel b1 [.pointer (some ⟨p, 0, none⟩)] 47 :: row base c 2 89 (cvs x.log) :: YR :: R) ([]) (fun _ => trivial) (rfl) $ dv (fun g => (vldc pl47 rfl)) $ dv (fun g => (vnil rfl)) $ dv (fun g => (vfld fl150f11 rfl)) $ dv (fun g => (vldc pl148 rfl)) $ dv (fun g => (vmI rfl)) $ WD.eff rfl $ bxc (v := .agg _) (cs := [.int _ _, .int _ _]) rfl rfl fun b22 => wN $ WX.br $ WPl.bar (⟨[_], rfl⟩) $ WD.eff rfl $ pm (fun _ h => h.pk2) $ mpu Tryz.underlying148 Tryz.underlying3 rfl rfl rfl rfl (pents_put (b := b22) (by rw [hps]; intro h; have := (oth_mem.1 h).2.1; omega)) $ wN $ WX.brT $ WPl.fin (trivial) $ WD.nil $ WX.gblockN $ WX.round (fun w h => ?_)
   have h1 := peers_snoc (nx := fun _ => (x.log.length : Int) + 1) (mt := fun _ => 0) (q := ((k : Int) + 1, b22)) (h.ix [1, 3, 0, 2, 4, 5, 6])
   exact (prC_mk (ks := oth x.id (k + 1)) (ps := ps ++ [((k : Int) + 1, b22)]) (by rw [oth_snoc hk2, List.map_append, hps]; rfl) h1.pk1).pk1
  ·
   intro DR lR rR
   refine WX.perm (A' := cel p (ncells (leaderS x) base c (.map (some mV)) (.map (some b13))) 150 :: prC b13 (fun _ => (x.log.length : Int) + 1) (fun _ => 0) (oth x.id x.n.toNat) :: cel b1 [.pointer (some ⟨p, 0, none⟩)] 47 :: row base c 2 89 (cvs x.log) :: lp DR lR rR :: R) ?_ (fun _ h => h)
   refine WX.exi (q := fun ps => ps.map Prod.fst = oth x.id x.n.toNat) (B := fun ps : List (Int × Nat) => row base c 2 89 (cvs x.log) :: cel p (ncells (leaderS x) base c (.map (some mV)) (.map (some b13))) 150 :: mp (.int .i64) b13 (pents ps) :: peersC (fun _ => (x.log.length : Int) + 1) (fun _ => 0) ps :: cel b1 [.pointer (some ⟨p, 0, none⟩)] 47 :: lp DR lR rR :: R) (fun w h => by obtain ⟨i, hi, hO⟩ := prC_open h.pk1; exact ⟨i, hi, hO.ix [4, 2, 0, 1, 3]⟩) ?_
   intro ps hps
   refine WX.gblockN $ WX.gthenN $ WG.seq $ WG.seq $ WG.region (by kernel_rfl) $ sv (vldc pl47 rfl) $ uN rfl $ sv (vfld fl150f4 rfl) $ sv (vldc pl54 rfl) $ sv (vlen Tryz.underlying54 rfl) $ sv (vlt rfl rfl) $ wN $ WX.gthenM $ ?_
   refine WG.ite rfl (fun h2 => ?_) (fun h2 => ?_)
   ·
    have hls : leadS x = feedAllS (countS (addS ByteArray.empty (leaderS x))) := by unfold leadS; rw [if_pos hm, if_pos (by omega)]
    have hyl : (addS ByteArray.empty (leaderS x)).log.length = x.log.length + 1 := by simp [addS, leaderS]
    ·
     exact WG.plan (.pre [5, 6, 7, 8, 9] (.one [0, 1, 2, 3, 4] 10 (.one [] 11 (.bar [12, 13] 14 (.done []))))) rfl (by kernel_rfl) $ WPl.pre (trivial) $ dv (fun g => (vldc pl47 rfl)) $ dv (fun g => (vnil rfl)) $ dv (fun g => (vfld fl150f2 rfl)) $ dv (fun g => (vldc pl3 rfl)) $ dv (fun g => (vbd (ps := [(0, .int _ _)]) (cs := [_, _]) bt89 zt89 rfl (by rfl))) $ WD.nil $ WPl.one (fun g => g ++ cel p (ncells (leaderS x) base c (.map (some mV)) (.map (some b13))) 150 :: mp (.int .i64) b13 (pents ps) :: peersC (fun _ => (x.log.length : Int) + 1) (fun _ => 0) ps :: cel b1 [.pointer (some ⟨p, 0, none⟩)] 47 :: lp DR lR rR :: R) ([_]) (fun _ => trivial) (rfl) $ dv (fun g => (vldc pl47 rfl)) $ dv (fun g => (vldc pl47 rfl)) $ dv (fun g => (vnil rfl)) $ dv (fun g => (vfld fl150f4 rfl)) $ dv (fun g => (vldc pl54 rfl)) $ WD.eff rfl $ bslA (v := .agg _) (cs := [.int .i64 x.term, .string ByteArray.empty]) Tryz.underlying54 zt89 rfl rfl rfl (by decide) (by decide) fun b32 =>wN $ WX.br $ WPl.one (fun g => g ++ cel p (ncells (leaderS x) base c (.map (some mV)) (.map (some b13))) 150 :: mp (.int .i64) b13 (pents ps) :: peersC (fun _ => (x.log.length : Int) + 1) (fun _ => 0) ps :: cel b1 [.pointer (some ⟨p, 0, none⟩)] 47 :: lp DR lR rR :: R) ([_, _]) (fun g => good_same _ g) (rfl) $ WD.eff rfl $ pm (fun _ h => h.pk1) $ ap (news := [.int .i64 x.term, .string ByteArray.empty]) rfl Tryz.underlying54 zt89 rfl rfl rfl (cvs_length _) rfl cone (RdC.of_cel (e := 89) (ws := [.int .i64 x.term, .string ByteArray.empty]) 0 (by simp) (by simp)) (by simp only [maxLen]; omega) (by omega) fun base33 c33 hc33 =>wN $ WX.br $ WPl.bar (⟨[_, _], rfl⟩) $ dv (fun g => (vnil rfl)) $ dv (fun g => (vfld fl150f4 rfl)) $ WD.eff rfl $ pm (fun _ h => h.pk2) $ stc (v := .slice _ _ _) pl54 sz54 rfl rfl rfl $ wN $ WX.brT $ WPl.fin (trivial) $ WD.nil $ WX.gthenM $ WG.seq $ WG.region (by kernel_rfl) $ sv (vldc pl47 rfl) $ pm (fun _ h => add_fix (x := leaderS x) (data := ByteArray.empty) h.pk4.pk4.pk3.pk3) $ cl (raft_count (x := addS ByteArray.empty (leaderS x)) hn (by omega) h0 hps) ct127 rfl fun _ _ => wN $ WX.gthenM $ WG.seq $ WG.region (by kernel_rfl) $ sv (vldc pl47 rfl) $ cl (raft_feedAll (x := countS (addS ByteArray.empty (leaderS x))) hn (by show (addS ByteArray.empty (leaderS x)).log.length ≤ 10000; omega) (by show (addS ByteArray.empty (leaderS x)).log.length ≤ c33; omega) (fun k _ => by show 1 ≤ (x.log.length : Int) + 1 ∧ (x.log.length : Int) + 1 ≤ ((addS ByteArray.empty (leaderS x)).log.length : Int) + 1; omega) hps) ct131 rfl fun i38 hi38 => yS rfl $ wN $ WX.gthenM $ WG.ret $ WX.ret1G rfl (⟨i38.1, i38.2.1, i38.2.2, base33, c33, b13, ps⟩) (by rw [hls]; exact ⟨hi38, by show (addS ByteArray.empty (leaderS x)).log.length ≤ c33; omega, hps⟩) rfl (fun w h => by rw [hls]; exact (h.ix [6, 7, 8, 0, 1, 2, 3, 4, 5]).tail.tail)
   ·
    have hls : leadS x = feedAllS (countS (leaderS x)) := by unfold leadS; rw [if_pos hm, if_neg (by omega)]
    ·
     exact WG.skip $ WX.gthenM $ WG.seq $ WG.region (by kernel_rfl) $ sv (vldc pl47 rfl) $ pm (fun _ h => h.pk1) $ cl (raft_count (x := leaderS x) hn hl h0 hps) ct127 rfl fun _ _ => wN $ WX.gthenM $ WG.seq $ WG.region (by kernel_rfl) $ sv (vldc pl47 rfl) $ cl (raft_feedAll (x := countS (leaderS x)) hn hl hc (fun k _ => by show 1 ≤ (x.log.length : Int) + 1 ∧ (x.log.length : Int) + 1 ≤ (x.log.length : Int) + 1; omega) hps) ct131 rfl fun i38 hi38 => yS rfl $ wN $ WX.gthenM $ WG.ret $ WX.ret1G rfl (⟨i38.1, i38.2.1, i38.2.2, base, c, b13, ps⟩) (by rw [hls]; exact ⟨hi38, hc, hps⟩) rfl (fun w h => by rw [hls]; exact (h.ix [6, 7, 0, 1, 2, 3, 4, 5]).tail)
def extraC (x : Rn) (vv pv : Value) : HProp := if x.role = 1 then (fun h => ∃ m, vv = .map (some m) ∧ mp (.int .i64) m (vents x.voted) h) else if x.role = 2 then (fun h => ∃ m, pv = .map (some m) ∧ prC m x.nx x.mt (others x) h) else emp
def hnode (p : Nat) (x : Rn) : HProp := fun h => ∃ base c vv pv, x.log.length ≤ c ∧ star (cel p (ncells x base c vv pv) 150) (star (row base c 2 89 (cvs x.log)) (extraC x vv pv)) h
theorem hnode_open {w0 w : World} {A : List HProp} {p : Nat} {x : Rn} (H : Own w0 (hnode p x :: A) w) :
  ∃ i : Option Addr × Nat × Value × Value, x.log.length ≤ i.2.1 ∧ Own w0 (cel p (ncells x i.1 i.2.1 i.2.2.1 i.2.2.2) 150 :: row i.1 i.2.1 2 89 (cvs x.log) :: extraC x i.2.2.1 i.2.2.2 :: A) w := by
 obtain ⟨hb, h, ⟨h1, h2, ⟨base, c, vv, pv, hc, a⟩, a2, dd, y⟩, hw⟩ := H
 have h3 : Own w0 (star (cel p (ncells x base c vv pv) 150) (star (row base c 2 89 (cvs x.log)) (extraC x vv pv)) :: A) w := ⟨hb, h, ⟨h1, h2, a, a2, dd, y⟩, hw⟩
 exact ⟨(base, c, vv, pv), hc, h3.star.pk1.star.pk2⟩
theorem hnode_open1 {w0 w : World} {A : List HProp} {p : Nat} {x : Rn} (hr : x.role = 1) (H : Own w0 (hnode p x :: A) w) :
  ∃ i : Option Addr × Nat × Nat × Value, x.log.length ≤ i.2.1 ∧ Own w0 (cel p (ncells x i.1 i.2.1 (.map (some i.2.2.1)) i.2.2.2) 150 :: row i.1 i.2.1 2 89 (cvs x.log) :: mp (.int .i64) i.2.2.1 (vents x.voted) :: A) w := by
 obtain ⟨⟨base, c, vv, pv⟩, hc, h1⟩ := hnode_open H
 dsimp only at h1
 unfold extraC at h1
 rw [if_pos hr] at h1
 obtain ⟨hb, h, ⟨h2, h3, ⟨m, rfl, a⟩, a2, dd, y⟩, hw⟩ := h1.pk2
 exact ⟨(base, c, m, pv), hc, Own.pk2 (Own.pk2 ⟨hb, h, ⟨h2, h3, a, a2, dd, y⟩, hw⟩)⟩
theorem hnode_open2 {w0 w : World} {A : List HProp} {p : Nat} {x : Rn} (hr : x.role = 2) (H : Own w0 (hnode p x :: A) w) :
  ∃ i : Option Addr × Nat × Value × Nat × List (Int × Nat), (x.log.length ≤ i.2.1 ∧ i.2.2.2.2.map Prod.fst = others x) ∧ Own w0 (cel p (ncells x i.1 i.2.1 i.2.2.1 (.map (some i.2.2.2.1))) 150 :: row i.1 i.2.1 2 89 (cvs x.log) :: mp (.int .i64) i.2.2.2.1 (pents i.2.2.2.2) :: peersC x.nx x.mt i.2.2.2.2 :: A) w := by
 obtain ⟨⟨base, c, vv, pv⟩, hc, h1⟩ := hnode_open H
 dsimp only at h1
 unfold extraC at h1
 rw [if_neg (by omega), if_pos hr] at h1
 obtain ⟨hb, h, ⟨h2, h3, ⟨m, rfl, a⟩, a2, dd, y⟩, hw⟩ := h1.pk2
 obtain ⟨ps, hps, h4⟩ := prC_open (A := cel p (ncells x base c vv (.map (some m))) 150 :: row base c 2 89 (cvs x.log) :: A) ⟨hb, h, ⟨h2, h3, a, a2, dd, y⟩, hw⟩
 exact ⟨(base, c, vv, m, ps), ⟨hc, hps⟩, h4.ix [2, 3, 0, 1]⟩
theorem hnode_mk {w0 w : World} {A : List HProp} {p c : Nat} {base : Option Addr} {vv pv : Value} {x : Rn} (hc : x.log.length ≤ c) (H : Own w0 (cel p (ncells x base c vv pv) 150 :: row base c 2 89 (cvs x.log) :: extraC x vv pv :: A) w) : Own w0 (hnode p x :: A) w :=
 (H.pk2.pk2.intro_star.pk1.intro_star).head fun _ h => ⟨base, c, vv, pv, hc, h⟩
theorem hnode_mk0 {w0 w : World} {A : List HProp} {p c : Nat} {base : Option Addr} {vv pv : Value} {x : Rn} (h1 : x.role ≠ 1) (h2 : x.role ≠ 2) (hc : x.log.length ≤ c) (H : Own w0 (cel p (ncells x base c vv pv) 150 :: row base c 2 89 (cvs x.log) :: A) w) : Own w0 (hnode p x :: A) w :=
 hnode_mk (vv := vv) (pv := pv) hc (by unfold extraC; rw [if_neg h1, if_neg h2]; exact H.intro_emp.ix [1, 2, 0])
theorem hnode_mk1 {w0 w : World} {A : List HProp} {p c m : Nat} {base : Option Addr} {pv : Value} {x : Rn} (h1 : x.role = 1) (hc : x.log.length ≤ c) (H : Own w0 (cel p (ncells x base c (.map (some m)) pv) 150 :: row base c 2 89 (cvs x.log) :: mp (.int .i64) m (vents x.voted) :: A) w) : Own w0 (hnode p x :: A) w :=
 hnode_mk (vv := .map (some m)) (pv := pv) hc (by unfold extraC; rw [if_pos h1]; exact Own.pk2 (Own.pk2 (H.pk2.head fun h hh => ⟨m, rfl, hh⟩)))
theorem hnode_mk2 {w0 w : World} {A : List HProp} {p c m : Nat} {base : Option Addr} {vv : Value} {x : Rn} {ps : List (Int × Nat)} (h2 : x.role = 2) (hc : x.log.length ≤ c) (hps : ps.map Prod.fst = others x) (H : Own w0 (cel p (ncells x base c vv (.map (some m))) 150 :: row base c 2 89 (cvs x.log) :: mp (.int .i64) m (pents ps) :: peersC x.nx x.mt ps :: A) w) : Own w0 (hnode p x :: A) w :=
 hnode_mk (vv := vv) (pv := .map (some m)) hc (by
  unfold extraC
  rw [if_neg (by omega), if_pos h2]
  have h1 := prC_mk hps (H.ix [2, 3, 0, 1])
  exact Own.pk2 (Own.pk2 (h1.head fun h hh => ⟨m, rfl, hh⟩)))
abbrev MR (w0 : World) (p : Nat) (A : List HProp) (y : Rn × List Ml) : Ending → World → Prop :=
 Ret w0 (fun i : Option Addr × Nat × List Mh => i.2.2.map Mh.ml = y.2 ∧ i.2.2.length ≤ i.2.1) (fun i => .slice i.1 i.2.2.length i.2.1) (fun i => row i.1 i.2.1 9 85 (mvs i.2.2) :: mrows i.2.2 :: hnode p y.1 :: A)
theorem no_mails {w0 w : World} {A : List HProp} (H : Own w0 A w) : Own w0 (row none 0 9 85 (mvs []) :: mrows [] :: A) w := (H.intro_emp).intro_row_nil
theorem leadS_role {x : Rn} (hm : x.n < 2 * (x.voted.length : Int)) : (leadS x).1.role = 2 := by
 unfold leadS
 rw [if_pos hm]
 split <;> rfl
theorem leadS_others {x : Rn} (hm : x.n < 2 * (x.voted.length : Int)) : others (leadS x).1 = others x := by
 unfold leadS
 rw [if_pos hm]
 split <;> rfl
theorem raft_tick_lead {p : Nat} {x : Rn} (hx : RInv x) (hr : x.role = 2) :
  Fun Tryz.prog w0 147 [.pointer (some ⟨p, 0, none⟩)] (hnode p x :: A) (MR w0 p A (tickS x)) := by
 refine Fun.ex (fun w h => hnode_open2 hr h) ?_
 rintro ⟨base, c, vv, m, ps⟩ ⟨hc, hps⟩
 dsimp only at hc hps ⊢
 have hs := hx.since
 have hn := hx.n
 have hl := hx.log
 have hpe := hx.peers hr
 refine Fun.enterM Tryz.func147 rfl Tryz.ntmps147 rfl ?_
 refine wS $ wR $ bxc (v := .pointer _) (cs := [.pointer _]) rfl rfl fun b1 => yS rfl $ wN $ tN $ wS $ wS $ wR $ sv (vldc pl47 rfl) $ sv (vpeqF Tryz.underlying47 rfl rfl) $ wN $ tN $ ?_
 refine WC.ff rfl ?_
 refine WC.skip $ tN $ wS $ wS $ wR $ sv (vldc pl47 rfl) $ uN rfl $ sv (vfld fl150f5 rfl) $ sv (vldc pl3 rfl) $ sv (veq rfl rfl) $ wN $ tN $ ?_
 refine WC.ite rfl (fun h2 => ?_) (fun h2 => ?_)
 ·
  refine wS $ wS $ wR $ sv (vldc pl47 rfl) $ uN rfl $ sv (vfld fl150f9 rfl) $ sv (vldc pl3 rfl) $ sv (vadd rfl rfl (by omega)) $ uN rfl $ sv (vfld fl150f9 rfl) $ pm (fun _ h => h.pk1) $ stc (v := .int _ _) pl3 sz3 rfl rfl rfl $ wN $ tN $ wS $ wR $ sv (vldc pl47 rfl) $ uN rfl $ sv (vfld fl150f9 rfl) $ sv (vldc pl3 rfl) $ sv (vlt rfl rfl) $ wN $ tN $ ?_
  refine WC.ite rfl (fun h3 => ?_) (fun h3 => ?_)
  ·
   have ht : tickS x = ({ x with since := x.since + 1 }, []) := by unfold tickS; rw [if_pos hr, if_pos h3]
   unfold MR
   rw [ht]
   exact wS $ wR $ yS rfl $ wN $ tN $ WC.ret $ tR $ tR $ WX.ret1M rfl ((none, 0, [])) (⟨rfl, Nat.le_refl _⟩) rfl (fun w h => no_mails (hnode_mk2 (x := { x with since := x.since + 1 }) hr hc hps h.pk1.tail))
  ·
   have ht : tickS x = feedAllS { x with since := x.since + 1 } := by unfold tickS; rw [if_pos hr, if_neg h3]
   unfold MR
   rw [ht]
   exact WC.skip $ tN $ wS $ wR $ sv (vldc pl47 rfl) $ pm (fun _ h => h.pk4.pk4.pk4.pk3) $ cl (raft_feedAll (x := { x with since := x.since + 1 }) ⟨by show 0 ≤ x.n; omega, by show x.n ≤ 5; omega⟩ hl hc (fun k _ => by have := hpe k; exact ⟨by show 1 ≤ x.nx k; omega, this.2.2⟩) hps) ct131 rfl fun i13 hi13 => yS rfl $ wN $ tN $ WC.ret $ tR $ WX.ret1M rfl (i13) (hi13) rfl (fun w h => (hnode_mk2 (x := (feedAllS { x with since := x.since + 1 }).1) hr hc hps (h.ix [6, 2, 3, 4, 5, 0, 1]).tail).ix [1, 2, 0])
 ·
  exact absurd hr h2
theorem raft_tick_idle {p : Nat} {x : Rn} (hx : RInv x) (hr : x.role ≠ 2) (hw : x.waited + 1 ≤ 9223372036854775807) (hi : x.waited + 1 < 10 + 3 * x.id ∨ x.term = 1000000000) :
  Fun Tryz.prog w0 147 [.pointer (some ⟨p, 0, none⟩)] (hnode p x :: A) (MR w0 p A (tickS x)) := by
 refine Fun.ex (fun w h => hnode_open h) ?_
 rintro ⟨base, c, vv, pv⟩ hc
 dsimp only at hc ⊢
 have hw0 := hx.waited
 have hn := hx.n
 have hid := hx.id
 have hl := hx.log
 have htm := hx.term
 have hcm := hx.commit
 have ht : tickS x = ({ x with waited := x.waited + 1 }, []) := by unfold tickS; rw [if_neg hr, if_pos hi]
 unfold MR
 rw [ht]
 refine Fun.enterM Tryz.func147 rfl Tryz.ntmps147 rfl ?_
 refine wS $ wR $ bxc (v := .pointer _) (cs := [.pointer _]) rfl rfl fun b1 => yS rfl $ wN $ tN $ wS $ wS $ wR $ sv (vldc pl47 rfl) $ sv (vpeqF Tryz.underlying47 rfl rfl) $ wN $ tN $ ?_
 refine WC.ff rfl ?_
 refine WC.skip $ tN $ wS $ wS $ wR $ sv (vldc pl47 rfl) $ uN rfl $ sv (vfld fl150f5 rfl) $ sv (vldc pl3 rfl) $ sv (veq rfl rfl) $ wN $ tN $ ?_
 refine WC.ite rfl (fun h2 => ?_) (fun h2 => ?_)
 ·
  exact absurd h2 hr
 ·
  refine WC.skip $ tN $ wS $ wS $ wR $ sv (vldc pl47 rfl) $ uN rfl $ sv (vfld fl150f8 rfl) $ sv (vldc pl3 rfl) $ sv (vadd rfl rfl (by omega)) $ uN rfl $ sv (vfld fl150f8 rfl) $ pm (fun _ h => h.pk1) $ stc (v := .int _ _) pl3 sz3 rfl rfl rfl $ wN $ tN $ ?_
  refine WC.cut0 [(52, .bool (decide (x.waited + 1 < 10 + 3 * x.id ∨ x.term = 1000000000)))] [(1, .pointer _)] (cel p (ncells { x with waited := x.waited + 1 } base c vv pv) 150 :: cel b1 [.pointer (some ⟨p, 0, none⟩)] 47 :: row base c 2 89 (cvs x.log) :: extraC x vv pv :: A) ⟨rfl, trivial⟩ ?_ fun ρh => ?_
  ·
   refine WC.draws rfl (by kernel_rfl) $ qv (vldc pl47 rfl) $ qv (vnil rfl) $ qv (vfld fl150f8 rfl) $ qv (vldc pl3 rfl) $ qv (vldc pl47 rfl) $ qv (vnil rfl) $ qv (vfld fl150f0 rfl) $ qv (vldc pl3 rfl) $ qv (vmul rfl rfl (by omega)) $ qv (vadd rfl rfl (by omega)) $ qvs (vlt rfl rfl) (fun q1 => ?_) (fun q1 => ?_)
   ·
    exact qv (vmB rfl) $ qng rfl $ qng rfl $ qng rfl $ qng rfl $ qng rfl $ qv (vpkt rfl) $ WQ.nil $ xM () trivial ⟨bTa, trivial⟩ ⟨rfl, trivial⟩ (fun _ h => h)
   ·
    exact qv (vmB rfl) $ qvg rfl (vldc pl47 rfl) $ qvg rfl (vnil rfl) $ qvg rfl (vfld fl150f2 rfl) $ qvg rfl (vldc pl3 rfl) $ qvg rfl (veq rfl rfl) $ qv (vpkf rfl) $ WQ.nil $ xM () trivial ⟨bIa, trivial⟩ ⟨rfl, trivial⟩ (fun _ h => h)
  refine WC.ite rfl (fun h3 => ?_) (fun h3 => ?_)
  ·
   exact wS $ wR $ yS rfl $ wN $ tN $ WC.ret $ tR $ WX.ret1M rfl ((none, 0, [])) (⟨rfl, Nat.le_refl _⟩) rfl (fun w h => no_mails (hnode_mk (x := { x with waited := x.waited + 1 }) hc h.pk1.tail))
  ·
   exact absurd hi h3
theorem raft_tick_one {p : Nat} {x : Rn} (hx : RInv x) (hr : x.role ≠ 2) (hw : x.waited + 1 ≤ 9223372036854775807) (hi : ¬ (x.waited + 1 < 10 + 3 * x.id ∨ x.term = 1000000000)) (h1 : x.n < 2) :
  Fun Tryz.prog w0 147 [.pointer (some ⟨p, 0, none⟩)] (hnode p x :: A) (MR w0 p A (tickS x)) := by
 refine Fun.ex (B := fun i : Option Addr × Nat × Value × Value => cel p (ncells x i.1 i.2.1 i.2.2.1 i.2.2.2) 150 :: row i.1 i.2.1 2 89 (cvs x.log) :: A) (q := fun i => x.log.length ≤ i.2.1) (fun w h => by obtain ⟨i, hi, hO⟩ := hnode_open h; exact ⟨i, hi, hO.pk2.tail⟩) ?_
 rintro ⟨base, c, vv, pv⟩ hc
 dsimp only at hc ⊢
 have hw0 := hx.waited
 have hn := hx.n
 have hid := hx.id
 have hl := hx.log
 have htm := hx.term
 have hcm := hx.commit
 have ht : tickS x = leadS (runS x) := by unfold tickS; rw [if_neg hr, if_neg hi, if_pos h1]
 unfold MR
 rw [ht]
 have hvn : (runS x).n < 2 * ((runS x).voted.length : Int) := by show x.n < 2 * (1 : Int); omega
 refine Fun.enterM Tryz.func147 rfl Tryz.ntmps147 rfl ?_
 refine wS $ wR $ bxc (v := .pointer _) (cs := [.pointer _]) rfl rfl fun b1 => yS rfl $ wN $ tN $ wS $ wS $ wR $ sv (vldc pl47 rfl) $ sv (vpeqF Tryz.underlying47 rfl rfl) $ wN $ tN $ ?_
 refine WC.ff rfl ?_
 refine WC.skip $ tN $ wS $ wS $ wR $ sv (vldc pl47 rfl) $ uN rfl $ sv (vfld fl150f5 rfl) $ sv (vldc pl3 rfl) $ sv (veq rfl rfl) $ wN $ tN $ ?_
 refine WC.ite rfl (fun h2 => ?_) (fun h2 => ?_)
 ·
  exact absurd h2 hr
 ·
  refine WC.skip $ tN $ wS $ wS $ wR $ sv (vldc pl47 rfl) $ uN rfl $ sv (vfld fl150f8 rfl) $ sv (vldc pl3 rfl) $ sv (vadd rfl rfl (by omega)) $ uN rfl $ sv (vfld fl150f8 rfl) $ pm (fun _ h => h.pk1) $ stc (v := .int _ _) pl3 sz3 rfl rfl rfl $ wN $ tN $ ?_
  refine WC.cut0 [(52, .bool (decide (x.waited + 1 < 10 + 3 * x.id ∨ x.term = 1000000000)))] [(1, .pointer _)] (cel p (ncells { x with waited := x.waited + 1 } base c vv pv) 150 :: cel b1 [.pointer (some ⟨p, 0, none⟩)] 47 :: row base c 2 89 (cvs x.log) :: A) ⟨rfl, trivial⟩ ?_ fun ρh => ?_
  ·
   refine WC.draws rfl (by kernel_rfl) $ qv (vldc pl47 rfl) $ qv (vnil rfl) $ qv (vfld fl150f8 rfl) $ qv (vldc pl3 rfl) $ qv (vldc pl47 rfl) $ qv (vnil rfl) $ qv (vfld fl150f0 rfl) $ qv (vldc pl3 rfl) $ qv (vmul rfl rfl (by omega)) $ qv (vadd rfl rfl (by omega)) $ qvs (vlt rfl rfl) (fun q1 => ?_) (fun q1 => ?_)
   ·
    exact qv (vmB rfl) $ qng rfl $ qng rfl $ qng rfl $ qng rfl $ qng rfl $ qv (vpkt rfl) $ WQ.nil $ xM () trivial ⟨bTa, trivial⟩ ⟨rfl, trivial⟩ (fun _ h => h)
   ·
    exact qv (vmB rfl) $ qvg rfl (vldc pl47 rfl) $ qvg rfl (vnil rfl) $ qvg rfl (vfld fl150f2 rfl) $ qvg rfl (vldc pl3 rfl) $ qvg rfl (veq rfl rfl) $ qv (vpkf rfl) $ WQ.nil $ xM () trivial ⟨bIa, trivial⟩ ⟨rfl, trivial⟩ (fun _ h => h)
  refine WC.ite rfl (fun h3 => ?_) (fun h3 => ?_)
  ·
   exact absurd h3 hi
  ·
   refine WC.skip $ tN $ wS $ wR $ sv (vldc pl47 rfl) $ uN rfl $ sv (vfld fl150f2 rfl) $ sv (vldc pl3 rfl) $ sv (vadd (a := x.term) rfl rfl (by omega)) $ uN rfl $ sv (vfld fl150f2 rfl) $ stc (v := .int _ _) pl3 sz3 rfl rfl rfl $ wN $ tN $ wS $ WC.plan (.pre [0, 4, 5, 6, 7, 8, 9] (.one [1, 2, 3] 10 (.pre [11, 12] (.one [] 13 (.pre [14, 15] (.one [] 16 (.bar [17, 18] 19 (.done [])))))))) rfl (by kernel_rfl) $ WPl.pre (trivial) $ dv (fun g => (vldc pl47 rfl)) $ dv (fun g => (vldc pl47 rfl)) $ dv (fun g => (vnil rfl)) $ dv (fun g => (vfld fl150f0 rfl)) $ dv (fun g => (vldc pl3 rfl)) $ dv (fun g => (vnil rfl)) $ dv (fun g => (vfld fl150f3 rfl)) $ WD.nil $ WPl.one (fun g => g ++ cel b1 [.pointer (some ⟨p, 0, none⟩)] 47 :: row base c 2 89 (cvs x.log) :: A) ([_]) (fun _ => trivial) (rfl) $ dv (fun g => (vldc pl47 rfl)) $ dv (fun g => (vldc pl47 rfl)) $ dv (fun g => (vldc pl47 rfl)) $ WD.eff rfl $ stc (v := .int _ _) pl3 sz3 rfl rfl rfl $ wN $ WX.br $ WPl.pre (⟨[_], rfl⟩) $ dv (fun g => (vnil rfl)) $ dv (fun g => (vfld fl150f5 rfl)) $ WD.nil $ WPl.one (fun g => g ++ cel b1 [.pointer (some ⟨p, 0, none⟩)] 47 :: row base c 2 89 (cvs x.log) :: A) ([_]) (fun g => good_same _ g) (rfl) $ WD.eff rfl $ stc (v := .int _ _) pl3 sz3 rfl rfl rfl $ wN $ WX.br $ WPl.pre (⟨[_], rfl⟩) $ dv (fun g => (vnil rfl)) $ dv (fun g => (vfld fl150f6 rfl)) $ WD.nil $ WPl.one (fun g => g ++ cel b1 [.pointer (some ⟨p, 0, none⟩)] 47 :: row base c 2 89 (cvs x.log) :: A) ([_]) (fun g => good_same _ g) (rfl) $ WD.eff rfl $ stc (v := .int _ _) pl3 sz3 rfl rfl rfl $ wN $ WX.br $ WPl.bar (⟨[_], rfl⟩) $ dv (fun g => (vnil rfl)) $ dv (fun g => (vfld fl150f8 rfl)) $ WD.eff rfl $ stc (v := .int _ _) pl3 sz3 rfl rfl rfl $ wN $ WX.brT $ WPl.fin (trivial) $ WD.nil $ tN $ wS $ WC.plan (.one [0, 2, 3, 4, 5, 6] 1 (.one [] 7 (.bar [8, 9, 10] 11 (.done [])))) rfl (by kernel_rfl) $ WPl.one (fun g => g ++ cel p (ncells { x with waited := 0, term := x.term + 1, vote := x.id, role := 1, leader := 0 } base c vv pv) 150 :: cel b1 [.pointer (some ⟨p, 0, none⟩)] 47 :: row base c 2 89 (cvs x.log) :: A) ([]) (fun _ => trivial) (rfl) $ dv (fun g => (vldc pl47 rfl)) $ dv (fun g => (vldc pl47 rfl)) $ dv (fun g => (vnil rfl)) $ dv (fun g => (vfld fl150f0 rfl)) $ dv (fun g => (vldc pl3 rfl)) $ dv (fun g => (vbd (ps := []) (cs := []) bt92 zt92 rfl (by rfl))) $ WD.eff rfl $ mkm (.int .i64) fun b41 => wN $ WX.br $ WPl.one (fun g => g ++ cel p (ncells { x with waited := 0, term := x.term + 1, vote := x.id, role := 1, leader := 0 } base c vv pv) 150 :: cel b1 [.pointer (some ⟨p, 0, none⟩)] 47 :: row base c 2 89 (cvs x.log) :: A) ([_]) (fun g => good_same _ g) (rfl) $ WD.eff rfl $ ins Tryz.underlying147 Tryz.underlying3 rfl rfl rfl rfl (.new (by simp)) $ wN $ WX.br $ WPl.bar (⟨[_], rfl⟩) $ dv (fun g => (vmM rfl)) $ dv (fun g => (vnil rfl)) $ dv (fun g => (vfld fl150f10 rfl)) $ WD.eff rfl $ pm (fun _ h => h.pk1) $ stc (v := .map _) pl147 sz147 rfl rfl rfl $ wN $ WX.brT $ WPl.fin (trivial) $ WD.nil $ tN $ wS $ wS $ wR $ sv (vldc pl47 rfl) $ pm (fun _ h => h.pk3.pk1) $ cl (raft_lead_yes (x := runS x) ⟨by show 0 ≤ x.n; omega, by show x.n ≤ 5; omega⟩ hl hc hcm.1 hvn) ct144 rfl fun i48 hi48 => yS rfl $ wN $ tN $ wS $ wR $ sv (vldc pl47 rfl) $ uN rfl $ sv (vfld fl150f5 rfl) $ sv (vldc pl3 rfl) $ sv (veq rfl rfl) $ wN $ tN $ ?_
   refine WC.ite rfl (fun h4 => ?_) (fun h4 => ?_)
   ·
    exact wS $ wR $ zS rfl $ yS rfl $ wN $ tN $ WC.ret $ tR $ WX.ret1M rfl ((i48.ob, i48.oc, i48.ms)) (hi48.1) rfl (fun w h => (hnode_mk2 (leadS_role hvn) hi48.2.1 (hi48.2.2.trans (leadS_others hvn).symm) (h.ix [2, 3, 4, 5, 0, 1])).ix [1, 2, 0, 3] |> fun h => (h.ix [3, 0, 1, 2]).tail)
   ·
    exact absurd (leadS_role hvn) h4
theorem raft_tick_ask {p : Nat} {x : Rn} (hx : RInv x) (hr : x.role ≠ 2) (hw : x.waited + 1 ≤ 9223372036854775807) (hi : ¬ (x.waited + 1 < 10 + 3 * x.id ∨ x.term = 1000000000)) (h1 : ¬ x.n < 2) :
  Fun Tryz.prog w0 147 [.pointer (some ⟨p, 0, none⟩)] (hnode p x :: A) (MR w0 p A (tickS x)) := by
 refine Fun.ex (B := fun i : Option Addr × Nat × Value × Value => cel p (ncells x i.1 i.2.1 i.2.2.1 i.2.2.2) 150 :: row i.1 i.2.1 2 89 (cvs x.log) :: A) (q := fun i => x.log.length ≤ i.2.1) (fun w h => by obtain ⟨i, hi, hO⟩ := hnode_open h; exact ⟨i, hi, hO.pk2.tail⟩) ?_
 rintro ⟨base, c, vv, pv⟩ hc
 dsimp only at hc ⊢
 have hw0 := hx.waited
 have hn := hx.n
 have hid := hx.id
 have hl := hx.log
 have htm := hx.term
 have hcm := hx.commit
 have ht : tickS x = (runS x, (others x).map (askM (runS x))) := by unfold tickS; rw [if_neg hr, if_neg hi, if_neg h1]
 unfold MR
 rw [ht]
 have hvn : ¬ (runS x).n < 2 * ((runS x).voted.length : Int) := by show ¬ x.n < 2 * (1 : Int); omega
 refine Fun.enterM Tryz.func147 rfl Tryz.ntmps147 rfl ?_
 refine wS $ wR $ bxc (v := .pointer _) (cs := [.pointer _]) rfl rfl fun b1 => yS rfl $ wN $ tN $ wS $ wS $ wR $ sv (vldc pl47 rfl) $ sv (vpeqF Tryz.underlying47 rfl rfl) $ wN $ tN $ ?_
 refine WC.ff rfl ?_
 refine WC.skip $ tN $ wS $ wS $ wR $ sv (vldc pl47 rfl) $ uN rfl $ sv (vfld fl150f5 rfl) $ sv (vldc pl3 rfl) $ sv (veq rfl rfl) $ wN $ tN $ ?_
 refine WC.ite rfl (fun h2 => ?_) (fun h2 => ?_)
 ·
  exact absurd h2 hr
 ·
  refine WC.skip $ tN $ wS $ wS $ wR $ sv (vldc pl47 rfl) $ uN rfl $ sv (vfld fl150f8 rfl) $ sv (vldc pl3 rfl) $ sv (vadd rfl rfl (by omega)) $ uN rfl $ sv (vfld fl150f8 rfl) $ pm (fun _ h => h.pk1) $ stc (v := .int _ _) pl3 sz3 rfl rfl rfl $ wN $ tN $ ?_
  refine WC.cut0 [(52, .bool (decide (x.waited + 1 < 10 + 3 * x.id ∨ x.term = 1000000000)))] [(1, .pointer _)] (cel p (ncells { x with waited := x.waited + 1 } base c vv pv) 150 :: cel b1 [.pointer (some ⟨p, 0, none⟩)] 47 :: row base c 2 89 (cvs x.log) :: A) ⟨rfl, trivial⟩ ?_ fun ρh => ?_
  ·
   refine WC.draws rfl (by kernel_rfl) $ qv (vldc pl47 rfl) $ qv (vnil rfl) $ qv (vfld fl150f8 rfl) $ qv (vldc pl3 rfl) $ qv (vldc pl47 rfl) $ qv (vnil rfl) $ qv (vfld fl150f0 rfl) $ qv (vldc pl3 rfl) $ qv (vmul rfl rfl (by omega)) $ qv (vadd rfl rfl (by omega)) $ qvs (vlt rfl rfl) (fun q1 => ?_) (fun q1 => ?_)
   ·
    exact qv (vmB rfl) $ qng rfl $ qng rfl $ qng rfl $ qng rfl $ qng rfl $ qv (vpkt rfl) $ WQ.nil $ xM () trivial ⟨bTa, trivial⟩ ⟨rfl, trivial⟩ (fun _ h => h)
   ·
    exact qv (vmB rfl) $ qvg rfl (vldc pl47 rfl) $ qvg rfl (vnil rfl) $ qvg rfl (vfld fl150f2 rfl) $ qvg rfl (vldc pl3 rfl) $ qvg rfl (veq rfl rfl) $ qv (vpkf rfl) $ WQ.nil $ xM () trivial ⟨bIa, trivial⟩ ⟨rfl, trivial⟩ (fun _ h => h)
  refine WC.ite rfl (fun h3 => ?_) (fun h3 => ?_)
  ·
   exact absurd h3 hi
  ·
   refine WC.skip $ tN $ wS $ wR $ sv (vldc pl47 rfl) $ uN rfl $ sv (vfld fl150f2 rfl) $ sv (vldc pl3 rfl) $ sv (vadd (a := x.term) rfl rfl (by omega)) $ uN rfl $ sv (vfld fl150f2 rfl) $ stc (v := .int _ _) pl3 sz3 rfl rfl rfl $ wN $ tN $ wS $ WC.plan (.pre [0, 4, 5, 6, 7, 8, 9] (.one [1, 2, 3] 10 (.pre [11, 12] (.one [] 13 (.pre [14, 15] (.one [] 16 (.bar [17, 18] 19 (.done [])))))))) rfl (by kernel_rfl) $ WPl.pre (trivial) $ dv (fun g => (vldc pl47 rfl)) $ dv (fun g => (vldc pl47 rfl)) $ dv (fun g => (vnil rfl)) $ dv (fun g => (vfld fl150f0 rfl)) $ dv (fun g => (vldc pl3 rfl)) $ dv (fun g => (vnil rfl)) $ dv (fun g => (vfld fl150f3 rfl)) $ WD.nil $ WPl.one (fun g => g ++ cel b1 [.pointer (some ⟨p, 0, none⟩)] 47 :: row base c 2 89 (cvs x.log) :: A) ([_]) (fun _ => trivial) (rfl) $ dv (fun g => (vldc pl47 rfl)) $ dv (fun g => (vldc pl47 rfl)) $ dv (fun g => (vldc pl47 rfl)) $ WD.eff rfl $ stc (v := .int _ _) pl3 sz3 rfl rfl rfl $ wN $ WX.br $ WPl.pre (⟨[_], rfl⟩) $ dv (fun g => (vnil rfl)) $ dv (fun g => (vfld fl150f5 rfl)) $ WD.nil $ WPl.one (fun g => g ++ cel b1 [.pointer (some ⟨p, 0, none⟩)] 47 :: row base c 2 89 (cvs x.log) :: A) ([_]) (fun g => good_same _ g) (rfl) $ WD.eff rfl $ stc (v := .int _ _) pl3 sz3 rfl rfl rfl $ wN $ WX.br $ WPl.pre (⟨[_], rfl⟩) $ dv (fun g => (vnil rfl)) $ dv (fun g => (vfld fl150f6 rfl)) $ WD.nil $ WPl.one (fun g => g ++ cel b1 [.pointer (some ⟨p, 0, none⟩)] 47 :: row base c 2 89 (cvs x.log) :: A) ([_]) (fun g => good_same _ g) (rfl) $ WD.eff rfl $ stc (v := .int _ _) pl3 sz3 rfl rfl rfl $ wN $ WX.br $ WPl.bar (⟨[_], rfl⟩) $ dv (fun g => (vnil rfl)) $ dv (fun g => (vfld fl150f8 rfl)) $ WD.eff rfl $ stc (v := .int _ _) pl3 sz3 rfl rfl rfl $ wN $ WX.brT $ WPl.fin (trivial) $ WD.nil $ tN $ wS $ WC.plan (.one [0, 2, 3, 4, 5, 6] 1 (.one [] 7 (.bar [8, 9, 10] 11 (.done [])))) rfl (by kernel_rfl) $ WPl.one (fun g => g ++ cel p (ncells { x with waited := 0, term := x.term + 1, vote := x.id, role := 1, leader := 0 } base c vv pv) 150 :: cel b1 [.pointer (some ⟨p, 0, none⟩)] 47 :: row base c 2 89 (cvs x.log) :: A) ([]) (fun _ => trivial) (rfl) $ dv (fun g => (vldc pl47 rfl)) $ dv (fun g => (vldc pl47 rfl)) $ dv (fun g => (vnil rfl)) $ dv (fun g => (vfld fl150f0 rfl)) $ dv (fun g => (vldc pl3 rfl)) $ dv (fun g => (vbd (ps := []) (cs := []) bt92 zt92 rfl (by rfl))) $ WD.eff rfl $ mkm (.int .i64) fun b41 => wN $ WX.br $ WPl.one (fun g => g ++ cel p (ncells { x with waited := 0, term := x.term + 1, vote := x.id, role := 1, leader := 0 } base c vv pv) 150 :: cel b1 [.pointer (some ⟨p, 0, none⟩)] 47 :: row base c 2 89 (cvs x.log) :: A) ([_]) (fun g => good_same _ g) (rfl) $ WD.eff rfl $ ins Tryz.underlying147 Tryz.underlying3 rfl rfl rfl rfl (.new (by simp)) $ wN $ WX.br $ WPl.bar (⟨[_], rfl⟩) $ dv (fun g => (vmM rfl)) $ dv (fun g => (vnil rfl)) $ dv (fun g => (vfld fl150f10 rfl)) $ WD.eff rfl $ pm (fun _ h => h.pk1) $ stc (v := .map _) pl147 sz147 rfl rfl rfl $ wN $ WX.brT $ WPl.fin (trivial) $ WD.nil $ tN $ wS $ wS $ wR $ sv (vldc pl47 rfl) $ cl (raft_lead_no (x := runS x) ⟨by show 0 ≤ x.n; omega, by show x.n ≤ 5; omega⟩ hvn) ct144 rfl fun _ _ => yS rfl $ wN $ tN $ wS $ wR $ sv (vldc pl47 rfl) $ uN rfl $ sv (vfld fl150f5 rfl) $ sv (vldc pl3 rfl) $ sv (veq rfl rfl) $ wN $ tN $ ?_
   refine WC.ite rfl (fun h4 => ?_) (fun h4 => ?_)
   ·
    exact absurd h4 (by show ¬ (1 : Int) = 2; decide)
   ·
    refine WC.skip $ tN $ wS $ wR $ alz (cs := [.slice none 0 0]) zt41 (by rfl) fun b51 => wN $ tN $ wS $ wS $ wR $ sv (vldc pl47 rfl) $ sv (vfnb rfl) $ wN $ tN $ WC.block $ ?_
    refine WC.rangeF (bnd := [.pointer (some ⟨p, 0, none⟩)]) (fun k => [cel p (ncells (runS x) base c (.map (some b41)) pv) 150, mp (.int .i64) b41 (vents [x.id]), outC b51 ((oth x.id k).map (askM (runS x))), cel b1 [.pointer (some ⟨p, 0, none⟩)] 47, row base c 2 89 (cvs x.log)]) (0) (x.n.toNat) (fun k v => v = .int .i64 ((k : Int) + 1) ∧ k < x.n.toNat ∧ (k : Int) + 1 ≠ x.id) ct134 rfl (fun w h => (outC_nil h).ix [1, 2, 0]) (fun l Rr hY => raft_others (x := runS x) (C := fun k => mp (.int .i64) b41 (vents [x.id]) :: outC b51 ((oth x.id k).map (askM (runS x))) :: cel b1 [.pointer (some ⟨p, 0, none⟩)] 47 :: row base c 2 89 (cvs x.log) :: Rr) ⟨by show 0 ≤ x.n; omega, by show x.n ≤ 5; omega⟩ (fun k h => by simp only [oth_id (show (k : Int) + 1 = x.id from h)]) (fun k h1 h2 => hY k _ ⟨rfl, h1, h2⟩)) ?_ ?_
    ·
     intro lR XR YR k v hS
     obtain ⟨rfl, hk1, hk2⟩ := hS
     refine WG.region (by kernel_rfl) $ yI rfl $ wN $ WX.asg $ ?_
     refine WG.perm (A' := cel p (ncells (runS x) base c (.map (some b41)) pv) 150 :: mp (.int .i64) b41 (vents [x.id]) :: outC b51 ((oth x.id k).map (askM (runS x))) :: cel b1 [.pointer (some ⟨p, 0, none⟩)] 47 :: row base c 2 89 (cvs x.log) :: YR :: A) ?_ (fun _ h => h)
     refine WG.ex (fun w h => outC_open h.pk2) ?_
     rintro ⟨ob, oc, ms⟩ ⟨hms, hmc⟩
     dsimp only at hms hmc ⊢
     have hml : ms.length ≤ 5 := by have := congrArg List.length hms; have h2 := oth_len (id := x.id) (n := k); rw [List.length_map, List.length_map] at this; omega
     have hmvl := mvs_length ms
     refine WG.block $ WG.seq $ WG.region (by kernel_rfl) $ sv (vldc pl47 rfl) $ zI rfl $ cl (raft_mail (x := runS x) (base := base) (c := c) (vv := .map (some b41)) (pv := pv)) ct136 rfl fun _ _ => alz (cs := [.int .i64 0, .int .i64 0, .int .i64 0, .int .i64 0, .int .i64 0, .int .i64 0, .int .i64 0, .bool false, .slice none 0 0]) zt85 (by rfl) fun b55 => stA sz85 rfl rfl rfl rfl (hone) $ wN $ WX.gthenM $ WG.seq $ WG.plan (.bar [0, 1, 2, 3, 4, 5, 6, 7, 8, 9, 10, 11, 12] 13 (.bar [14] 15 (.done []))) rfl (by kernel_rfl) $ WPl.bar (trivial) $ dv (fun g => (vldc pl47 rfl)) $ dv (fun g => (vnil rfl)) $ dv (fun g => (vfld fl150f4 rfl)) $ dv (fun g => (vldc pl54 rfl)) $ dv (fun g => (vlen Tryz.underlying54 rfl)) $ dv (fun g => (vldc pl47 rfl)) $ dv (fun g => (vldc pl47 rfl)) $ dv (fun g => (vnil rfl)) $ dv (fun g => (vfld fl150f4 rfl)) $ dv (fun g => (vldc pl54 rfl)) $ dv (fun g => (vlen Tryz.underlying54 rfl)) $ dcl (fun g => Fun.quiet (raft_at (x := runS x) (base := base) (c := c) (vv := .map (some b41)) (pv := pv) hl)) ct132 rfl $ dv (fun g => (vfld fl85f4 rfl)) $ WD.eff rfl $ stc (v := .int _ _) pl3 sz3 rfl rfl rfl $ wN $ WX.brT $ WPl.bar (trivial) $ dv (fun g => (vfld fl85f5 rfl)) $ WD.eff rfl $ stc (v := .int _ _) pl3 sz3 rfl rfl rfl $ wN $ WX.brT $ WPl.fin (trivial) $ WD.nil $ WX.gthenM $ WG.region (by kernel_rfl) $ sv (vldc pl41 rfl) $ sv (vldac ag85 sz85 rfl rfl (by decide)) $ pm (fun _ h => h.pk2) $ apA (v := .agg _) (cs := mv ⟨1, x.id, (k : Int) + 1, x.term + 1, x.log.length, atT x.log x.log.length, 0, false, ⟨none, [], 0⟩⟩) Tryz.underlying41 zt85 rfl (fun _ => rfl) (fun _ => rfl) rfl rfl rfl (by decide) (by decide) (mv_one _) hmvl (by simp only [maxLen]; omega) (by omega) fun _ base67 c67 hc67 =>pm (fun _ h => h.pk2) $ stc (v := .slice _ _ _) pl41 sz41 rfl rfl rfl $ wN $ WX.gblockN $ WX.round (fun w h => ?_)
     have h1 := mrows_snoc (y := ⟨1, x.id, (k : Int) + 1, x.term + 1, x.log.length, atT x.log x.log.length, 0, false, ⟨none, [], 0⟩⟩) ((h.ix [3, 0, 1, 4, 5, 6, 7, 8, 2]).intro_row_nil)
     rw [← mvs_snoc] at h1
     have h2 := outC_mk (l := (oth x.id (k + 1)).map (askM (runS x))) (by rw [oth_snoc hk2, List.map_append, List.map_append, hms]; rfl) (by simp) hc67 h1
     exact (h2.ix [6, 1, 2, 0, 3, 4, 5]).tail
    ·
     intro DR lR rR
     refine WX.perm (A' := cel p (ncells (runS x) base c (.map (some b41)) pv) 150 :: mp (.int .i64) b41 (vents [x.id]) :: outC b51 ((oth x.id x.n.toNat).map (askM (runS x))) :: cel b1 [.pointer (some ⟨p, 0, none⟩)] 47 :: row base c 2 89 (cvs x.log) :: lp DR lR rR :: A) ?_ (fun _ h => h)
     refine WX.exi (fun w h => outC_open h.pk2) ?_
     rintro ⟨ob, oc, ms⟩ ⟨hms, hmc⟩
     dsimp only at hms hmc ⊢
     exact WX.gblockN $ WX.gthenN $ WG.seq $ WG.region (by kernel_rfl) $ sv (vldc pl41 rfl) $ yS rfl $ wN $ WX.gthenM $ WG.ret $ WX.ret1G rfl ((ob, oc, ms)) (⟨hms, hmc⟩) rfl (fun w h => ((hnode_mk1 (x := runS x) rfl hc (h.ix [3, 6, 4, 7, 1, 2, 0, 5])).ix [4, 5, 1, 2, 3, 0]).tail.tail)
theorem raft_tick {p : Nat} {x : Rn} (hx : RInv x) (hw : x.waited + 1 ≤ 9223372036854775807) :
  Fun Tryz.prog w0 147 [.pointer (some ⟨p, 0, none⟩)] (hnode p x :: A) (MR w0 p A (tickS x)) := by
 by_cases hr : x.role = 2
 ·exact raft_tick_lead hx hr
 ·by_cases hi : x.waited + 1 < 10 + 3 * x.id ∨ x.term = 1000000000
  ·exact raft_tick_idle hx hr hw hi
  ·by_cases h1 : x.n < 2
   ·exact raft_tick_one hx hr hw hi h1
   ·exact raft_tick_ask hx hr hw hi h1
theorem one_mail {w0 w : World} {A : List HProp} {b : Nat} {h : Mh} (H : Own w0 (cel b (mv h) 85 :: row h.cs.base h.cs.cap 2 89 (cvs h.cs.xs) :: A) w) : Own w0 (row (some ⟨b, 0, none⟩) 1 9 85 (mvs [h]) :: mrows [h] :: A) w := by
 have h1 := H.cel_row (c := 1) (s := 9) rfl (by simp [maxLen])
 have h2 : Own w0 (mrows [h] :: row (some ⟨b, 0, none⟩) 1 9 85 (mv h) :: A) w := (h1.pk1.intro_emp.pk1).intro_star
 exact h2.pk1
theorem one_mail0 {w0 w : World} {A : List HProp} {b : Nat} {h : Mh} (hc : h.cs = ⟨none, [], 0⟩) (H : Own w0 (cel b (mv h) 85 :: A) w) : Own w0 (row (some ⟨b, 0, none⟩) 1 9 85 (mvs [h]) :: mrows [h] :: A) w :=
 one_mail (by rw [hc]; exact H.intro_row_nil.pk1)
abbrev voteH (x : Rn) (m : Mh) (ok : Bool) : Mh := ⟨2, x.id, m.fr, x.term, 0, 0, 0, ok, ⟨none, [], 0⟩⟩
theorem raft_asked {p : Nat} {x : Rn} {m : Mh} (hx : RInv x) :
  Fun Tryz.prog w0 140 [.pointer (some ⟨p, 0, none⟩), .agg (mv m).toArray] (hnode p x :: A) (MR w0 p A (askedS x m.ml)) := by
 refine Fun.ex (fun w h => hnode_open h) ?_
 rintro ⟨base, c, vv, pv⟩ hc
 dsimp only at hc ⊢
 have hl := hx.log
 obtain ⟨lst, hlst⟩ : ∃ lst, lst = atT x.log x.log.length := ⟨_, rfl⟩
 refine Fun.enter Tryz.func140 rfl Tryz.ntmps140 rfl ?_
 refine wS $ wR $ bxc (v := .agg _) (cs := [.int _ _, .int _ _, .int _ _, .int _ _, .int _ _, .int _ _, .int _ _, .bool _, .slice _ _ _]) rfl rfl fun b1 => yS rfl $ wN $ tN $ wS $ wR $ zP rfl $ sv (vfld fl85f1 rfl) $ sv (vldc pl3 rfl) $ cl (raft_mail (x := x) (base := base) (c := c) (vv := vv) (pv := pv)) ct136 rfl fun _ _ => alz (cs := [.int .i64 0, .int .i64 0, .int .i64 0, .int .i64 0, .int .i64 0, .int .i64 0, .int .i64 0, .bool false, .slice none 0 0]) zt85 (by rfl) fun b4 => stA sz85 rfl rfl rfl rfl (hone) $ wN $ tN $ wS $ wR $ zP rfl $ zP rfl $ uN rfl $ sv (vfld fl150f4 rfl) $ sv (vldc pl54 rfl) $ sv (vlen Tryz.underlying54 rfl) $ cl (raft_at (x := x) (base := base) (c := c) (vv := vv) (pv := pv) hl) ct132 rfl fun _ _ => ?_
 rw [← hlst]
 refine yI rfl $ wN $ tN $ ?_
 refine WC.cut0 [(7, .bool (decide (lst < m.prev ∨ m.prev = lst ∧ (x.log.length : Int) ≤ m.index)))] [(0, .pointer _), (3, .pointer _), (5, .pointer _)] (cel b4 (mv (voteH x m false)) 85 :: cel b1 (mv m) 85 :: cel p (ncells x base c vv pv) 150 :: row base c 2 89 (cvs x.log) :: extraC x vv pv :: A) ⟨rfl, rfl, rfl, trivial⟩ ?_ fun ρh => ?_
 ·
  refine WC.draws rfl (by kernel_rfl) $ qv (vfld fl85f5 rfl) $ qv (vldc pl3 rfl) $ qv (vmI rfl) $ qvs (vgt rfl rfl) (fun q1 => ?_) (fun q1 => ?_)
  ·
   exact qv (vmB rfl) $ qng rfl $ qng rfl $ qng rfl $ qng rfl $ qng rfl $ qng rfl $ qng rfl $ qng rfl $ qng rfl $ qng rfl $ qng rfl $ qng rfl $ qng rfl $ qng rfl $ qv (vpkt rfl) $ qv (vaB rfl) $ WQ.nil $ xM () trivial ⟨bTa, trivial⟩ ⟨rfl, rfl, rfl, trivial⟩ (fun _ h => h)
  ·
   refine qv (vmB rfl) $ qvg rfl (vfld fl85f5 rfl) $ qvg rfl (vldc pl3 rfl) $ qvg rfl (vmI rfl) $ qvsg rfl (veq rfl rfl) (fun q2 => ?_) (fun q2 => ?_)
   ·
    exact qvg rfl (vmB rfl) $ qvg rfl (vfld fl85f4 rfl) $ qvg rfl (vldc pl3 rfl) $ qvg rfl (vmP rfl) $ qvg rfl (vnil rfl) $ qvg rfl (vfld fl150f4 rfl) $ qvg rfl (vldc pl54 rfl) $ qvg rfl (vlen Tryz.underlying54 rfl) $ qvg rfl (vge rfl rfl) $ qvg rfl (vpkt rfl) $ qv (vpkf rfl) $ qv (vaB rfl) $ WQ.nil $ xM () trivial ⟨bIa, trivial⟩ ⟨rfl, rfl, rfl, trivial⟩ (fun _ h => h)
   ·
    exact qvg rfl (vmB rfl) $ qng rfl $ qng rfl $ qng rfl $ qng rfl $ qng rfl $ qng rfl $ qng rfl $ qng rfl $ qvg rfl (vpkf rfl) $ qv (vpkf rfl) $ qv (vaB rfl) $ WQ.nil $ xM () trivial ⟨bFa, trivial⟩ ⟨rfl, rfl, rfl, trivial⟩ (fun _ h => h)
 refine wS $ ?_
 refine WC.cut0 [(71, .bool (decide (m.term = x.term ∧ (x.vote = 0 ∨ x.vote = m.fr) ∧ x.role = 0 ∧ (lst < m.prev ∨ m.prev = lst ∧ (x.log.length : Int) ≤ m.index))))] [(0, .pointer _), (3, .pointer _), (5, .pointer _)] (cel b4 (mv (voteH x m false)) 85 :: cel b1 (mv m) 85 :: cel p (ncells x base c vv pv) 150 :: row base c 2 89 (cvs x.log) :: extraC x vv pv :: A) ⟨rfl, rfl, rfl, trivial⟩ ?_ fun ρh => ?_
 ·
  refine WC.draws rfl (by kernel_rfl) $ qv (vfld fl85f3 rfl) $ qv (vldc pl3 rfl) $ qv (vmP rfl) $ qv (vnil rfl) $ qv (vfld fl150f2 rfl) $ qv (vldc pl3 rfl) $ qvs (veq rfl rfl) (fun q3 => ?_) (fun q3 => ?_)
  ·
   refine qv (vmB rfl) $ qvg rfl (vmP rfl) $ qvg rfl (vnil rfl) $ qvg rfl (vfld fl150f3 rfl) $ qvg rfl (vldc pl3 rfl) $ qvsg rfl (veq rfl rfl) (fun q4 => ?_) (fun q4 => ?_)
   ·
    refine qvg rfl (vmB rfl) $ qng rfl $ qng rfl $ qng rfl $ qng rfl $ qng rfl $ qng rfl $ qng rfl $ qvg rfl (vpkt rfl) $ qv (vpkt rfl) $ qv (vmB rfl) $ qvg rfl (vmP rfl) $ qvg rfl (vnil rfl) $ qvg rfl (vfld fl150f5 rfl) $ qvg rfl (vldc pl3 rfl) $ qvsg rfl (veq rfl rfl) (fun q5 => ?_) (fun q5 => ?_)
    ·
     exact qv (vpkt rfl) $ qv (vmB rfl) $ qvg rfl (vmB rfl) $ qv (vpkt rfl) $ WQ.nil $ xM () trivial ⟨bIa, trivial⟩ ⟨rfl, rfl, rfl, trivial⟩ (fun _ h => h)
    ·
     exact qv (vpkt rfl) $ qv (vmB rfl) $ qng rfl $ qv (vpkf rfl) $ WQ.nil $ xM () trivial ⟨bFa, trivial⟩ ⟨rfl, rfl, rfl, trivial⟩ (fun _ h => h)
   ·
    refine qvg rfl (vmB rfl) $ qvg rfl (vmP rfl) $ qvg rfl (vnil rfl) $ qvg rfl (vfld fl150f3 rfl) $ qvg rfl (vldc pl3 rfl) $ qvg rfl (vfld fl85f1 rfl) $ qvg rfl (vldc pl3 rfl) $ qvsg rfl (veq rfl rfl) (fun q6 => ?_) (fun q6 => ?_)
    ·
     refine qvg rfl (vpkf rfl) $ qv (vpkt rfl) $ qv (vmB rfl) $ qvg rfl (vmP rfl) $ qvg rfl (vnil rfl) $ qvg rfl (vfld fl150f5 rfl) $ qvg rfl (vldc pl3 rfl) $ qvsg rfl (veq rfl rfl) (fun q7 => ?_) (fun q7 => ?_)
     ·
      exact qv (vpkt rfl) $ qv (vmB rfl) $ qvg rfl (vmB rfl) $ qv (vpkt rfl) $ WQ.nil $ xM () trivial ⟨bIa, trivial⟩ ⟨rfl, rfl, rfl, trivial⟩ (fun _ h => h)
     ·
      exact qv (vpkt rfl) $ qv (vmB rfl) $ qng rfl $ qv (vpkf rfl) $ WQ.nil $ xM () trivial ⟨bFa, trivial⟩ ⟨rfl, rfl, rfl, trivial⟩ (fun _ h => h)
    ·
     exact qvg rfl (vpkf rfl) $ qv (vpkt rfl) $ qv (vmB rfl) $ qng rfl $ qng rfl $ qng rfl $ qng rfl $ qng rfl $ qv (vpkf rfl) $ qv (vmB rfl) $ qng rfl $ qv (vpkf rfl) $ WQ.nil $ xM () trivial ⟨bFa, trivial⟩ ⟨rfl, rfl, rfl, trivial⟩ (fun _ h => h)
  ·
   exact qv (vmB rfl) $ qng rfl $ qng rfl $ qng rfl $ qng rfl $ qng rfl $ qng rfl $ qng rfl $ qng rfl $ qng rfl $ qng rfl $ qng rfl $ qng rfl $ qng rfl $ qng rfl $ qv (vpkf rfl) $ qv (vmB rfl) $ qng rfl $ qng rfl $ qng rfl $ qng rfl $ qng rfl $ qv (vpkf rfl) $ qv (vmB rfl) $ qng rfl $ qv (vpkf rfl) $ WQ.nil $ xM () trivial ⟨bFa, trivial⟩ ⟨rfl, rfl, rfl, trivial⟩ (fun _ h => h)
 refine WC.ite rfl (fun h1 => ?_) (fun h1 => ?_)
 ·
  have hv : voteOk x m.ml := by unfold voteOk; rw [← hlst]; exact h1
  have ht : askedS x m.ml = ({ x with vote := m.fr, waited := 0 }, [(voteH x m true).ml]) := by unfold askedS; rw [if_pos hv, decide_eq_true hv]; rfl
  unfold MR
  rw [ht]
  ·
   exact wR $ zP rfl $ zP rfl $ sv (vfld fl85f1 rfl) $ sv (vldc pl3 rfl) $ uN rfl $ sv (vfld fl150f3 rfl) $ pm (fun _ h => h.pk2) $ stc (v := .int _ _) pl3 sz3 rfl rfl rfl $ uN rfl $ sv (vfld fl150f8 rfl) $ stc (v := .int _ _) pl3 sz3 rfl rfl rfl $ sv (vfld fl85f7 rfl) $ pm (fun _ h => h.pk1) $ stc (v := .bool _) pl4 sz4 rfl rfl rfl $ wN $ tN $ wS $ wR $ sv (vldac ag85 sz85 rfl rfl (by decide)) $ bslA (v := .agg _) (cs := mv (voteH x m true)) Tryz.underlying41 zt85 rfl rfl rfl (by decide) (by decide) fun b23 =>yS rfl $ wN $ tN $ WC.ret $ xR rfl ((some ⟨b23, 0, none⟩, 1, [voteH x m true])) (⟨rfl, Nat.le_refl _⟩) rfl (fun w h => ((hnode_mk (x := { x with vote := m.fr, waited := 0 }) hc ((one_mail0 rfl h).ix [3, 5, 6, 0, 1, 2, 4])).ix [3, 4, 1, 2, 0]).tail.tail)
 ·
  have hv : ¬ voteOk x m.ml := by unfold voteOk; rw [← hlst]; exact h1
  have ht : askedS x m.ml = (x, [(voteH x m false).ml]) := by unfold askedS; rw [if_neg hv, decide_eq_false hv]; rfl
  unfold MR
  rw [ht]
  ·
   exact WC.skip $ tN $ wS $ wR $ sv (vldac ag85 sz85 rfl rfl (by decide)) $ bslA (v := .agg _) (cs := mv (voteH x m false)) Tryz.underlying41 zt85 rfl rfl rfl (by decide) (by decide) fun b23 =>yS rfl $ wN $ tN $ WC.ret $ xR rfl ((some ⟨b23, 0, none⟩, 1, [voteH x m false])) (⟨rfl, Nat.le_refl _⟩) rfl (fun w h => ((hnode_mk (x := x) hc ((one_mail0 rfl h).ix [4, 5, 6, 0, 1, 2, 3])).ix [3, 4, 1, 2, 0]).tail.tail)
end Go.Proofs.YtigjompojlhomaaGreat
end
section
set_option linter.unusedVariables false
set_option linter.unusedSimpArgs false
set_option maxRecDepth 4000
namespace Go.Proofs.YtigjompojlhomaaGreat
open Go.Sl Go.RowKit Go.Raft
theorem raft_commit {w0 : World} {A : List HProp} {p : Nat} {x : Rn} : Fun Tryz.prog w0 67 [.pointer (some ⟨p, 0, none⟩)] (hnode p x :: A) (Ru w0 (.int .i64 x.commit) (hnode p x :: A)) := by
 refine Fun.ex (fun w h => hnode_open h) ?_
 rintro ⟨base, c, vv, pv⟩ hc
 dsimp only at hc ⊢
 refine Fun.enter Tryz.func67 rfl Tryz.ntmps67 rfl ?_
 refine wS $ wR $ yI rfl $ wN $ tN $ wS $ wS $ wR $ zP rfl $ sv (vpeqF Tryz.underlying47 rfl rfl) $ wN $ tN $ ?_
 refine WC.ff rfl ?_
 exact WC.skip $ tN $ wS $ wR $ zP rfl $ uN rfl $ sv (vfld fl150f7 rfl) $ sv (vldc pl3 rfl) $ yI rfl $ wN $ tN $ WC.ret $ xR rfl (()) (trivial) rfl (fun w h => hnode_mk hc h)
theorem raft_role {w0 : World} {A : List HProp} {p : Nat} {x : Rn} : Fun Tryz.prog w0 45 [.pointer (some ⟨p, 0, none⟩)] (hnode p x :: A) (Ru w0 (.int .i64 x.role) (hnode p x :: A)) := by
 refine Fun.ex (fun w h => hnode_open h) ?_
 rintro ⟨base, c, vv, pv⟩ hc
 dsimp only at hc ⊢
 refine Fun.enter Tryz.func45 rfl Tryz.ntmps45 rfl ?_
 refine wS $ wR $ yI rfl $ wN $ tN $ wS $ wS $ wR $ zP rfl $ sv (vpeqF Tryz.underlying47 rfl rfl) $ wN $ tN $ ?_
 refine WC.ff rfl ?_
 exact WC.skip $ tN $ wS $ wR $ zP rfl $ uN rfl $ sv (vfld fl150f5 rfl) $ sv (vldc pl3 rfl) $ yI rfl $ wN $ tN $ WC.ret $ xR rfl (()) (trivial) rfl (fun w h => hnode_mk hc h)
theorem raft_leader {w0 : World} {A : List HProp} {p : Nat} {x : Rn} : Fun Tryz.prog w0 66 [.pointer (some ⟨p, 0, none⟩)] (hnode p x :: A) (Ru w0 (.int .i64 x.leader) (hnode p x :: A)) := by
 refine Fun.ex (fun w h => hnode_open h) ?_
 rintro ⟨base, c, vv, pv⟩ hc
 dsimp only at hc ⊢
 refine Fun.enter Tryz.func66 rfl Tryz.ntmps66 rfl ?_
 refine wS $ wR $ yI rfl $ wN $ tN $ wS $ wS $ wR $ zP rfl $ sv (vpeqF Tryz.underlying47 rfl rfl) $ wN $ tN $ ?_
 refine WC.ff rfl ?_
 exact WC.skip $ tN $ wS $ wR $ zP rfl $ uN rfl $ sv (vfld fl150f6 rfl) $ sv (vldc pl3 rfl) $ yI rfl $ wN $ tN $ WC.ret $ xR rfl (()) (trivial) rfl (fun w h => hnode_mk hc h)
theorem sone {a b : Int} {s1 : Option Addr} {s2 s3 : Nat} : ∀ v ∈ [Value.int .i64 a, .int .i64 b, .slice s1 s2 s3], v.oneCell' = true := by
 intro v hv
 simp only [List.mem_cons, List.not_mem_nil, or_false] at hv
 rcases hv with rfl | rfl | rfl <;> rfl
theorem raft_stable {w0 : World} {A : List HProp} {p : Nat} {x : Rn} (hx : RInv x) : Fun Tryz.prog w0 46 [.pointer (some ⟨p, 0, none⟩)] (hnode p x :: A)
  (Ret w0 (fun i : Option Addr × Nat => x.log.length ≤ i.2) (fun i => .agg [.int .i64 x.term, .int .i64 x.vote, .slice i.1 x.log.length i.2].toArray) (fun i => row i.1 i.2 2 89 (cvs x.log) :: hnode p x :: A)) := by
 refine Fun.ex (fun w h => hnode_open h) ?_
 rintro ⟨base, c, vv, pv⟩ hc
 dsimp only at hc ⊢
 have hl := hx.log
 refine Fun.enter Tryz.func46 rfl Tryz.ntmps46 rfl ?_
 refine wS $ wR $ alz (cs := [.int .i64 0, .int .i64 0, .slice none 0 0]) zt74 (by rfl) fun b1 => wN $ tN $ wS $ wS $ wR $ zP rfl $ sv (vpeqF Tryz.underlying47 rfl rfl) $ wN $ tN $ ?_
 refine WC.ff rfl ?_
 exact WC.skip $ tN $ wS $ WC.plan (.pre [8, 9, 10, 11] (.one [0, 1, 2, 3, 4, 5, 6, 7] 12 (.bar [13] 14 (.done [])))) rfl (by kernel_rfl) $ WPl.pre (trivial) $ dv (fun g => (vmP rfl)) $ dv (fun g => (vnil rfl)) $ dv (fun g => (vfld fl150f4 rfl)) $ dv (fun g => (vldc pl54 rfl)) $ WD.nil $ WPl.one (fun g => g ++ cel b1 [.int .i64 0, .int .i64 0, .slice none 0 0] 74 :: cel p (ncells x base c vv pv) 150 :: row base c 2 89 (cvs x.log) :: extraC x vv pv :: A) ([]) (fun _ => trivial) (rfl) $ dv (fun g => (vmP rfl)) $ dv (fun g => (vnil rfl)) $ dv (fun g => (vfld fl150f2 rfl)) $ dv (fun g => (vldc pl3 rfl)) $ dv (fun g => (vmP rfl)) $ dv (fun g => (vnil rfl)) $ dv (fun g => (vfld fl150f3 rfl)) $ dv (fun g => (vldc pl3 rfl)) $ WD.eff rfl $ cl (raft_clone (hR := ⟨reads⟩) (by omega)) ct26 rfl fun i8 hi8 => wN $ WX.br $ WPl.bar (⟨[_], rfl⟩) $ dv (fun g => (vbd (ps := [(0, .int _ _), (1, .int _ _), (2, .slice _ _ _)]) (cs := [_, _, _]) bt74 zt74 rfl (by rfl))) $ WD.eff rfl $ pm (fun _ h => h.pk1) $ stA sz74 rfl rfl rfl rfl sone $ wN $ WX.brT $ WPl.fin (trivial) $ WD.nil $ tN $ WC.ret $ WX.ret1c rfl ag74 sz74 (i8) (hi8) rfl rfl (by decide) rfl (fun w h => ((hnode_mk hc (h.ix [2, 3, 4, 0, 1])).ix [1, 2, 0]).tail)
abbrev scells (t v : Int) (b : Option Addr) (l : List Cl) (c : Nat) : List Value := [.int .i64 t, .int .i64 v, .slice b l.length c]
def newOk (id n t v : Int) (l : List Cl) : Prop := 1 ≤ n ∧ n ≤ 5 ∧ 1 ≤ id ∧ id ≤ n ∧ mayS n t v l
instance (id n t v : Int) (l : List Cl) : Decidable (newOk id n t v l) := by unfold newOk; infer_instance
theorem RInv.new {id n t v : Int} {l : List Cl} (h : newOk id n t v l) : RInv (newR id n t v l) := by
 obtain ⟨a, b, c, d, e1, e2, e3, e4, e5, e6⟩ := h
 exact ⟨⟨a, b⟩, ⟨c, d⟩, ⟨e1, e2⟩, ⟨e3, e4⟩, e5, e6, .inl rfl, fun h => absurd rfl h, ⟨Int.le_refl _, by show (0 : Int) ≤ l.length; omega⟩, Int.le_refl _, ⟨Int.le_refl _, by show (0 : Int) ≤ 2; decide⟩, fun h => absurd h (by show ¬ (0 : Int) = 1; decide), fun h => absurd h (by show ¬ (0 : Int) = 2; decide)⟩
theorem new_leaf {P : Prop} {b : Bool} (h : ¬ P) : ((!b) = true ↔ (P ∨ b = false)) := by
 cases b <;> simp [h]
theorem raft_new {w0 : World} {A : List HProp} {id n t v : Int} {l : List Cl} {b : Option Addr} {c : Nat} (hl : l.length ≤ 1099511627776) [hR : Reads w0 A b (cvs l)] (hok : newOk id n t v l) :
  Fun Tryz.prog w0 42 [.int .i64 id, .int .i64 n, .agg (scells t v b l c).toArray] A (Ret w0 (fun _ : Nat => True) (fun p => .tuple #[.pointer (some ⟨p, 0, none⟩), .int .i64 0]) (fun p => hnode p (newR id n t v l) :: A)) := by
 have hx := RInv.new hok
 have hok' := hok
 obtain ⟨a1, a2, a3, a4, b1_, b2, b3, b4, b5, b6⟩ := hok'
 refine Fun.enter Tryz.func42 rfl Tryz.ntmps42 rfl ?_
 refine wS $ wR $ bxc (v := .agg _) (cs := [.int _ _, .int _ _, .slice _ _ _]) rfl rfl fun b1 => sv (vaP rfl) $ yI rfl $ wN $ tN $ wS $ ?_
 refine WC.cut0 [(57, .bool (decide ((n < 1 ∨ (5 : Int) < n ∨ id < 1 ∨ n < id ∨ t < 0 ∨ (1000000000 : Int) < t ∨ v < 0 ∨ n < v ∨ (10000 : Int) < l.length) ∨ rises l 1 t = false)))] [(0, .int _ _), (1, .int _ _), (5, .pointer _)] (cel b1 (scells t v b l c) 74 :: A) ⟨rfl, rfl, rfl, trivial⟩ ?_ fun ρh => ?_
 ·
  refine wR $ zI rfl $ svs (vlt rfl rfl) (fun q1 => ?_) (fun q1 => ?_)
  ·
   exact zB rfl $ sng rfl $ sng rfl $ uT rfl $ zB rfl $ sng rfl $ sng rfl $ uT rfl $ zB rfl $ sng rfl $ sng rfl $ sng rfl $ uT rfl $ zB rfl $ sng rfl $ sng rfl $ sng rfl $ uT rfl $ zB rfl $ sng rfl $ sng rfl $ sng rfl $ uT rfl $ zB rfl $ sng rfl $ sng rfl $ sng rfl $ uT rfl $ zB rfl $ sng rfl $ sng rfl $ sng rfl $ sng rfl $ uT rfl $ zB rfl $ sng rfl $ sng rfl $ sng rfl $ sng rfl $ uT rfl $ zB rfl $ sng rfl $ sng rfl $ sng rfl $ sng rfl $ sng rfl $ sng rfl $ uT rfl $ wN $ xM () trivial ⟨bTa, trivial⟩ ⟨rfl, rfl, rfl, trivial⟩ (fun _ h => h)
  ·
   refine zB rfl $ svg rfl (vmI rfl) $ svsg rfl (vgt rfl rfl) (fun q2 => ?_) (fun q2 => ?_)
   ·
    exact uF rfl $ zB rfl $ sng rfl $ sng rfl $ uT rfl $ zB rfl $ sng rfl $ sng rfl $ sng rfl $ uT rfl $ zB rfl $ sng rfl $ sng rfl $ sng rfl $ uT rfl $ zB rfl $ sng rfl $ sng rfl $ sng rfl $ uT rfl $ zB rfl $ sng rfl $ sng rfl $ sng rfl $ uT rfl $ zB rfl $ sng rfl $ sng rfl $ sng rfl $ sng rfl $ uT rfl $ zB rfl $ sng rfl $ sng rfl $ sng rfl $ sng rfl $ uT rfl $ zB rfl $ sng rfl $ sng rfl $ sng rfl $ sng rfl $ sng rfl $ sng rfl $ uT rfl $ wN $ xM () trivial ⟨bTa, trivial⟩ ⟨rfl, rfl, rfl, trivial⟩ (fun _ h => h)
   ·
    refine uF rfl $ zB rfl $ svg rfl (vmI rfl) $ svsg rfl (vlt rfl rfl) (fun q3 => ?_) (fun q3 => ?_)
    ·
     exact uF rfl $ zB rfl $ sng rfl $ sng rfl $ sng rfl $ uT rfl $ zB rfl $ sng rfl $ sng rfl $ sng rfl $ uT rfl $ zB rfl $ sng rfl $ sng rfl $ sng rfl $ uT rfl $ zB rfl $ sng rfl $ sng rfl $ sng rfl $ uT rfl $ zB rfl $ sng rfl $ sng rfl $ sng rfl $ sng rfl $ uT rfl $ zB rfl $ sng rfl $ sng rfl $ sng rfl $ sng rfl $ uT rfl $ zB rfl $ sng rfl $ sng rfl $ sng rfl $ sng rfl $ sng rfl $ sng rfl $ uT rfl $ wN $ xM () trivial ⟨bTa, trivial⟩ ⟨rfl, rfl, rfl, trivial⟩ (fun _ h => h)
    ·
     refine uF rfl $ zB rfl $ svg rfl (vmI rfl) $ svg rfl (vmI rfl) $ svsg rfl (vgt rfl rfl) (fun q4 => ?_) (fun q4 => ?_)
     ·
      exact uF rfl $ zB rfl $ sng rfl $ sng rfl $ sng rfl $ uT rfl $ zB rfl $ sng rfl $ sng rfl $ sng rfl $ uT rfl $ zB rfl $ sng rfl $ sng rfl $ sng rfl $ uT rfl $ zB rfl $ sng rfl $ sng rfl $ sng rfl $ sng rfl $ uT rfl $ zB rfl $ sng rfl $ sng rfl $ sng rfl $ sng rfl $ uT rfl $ zB rfl $ sng rfl $ sng rfl $ sng rfl $ sng rfl $ sng rfl $ sng rfl $ uT rfl $ wN $ xM () trivial ⟨bTa, trivial⟩ ⟨rfl, rfl, rfl, trivial⟩ (fun _ h => h)
     ·
      refine uF rfl $ zB rfl $ svg rfl (vfld fl74f0 rfl) $ svg rfl (vldc pl3 rfl) $ svsg rfl (vlt rfl rfl) (fun q5 => ?_) (fun q5 => ?_)
      ·
       exact uF rfl $ zB rfl $ sng rfl $ sng rfl $ sng rfl $ uT rfl $ zB rfl $ sng rfl $ sng rfl $ sng rfl $ uT rfl $ zB rfl $ sng rfl $ sng rfl $ sng rfl $ sng rfl $ uT rfl $ zB rfl $ sng rfl $ sng rfl $ sng rfl $ sng rfl $ uT rfl $ zB rfl $ sng rfl $ sng rfl $ sng rfl $ sng rfl $ sng rfl $ sng rfl $ uT rfl $ wN $ xM () trivial ⟨bTa, trivial⟩ ⟨rfl, rfl, rfl, trivial⟩ (fun _ h => h)
      ·
       refine uF rfl $ zB rfl $ svg rfl (vfld fl74f0 rfl) $ svg rfl (vldc pl3 rfl) $ svsg rfl (vgt rfl rfl) (fun q6 => ?_) (fun q6 => ?_)
       ·
        exact uF rfl $ zB rfl $ sng rfl $ sng rfl $ sng rfl $ uT rfl $ zB rfl $ sng rfl $ sng rfl $ sng rfl $ sng rfl $ uT rfl $ zB rfl $ sng rfl $ sng rfl $ sng rfl $ sng rfl $ uT rfl $ zB rfl $ sng rfl $ sng rfl $ sng rfl $ sng rfl $ sng rfl $ sng rfl $ uT rfl $ wN $ xM () trivial ⟨bTa, trivial⟩ ⟨rfl, rfl, rfl, trivial⟩ (fun _ h => h)
       ·
        refine uF rfl $ zB rfl $ svg rfl (vfld fl74f1 rfl) $ svg rfl (vldc pl3 rfl) $ svsg rfl (vlt rfl rfl) (fun q7 => ?_) (fun q7 => ?_)
        ·
         exact uF rfl $ zB rfl $ sng rfl $ sng rfl $ sng rfl $ sng rfl $ uT rfl $ zB rfl $ sng rfl $ sng rfl $ sng rfl $ sng rfl $ uT rfl $ zB rfl $ sng rfl $ sng rfl $ sng rfl $ sng rfl $ sng rfl $ sng rfl $ uT rfl $ wN $ xM () trivial ⟨bTa, trivial⟩ ⟨rfl, rfl, rfl, trivial⟩ (fun _ h => h)
        ·
         refine uF rfl $ zB rfl $ svg rfl (vfld fl74f1 rfl) $ svg rfl (vldc pl3 rfl) $ svg rfl (vmI rfl) $ svsg rfl (vgt rfl rfl) (fun q8 => ?_) (fun q8 => ?_)
         ·
          exact uF rfl $ zB rfl $ sng rfl $ sng rfl $ sng rfl $ sng rfl $ uT rfl $ zB rfl $ sng rfl $ sng rfl $ sng rfl $ sng rfl $ sng rfl $ sng rfl $ uT rfl $ wN $ xM () trivial ⟨bTa, trivial⟩ ⟨rfl, rfl, rfl, trivial⟩ (fun _ h => h)
         ·
          refine uF rfl $ zB rfl $ svg rfl (vfld fl74f2 rfl) $ svg rfl (vldc pl54 rfl) $ svg rfl (vlen Tryz.underlying54 rfl) $ svsg rfl (vgt rfl rfl) (fun q9 => ?_) (fun q9 => ?_)
          ·
           exact uF rfl $ zB rfl $ sng rfl $ sng rfl $ sng rfl $ sng rfl $ sng rfl $ sng rfl $ uT rfl $ wN $ xM () trivial ⟨bTa, trivial⟩ ⟨rfl, rfl, rfl, trivial⟩ (fun _ h => h)
          ·
           exact uF rfl $ zB rfl $ svg rfl (vfld fl74f2 rfl) $ svg rfl (vldc pl54 rfl) $ svg rfl (vfld fl74f0 rfl) $ svg rfl (vldc pl3 rfl) $ gy rfl $ cl (raft_rising (by omega)) ct74 rfl fun _ _ => svg rfl (vnot rfl) $ uF rfl $ wN $ xM () trivial ⟨bB (new_leaf (by omega)), trivial⟩ ⟨rfl, rfl, rfl, trivial⟩ (fun _ h => h)
 refine WC.ite rfl (fun h1 => ?_) (fun h1 => ?_)
 ·
  exact absurd h1 (fun h => h.elim (fun h => by omega) (fun h => by rw [b6] at h; cases h))
 ·
  exact WC.skip $ tN $ wS $ WC.plan (.pre [6, 7] (.one [0, 1, 2, 3, 4, 5] 8 (.bar [9] 10 (.done [11, 12])))) rfl (by kernel_rfl) $ WPl.pre (trivial) $ dv (fun g => (vfld fl74f2 rfl)) $ dv (fun g => (vldc pl54 rfl)) $ WD.nil $ WPl.one (fun g => g ++ cel b1 (scells t v b l c) 74 :: A) ([]) (fun _ => trivial) (rfl) $ dv (fun g => (vmI rfl)) $ dv (fun g => (vmI rfl)) $ dv (fun g => (vfld fl74f0 rfl)) $ dv (fun g => (vldc pl3 rfl)) $ dv (fun g => (vfld fl74f1 rfl)) $ dv (fun g => (vldc pl3 rfl)) $ WD.eff rfl $ cl (raft_clone (hR := ⟨reads⟩) (by omega)) ct26 rfl fun i13 hi13 => wN $ WX.br $ WPl.bar (⟨[_], rfl⟩) $ dv (fun g => (vbd (ps := [(0, .int _ _), (1, .int _ _), (2, .int _ _), (3, .int _ _), (4, .slice _ _ _)]) (cs := [_, _, _, _, _, _, _, _, _, _, _, _]) bt150 zt150 rfl (by rfl))) $ WD.eff rfl $ bxc (v := .agg _) (cs := [.int _ _, .int _ _, .int _ _, .int _ _, .slice _ _ _, .int _ _, .int _ _, .int _ _, .int _ _, .int _ _, .map _, .map _]) rfl rfl fun b15 => wN $ WX.brT $ WPl.fin (trivial) $ dv (fun g => (vaP rfl)) $ dv (fun g => (vaI rfl)) $ WD.nil $ tN $ WC.ret $ WX.ret2 rfl (b15) (trivial) rfl (fun w h => hnode_mk0 (x := newR id n t v l) (by show ¬ (0 : Int) = 1; decide) (by show ¬ (0 : Int) = 2; decide) hi13 h.pk2.tail)
theorem vents_put {l : List Int} {k : Int} : PutE (vents l) (.int .i64 k) (.agg #[]) (vents (if k ∈ l then l else l ++ [k])) := by
 split
 ·rename_i h
  obtain ⟨j, hj⟩ := List.mem_iff_getElem?.1 h
  have h1 : (vents l)[j]? = some (.int .i64 k, .agg #[]) := by simp [vents, hj]
  have e : vents l = (vents l).set j (.int .i64 k, .agg #[]) := by
   apply List.ext_getElem?
   intro i
   rw [List.getElem?_set]
   by_cases hi : j = i
   ·subst hi
    have := (List.getElem?_eq_some_iff.1 h1).1
    rw [if_pos rfl, if_pos this, h1]
   ·rw [if_neg hi]
  have h2 := PutE.old (v := .agg #[]) j (.agg #[]) h1
  rwa [← e] at h2
 ·rename_i h
  have e : vents (l ++ [k]) = vents l ++ [(.int .i64 k, .agg #[])] := by simp [vents]
  rw [e]
  refine .new fun q hq he => h ?_
  obtain ⟨r, hr, rfl⟩ := List.mem_map.1 hq
  have : r = k := by simpa using he
  exact this ▸ hr
theorem raft_votes_no {w0 : World} {A : List HProp} {p : Nat} {x : Rn} {m : Mh} (h : m.term ≠ x.term ∨ m.ok = false ∨ x.role ≠ 1) :
  Fun Tryz.prog w0 141 [.pointer (some ⟨p, 0, none⟩), .agg (mv m).toArray] (hnode p x :: A) (MR w0 p A (votesS x m.ml)) := by
 refine Fun.ex (fun w h => hnode_open h) ?_
 rintro ⟨base, c, vv, pv⟩ hc
 dsimp only at hc ⊢
 have ht : votesS x m.ml = (x, []) := if_pos h
 unfold MR
 rw [ht]
 refine Fun.enter Tryz.func141 rfl Tryz.ntmps141 rfl ?_
 refine wS $ wR $ bxc (v := .agg _) (cs := [.int _ _, .int _ _, .int _ _, .int _ _, .int _ _, .int _ _, .int _ _, .bool _, .slice _ _ _]) rfl rfl fun b1 => yS rfl $ wN $ tN $ wS $ ?_
 refine WC.cut0 [(23, .bool (decide (m.term ≠ x.term ∨ m.ok = false ∨ x.role ≠ 1)))] [(0, .pointer _), (3, .pointer _)] (cel b1 (mv m) 85 :: cel p (ncells x base c vv pv) 150 :: row base c 2 89 (cvs x.log) :: extraC x vv pv :: A) ⟨rfl, rfl, trivial⟩ ?_ fun ρh => ?_
 ·
  refine WC.draws rfl (by kernel_rfl) $ qv (vfld fl85f3 rfl) $ qv (vldc pl3 rfl) $ qv (vmP rfl) $ qv (vnil rfl) $ qv (vfld fl150f2 rfl) $ qv (vldc pl3 rfl) $ qvs (vne rfl rfl) (fun q1 => ?_) (fun q1 => ?_)
  ·
   exact qv (vmB rfl) $ qng rfl $ qng rfl $ qng rfl $ qv (vpkt rfl) $ qv (vmB rfl) $ qng rfl $ qng rfl $ qng rfl $ qng rfl $ qng rfl $ qv (vpkt rfl) $ WQ.nil $ xM () trivial ⟨bTa, trivial⟩ ⟨rfl, rfl, trivial⟩ (fun _ h => h)
  ·
   refine qv (vmB rfl) $ qvg rfl (vfld fl85f7 rfl) $ qvbg rfl (vldc pl4 rfl) (fun q2 => ?_) (fun q2 => ?_)
   ·
    exact qvg rfl (vnot rfl) $ qv (vpkf rfl) $ qv (vmB rfl) $ qvg rfl (vmP rfl) $ qvg rfl (vnil rfl) $ qvg rfl (vfld fl150f5 rfl) $ qvg rfl (vldc pl3 rfl) $ qvg rfl (vne rfl rfl) $ qv (vpkf rfl) $ WQ.nil $ xM () trivial ⟨bIa, trivial⟩ ⟨rfl, rfl, trivial⟩ (fun _ h => h)
   ·
    exact qvg rfl (vnot rfl) $ qv (vpkf rfl) $ qv (vmB rfl) $ qng rfl $ qng rfl $ qng rfl $ qng rfl $ qng rfl $ qv (vpkt rfl) $ WQ.nil $ xM () trivial ⟨bTa, trivial⟩ ⟨rfl, rfl, trivial⟩ (fun _ h => h)
 refine WC.ite rfl (fun h1 => ?_) (fun h1 => ?_)
 ·
  exact wS $ wR $ yS rfl $ wN $ tN $ WC.ret $ tR $ xR rfl ((none, 0, [])) (⟨rfl, Nat.le_refl _⟩) rfl (fun w h => no_mails (hnode_mk hc h.tail))
 ·
  exact absurd h h1
theorem raft_votes_few {w0 : World} {A : List HProp} {p : Nat} {x : Rn} {m : Mh} (hx : RInv x) (h : ¬ (m.term ≠ x.term ∨ m.ok = false ∨ x.role ≠ 1)) (hv : ¬ (votedS m.fr x).n < 2 * ((votedS m.fr x).voted.length : Int)) :
  Fun Tryz.prog w0 141 [.pointer (some ⟨p, 0, none⟩), .agg (mv m).toArray] (hnode p x :: A) (MR w0 p A (votesS x m.ml)) := by
 have hr : x.role = 1 := by omega
 refine Fun.ex (fun w h => hnode_open1 hr h) ?_
 rintro ⟨base, c, mV, pv⟩ hc
 dsimp only at hc ⊢
 have hn := hx.n
 have hl := hx.log
 have hcm := hx.commit
 have ht : votesS x m.ml = leadS (votedS m.fr x) := if_neg h
 unfold MR
 rw [ht]
 refine Fun.enter Tryz.func141 rfl Tryz.ntmps141 rfl ?_
 refine wS $ wR $ bxc (v := .agg _) (cs := [.int _ _, .int _ _, .int _ _, .int _ _, .int _ _, .int _ _, .int _ _, .bool _, .slice _ _ _]) rfl rfl fun b1 => yS rfl $ wN $ tN $ wS $ ?_
 refine WC.cut0 [(23, .bool (decide (m.term ≠ x.term ∨ m.ok = false ∨ x.role ≠ 1)))] [(0, .pointer _), (3, .pointer _)] (cel b1 (mv m) 85 :: cel p (ncells x base c (.map (some mV)) pv) 150 :: row base c 2 89 (cvs x.log) :: mp (.int .i64) mV (vents x.voted) :: A) ⟨rfl, rfl, trivial⟩ ?_ fun ρh => ?_
 ·
  refine WC.draws rfl (by kernel_rfl) $ qv (vfld fl85f3 rfl) $ qv (vldc pl3 rfl) $ qv (vmP rfl) $ qv (vnil rfl) $ qv (vfld fl150f2 rfl) $ qv (vldc pl3 rfl) $ qvs (vne rfl rfl) (fun q1 => ?_) (fun q1 => ?_)
  ·
   exact qv (vmB rfl) $ qng rfl $ qng rfl $ qng rfl $ qv (vpkt rfl) $ qv (vmB rfl) $ qng rfl $ qng rfl $ qng rfl $ qng rfl $ qng rfl $ qv (vpkt rfl) $ WQ.nil $ xM () trivial ⟨bTa, trivial⟩ ⟨rfl, rfl, trivial⟩ (fun _ h => h)
  ·
   refine qv (vmB rfl) $ qvg rfl (vfld fl85f7 rfl) $ qvbg rfl (vldc pl4 rfl) (fun q2 => ?_) (fun q2 => ?_)
   ·
    exact qvg rfl (vnot rfl) $ qv (vpkf rfl) $ qv (vmB rfl) $ qvg rfl (vmP rfl) $ qvg rfl (vnil rfl) $ qvg rfl (vfld fl150f5 rfl) $ qvg rfl (vldc pl3 rfl) $ qvg rfl (vne rfl rfl) $ qv (vpkf rfl) $ WQ.nil $ xM () trivial ⟨bIa, trivial⟩ ⟨rfl, rfl, trivial⟩ (fun _ h => h)
   ·
    exact qvg rfl (vnot rfl) $ qv (vpkf rfl) $ qv (vmB rfl) $ qng rfl $ qng rfl $ qng rfl $ qng rfl $ qng rfl $ qv (vpkt rfl) $ WQ.nil $ xM () trivial ⟨bTa, trivial⟩ ⟨rfl, rfl, trivial⟩ (fun _ h => h)
 refine WC.ite rfl (fun h1 => ?_) (fun h1 => ?_)
 ·
  exact absurd h1 h
 ·
  exact WC.skip $ tN $ wS $ WC.plan (.bar [0, 1, 2, 3, 4, 5, 6] 7 (.done [])) rfl (by kernel_rfl) $ WPl.bar (trivial) $ dv (fun g => (vmP rfl)) $ dv (fun g => (vnil rfl)) $ dv (fun g => (vfld fl150f10 rfl)) $ dv (fun g => (vldc pl147 rfl)) $ dv (fun g => (vfld fl85f1 rfl)) $ dv (fun g => (vldc pl3 rfl)) $ dv (fun g => (vbd (ps := []) (cs := []) bt92 zt92 rfl (by rfl))) $ WD.eff rfl $ pm (fun _ h => h.pk3) $ mpu Tryz.underlying147 Tryz.underlying3 rfl rfl rfl rfl (vents_put) $ wN $ WX.brT $ WPl.fin (trivial) $ WD.nil $ tN $ wS $ wR $ zP rfl $ pm (fun _ h => h.pk2) $ cl (raft_lead_no (x := votedS m.fr x) ⟨by show 0 ≤ x.n; omega, by show x.n ≤ 5; omega⟩ hv) ct144 rfl fun _ _ => yS rfl $ wN $ tN $ WC.ret $ xR rfl ((none, 0, [])) (⟨by rw [leadS, if_neg hv]; rfl, Nat.le_refl _⟩) rfl (fun w h => by rw [leadS, if_neg hv]; exact no_mails (hnode_mk1 (x := votedS m.fr x) hr hc (h.ix [2, 0, 3, 1]).tail))
theorem raft_votes_most {w0 : World} {A : List HProp} {p : Nat} {x : Rn} {m : Mh} (hx : RInv x) (h : ¬ (m.term ≠ x.term ∨ m.ok = false ∨ x.role ≠ 1)) (hv : (votedS m.fr x).n < 2 * ((votedS m.fr x).voted.length : Int)) :
  Fun Tryz.prog w0 141 [.pointer (some ⟨p, 0, none⟩), .agg (mv m).toArray] (hnode p x :: A) (MR w0 p A (votesS x m.ml)) := by
 have hr : x.role = 1 := by omega
 refine Fun.ex (fun w h => hnode_open1 hr h) ?_
 rintro ⟨base, c, mV, pv⟩ hc
 dsimp only at hc ⊢
 have hn := hx.n
 have hl := hx.log
 have hcm := hx.commit
 have ht : votesS x m.ml = leadS (votedS m.fr x) := if_neg h
 unfold MR
 rw [ht]
 refine Fun.enter Tryz.func141 rfl Tryz.ntmps141 rfl ?_
 refine wS $ wR $ bxc (v := .agg _) (cs := [.int _ _, .int _ _, .int _ _, .int _ _, .int _ _, .int _ _, .int _ _, .bool _, .slice _ _ _]) rfl rfl fun b1 => yS rfl $ wN $ tN $ wS $ ?_
 refine WC.cut0 [(23, .bool (decide (m.term ≠ x.term ∨ m.ok = false ∨ x.role ≠ 1)))] [(0, .pointer _), (3, .pointer _)] (cel b1 (mv m) 85 :: cel p (ncells x base c (.map (some mV)) pv) 150 :: row base c 2 89 (cvs x.log) :: mp (.int .i64) mV (vents x.voted) :: A) ⟨rfl, rfl, trivial⟩ ?_ fun ρh => ?_
 ·
  refine WC.draws rfl (by kernel_rfl) $ qv (vfld fl85f3 rfl) $ qv (vldc pl3 rfl) $ qv (vmP rfl) $ qv (vnil rfl) $ qv (vfld fl150f2 rfl) $ qv (vldc pl3 rfl) $ qvs (vne rfl rfl) (fun q1 => ?_) (fun q1 => ?_)
  ·
   exact qv (vmB rfl) $ qng rfl $ qng rfl $ qng rfl $ qv (vpkt rfl) $ qv (vmB rfl) $ qng rfl $ qng rfl $ qng rfl $ qng rfl $ qng rfl $ qv (vpkt rfl) $ WQ.nil $ xM () trivial ⟨bTa, trivial⟩ ⟨rfl, rfl, trivial⟩ (fun _ h => h)
  ·
   refine qv (vmB rfl) $ qvg rfl (vfld fl85f7 rfl) $ qvbg rfl (vldc pl4 rfl) (fun q2 => ?_) (fun q2 => ?_)
   ·
    exact qvg rfl (vnot rfl) $ qv (vpkf rfl) $ qv (vmB rfl) $ qvg rfl (vmP rfl) $ qvg rfl (vnil rfl) $ qvg rfl (vfld fl150f5 rfl) $ qvg rfl (vldc pl3 rfl) $ qvg rfl (vne rfl rfl) $ qv (vpkf rfl) $ WQ.nil $ xM () trivial ⟨bIa, trivial⟩ ⟨rfl, rfl, trivial⟩ (fun _ h => h)
   ·
    exact qvg rfl (vnot rfl) $ qv (vpkf rfl) $ qv (vmB rfl) $ qng rfl $ qng rfl $ qng rfl $ qng rfl $ qng rfl $ qv (vpkt rfl) $ WQ.nil $ xM () trivial ⟨bTa, trivial⟩ ⟨rfl, rfl, trivial⟩ (fun _ h => h)
 refine WC.ite rfl (fun h1 => ?_) (fun h1 => ?_)
 ·
  exact absurd h1 h
 ·
  exact WC.skip $ tN $ wS $ WC.plan (.bar [0, 1, 2, 3, 4, 5, 6] 7 (.done [])) rfl (by kernel_rfl) $ WPl.bar (trivial) $ dv (fun g => (vmP rfl)) $ dv (fun g => (vnil rfl)) $ dv (fun g => (vfld fl150f10 rfl)) $ dv (fun g => (vldc pl147 rfl)) $ dv (fun g => (vfld fl85f1 rfl)) $ dv (fun g => (vldc pl3 rfl)) $ dv (fun g => (vbd (ps := []) (cs := []) bt92 zt92 rfl (by rfl))) $ WD.eff rfl $ pm (fun _ h => h.pk3) $ mpu Tryz.underlying147 Tryz.underlying3 rfl rfl rfl rfl (vents_put) $ wN $ WX.brT $ WPl.fin (trivial) $ WD.nil $ tN $ wS $ wR $ zP rfl $ pm (fun _ h => h.pk2.pk3.pk1) $ cl (raft_lead_yes (x := votedS m.fr x) ⟨by show 0 ≤ x.n; omega, by show x.n ≤ 5; omega⟩ hl hc hcm.1 hv) ct144 rfl fun i10 hi10 => yS rfl $ wN $ tN $ WC.ret $ xR rfl ((i10.ob, i10.oc, i10.ms)) (hi10.1) rfl (fun w h => (hnode_mk2 (leadS_role hv) hi10.2.1 (hi10.2.2.trans (leadS_others hv).symm) (h.ix [6, 2, 3, 4, 5, 0, 1]).tail).ix [1, 2, 0])
theorem raft_votes {w0 : World} {A : List HProp} {p : Nat} {x : Rn} {m : Mh} (hx : RInv x) :
  Fun Tryz.prog w0 141 [.pointer (some ⟨p, 0, none⟩), .agg (mv m).toArray] (hnode p x :: A) (MR w0 p A (votesS x m.ml)) := by
 by_cases h : m.term ≠ x.term ∨ m.ok = false ∨ x.role ≠ 1
 ·exact raft_votes_no h
 ·by_cases hv : (votedS m.fr x).n < 2 * ((votedS m.fr x).voted.length : Int)
  ·exact raft_votes_most hx h hv
  ·exact raft_votes_few hx h hv
def mixF (a b : List HProp) : List HProp → List HProp
 | [] => a
 | X :: g => (X :: g) ++ b
theorem mixF_cell {w0 : World} {a b : List HProp} {q : Option Addr} {v : Value} (h1 : CellC w0 a q v) (h2 : ∀ g, CellC w0 (g ++ b) q v) (g : List HProp) : CellC w0 (mixF a b g) q v := by
 cases g with
 | nil => exact h1
 | cons X g => exact h2 (X :: g)
theorem str_nil {d : ByteArray} : d = ⟨#[]⟩ ↔ d.size = 0 := by
 constructor
 ·rintro rfl; rfl
 ·intro h
  apply ByteArray.ext
  exact Array.eq_empty_of_size_eq_zero h
theorem raft_propose_err {w0 : World} {A : List HProp} {p : Nat} {x : Rn} {d : ByteArray} (h : proposeE x d ≠ 0) :
  Fun Tryz.prog w0 130 [.pointer (some ⟨p, 0, none⟩), .string d] (hnode p x :: A) (Ru w0 (.tuple #[.int .i64 0, .slice none 0 0, .int .i64 (proposeE x d)]) (hnode p x :: A)) := by
 refine Fun.ex (fun w h => hnode_open h) ?_
 rintro ⟨base, c, vv, pv⟩ hc
 dsimp only at hc ⊢
 refine Fun.enter Tryz.func130 rfl Tryz.ntmps130 rfl ?_
 refine wS $ wR $ yI rfl $ yS rfl $ yI rfl $ wN $ tN $ wS $ WC.block $ wS $ wR $ zP rfl $ sv (vpeqF Tryz.underlying47 rfl rfl) $ yB rfl $ wN $ tN $ ?_
 refine WC.ff rfl ?_
 refine WC.cut0 [(10, .bool (decide (d = ⟨#[]⟩ ∨ (4096 : Int) < d.size)))] [(0, .pointer _), (1, .string _)] (cel p (ncells x base c vv pv) 150 :: row base c 2 89 (cvs x.log) :: extraC x vv pv :: A) ⟨rfl, rfl, trivial⟩ ?_ fun ρh => ?_
 ·
  refine wR $ sv (vmT rfl) $ svs (veqs rfl rfl) (fun q1 => ?_) (fun q1 => ?_)
  ·
   exact zB rfl $ sng rfl $ sng rfl $ sng rfl $ uT rfl $ yB rfl $ wN $ xM () trivial ⟨bTa, trivial⟩ ⟨rfl, rfl, trivial⟩ (fun _ h => h)
  ·
   exact zB rfl $ svg rfl (vmT rfl) $ svg rfl (vlens Tryz.underlying9 rfl) $ svg rfl (vgt rfl rfl) $ uF rfl $ yB rfl $ wN $ xM () trivial ⟨bIa, trivial⟩ ⟨rfl, rfl, trivial⟩ (fun _ h => h)
 refine WC.ite rfl (fun h2 => ?_) (fun h2 => ?_)
 ·
  have e : proposeE x d = 1 := if_pos (h2.imp str_nil.1 (fun h => by omega))
  rw [e]
  exact wS $ wR $ yI rfl $ yS rfl $ yI rfl $ wN $ tN $ WC.ret $ WX.blockR $ tR $ WX.ret3 rfl (()) (trivial) rfl (fun w h => hnode_mk hc h)
 ·
  have n1 : ¬ (d.size = 0 ∨ 4096 < d.size) := fun h => h2 (h.imp str_nil.2 (fun h => by omega))
  refine wS $ wR $ zP rfl $ uN rfl $ sv (vfld fl150f5 rfl) $ sv (vldc pl3 rfl) $ sv (vne rfl rfl) $ yB rfl $ wN $ tN $ ?_
  refine WC.ite rfl (fun h3 => ?_) (fun h3 => ?_)
  ·
   have e : proposeE x d = 190 := by unfold proposeE; rw [if_neg n1, if_pos h3]
   rw [e]
   exact wS $ wR $ yI rfl $ yS rfl $ yI rfl $ wN $ tN $ WC.ret $ WX.blockR $ tR $ WX.ret3 rfl (()) (trivial) rfl (fun w h => hnode_mk hc h)
  ·
   refine wS $ wR $ zP rfl $ uN rfl $ sv (vfld fl150f4 rfl) $ sv (vldc pl54 rfl) $ sv (vlen Tryz.underlying54 rfl) $ sv (vge rfl rfl) $ yB rfl $ wN $ tN $ ?_
   refine WC.ite rfl (fun h4 => ?_) (fun h4 => ?_)
   ·
    have e : proposeE x d = 8 := by unfold proposeE; rw [if_neg n1, if_neg h3, if_pos (show 10000 ≤ x.log.length by omega)]
    rw [e]
    exact wS $ wR $ yI rfl $ yS rfl $ yI rfl $ wN $ tN $ WC.ret $ WX.blockR $ tR $ WX.ret3 rfl (()) (trivial) rfl (fun w h => hnode_mk hc h)
   ·
    exact absurd (by unfold proposeE; rw [if_neg n1, if_neg h3, if_neg (show ¬ 10000 ≤ x.log.length by omega)]) h
theorem raft_propose {w0 : World} {A : List HProp} {p : Nat} {x : Rn} {d : ByteArray} (hx : RInv x) (h : proposeE x d = 0) :
  Fun Tryz.prog w0 130 [.pointer (some ⟨p, 0, none⟩), .string d] (hnode p x :: A)
   (Ret w0 (fun i : Option Addr × Nat × List Mh => i.2.2.map Mh.ml = (proposeS x d).2 ∧ i.2.2.length ≤ i.2.1) (fun i => .tuple #[.int .i64 ((x.log.length : Int) + 1), .slice i.1 i.2.2.length i.2.1, .int .i64 0]) (fun i => row i.1 i.2.1 9 85 (mvs i.2.2) :: mrows i.2.2 :: hnode p (proposeS x d).1 :: A)) := by
 have hp : d.size ≠ 0 ∧ d.size ≤ 4096 ∧ x.role = 2 ∧ x.log.length < 10000 := by
  unfold proposeE at h
  split at h
  ·cases h
  ·split at h
   ·cases h
   ·split at h
    ·cases h
    ·omega
 have hr := hp.2.2.1
 refine Fun.ex (fun w h => hnode_open2 hr h) ?_
 rintro ⟨base, c, vv, m, ps⟩ ⟨hc, hps⟩
 dsimp only at hc hps ⊢
 have hn := hx.n
 have hl := hx.log
 have hcm := hx.commit
 have hpe := hx.peers hr
 have hyl : (addS d x).log.length = x.log.length + 1 := by simp [addS]
 refine Fun.enter Tryz.func130 rfl Tryz.ntmps130 rfl ?_
 refine wS $ wR $ yI rfl $ yS rfl $ yI rfl $ wN $ tN $ wS $ WC.block $ wS $ wR $ zP rfl $ sv (vpeqF Tryz.underlying47 rfl rfl) $ yB rfl $ wN $ tN $ ?_
 refine WC.ff rfl ?_
 refine WC.cut0 [(10, .bool (decide (d = ⟨#[]⟩ ∨ (4096 : Int) < d.size)))] [(0, .pointer _), (1, .string _)] (cel p (ncells x base c vv (.map (some m))) 150 :: row base c 2 89 (cvs x.log) :: mp (.int .i64) m (pents ps) :: peersC x.nx x.mt ps :: A) ⟨rfl, rfl, trivial⟩ ?_ fun ρh => ?_
 ·
  refine wR $ sv (vmT rfl) $ svs (veqs rfl rfl) (fun q1 => ?_) (fun q1 => ?_)
  ·
   exact zB rfl $ sng rfl $ sng rfl $ sng rfl $ uT rfl $ yB rfl $ wN $ xM () trivial ⟨bTa, trivial⟩ ⟨rfl, rfl, trivial⟩ (fun _ h => h)
  ·
   exact zB rfl $ svg rfl (vmT rfl) $ svg rfl (vlens Tryz.underlying9 rfl) $ svg rfl (vgt rfl rfl) $ uF rfl $ yB rfl $ wN $ xM () trivial ⟨bIa, trivial⟩ ⟨rfl, rfl, trivial⟩ (fun _ h => h)
 refine WC.ite rfl (fun h2 => ?_) (fun h2 => ?_)
 ·
  exact absurd h2 (by rw [str_nil]; omega)
 ·
  refine wS $ wR $ zP rfl $ uN rfl $ sv (vfld fl150f5 rfl) $ sv (vldc pl3 rfl) $ sv (vne rfl rfl) $ yB rfl $ wN $ tN $ ?_
  refine WC.ite rfl (fun h3 => ?_) (fun h3 => ?_)
  ·
   exact absurd hr h3
  ·
   refine wS $ wR $ zP rfl $ uN rfl $ sv (vfld fl150f4 rfl) $ sv (vldc pl54 rfl) $ sv (vlen Tryz.underlying54 rfl) $ sv (vge rfl rfl) $ yB rfl $ wN $ tN $ ?_
   refine WC.ite rfl (fun h4 => ?_) (fun h4 => ?_)
   ·
    exact absurd h4 (by omega)
   ·
    refine WC.perm (A' := row base c 2 89 (cvs x.log) :: cel p (ncells x base c vv (.map (some m))) 150 :: mp (.int .i64) m (pents ps) :: peersC x.nx x.mt ps :: A) ?_ (fun _ h => h.pk1)
    exact WC.skip $ WX.blockN $ tN $ wS $ WC.plan (.pre [5, 6, 7, 8, 9, 10] (.one [0, 1, 2, 3, 4] 11 (.one [] 12 (.bar [13, 14] 15 (.done []))))) rfl (by kernel_rfl) $ WPl.pre (trivial) $ dv (fun g => (vmP rfl)) $ dv (fun g => (vnil rfl)) $ dv (fun g => (vfld fl150f2 rfl)) $ dv (fun g => (vldc pl3 rfl)) $ dv (fun g => (vmT rfl)) $ dv (fun g => (vbd (ps := [(0, .int _ _), (1, .string _)]) (cs := [_, _]) bt89 zt89 rfl (by rfl))) $ WD.nil $ WPl.one (fun g => g ++ cel p (ncells x base c vv (.map (some m))) 150 :: mp (.int .i64) m (pents ps) :: peersC x.nx x.mt ps :: A) ([_]) (fun _ => trivial) (rfl) $ dv (fun g => (vmP rfl)) $ dv (fun g => (vmP rfl)) $ dv (fun g => (vnil rfl)) $ dv (fun g => (vfld fl150f4 rfl)) $ dv (fun g => (vldc pl54 rfl)) $ WD.eff rfl $ bslA (v := .agg _) (cs := [.int .i64 x.term, .string d]) Tryz.underlying54 zt89 rfl rfl rfl (by decide) (by decide) fun b7 =>wN $ WX.br $ WPl.one (fun g => g ++ cel p (ncells x base c vv (.map (some m))) 150 :: mp (.int .i64) m (pents ps) :: peersC x.nx x.mt ps :: A) ([_, _]) (fun g => good_same _ g) (rfl) $ WD.eff rfl $ pm (fun _ h => h.pk1) $ ap (news := [.int .i64 x.term, .string d]) rfl Tryz.underlying54 zt89 rfl rfl rfl (cvs_length _) rfl cone (RdC.of_cel (e := 89) (ws := [.int .i64 x.term, .string d]) 0 (by simp) (by simp)) (by simp only [maxLen]; omega) (by omega) fun base8 c8 hc8 =>wN $ WX.br $ WPl.bar (⟨[_, _], rfl⟩) $ dv (fun g => (vnil rfl)) $ dv (fun g => (vfld fl150f4 rfl)) $ WD.eff rfl $ pm (fun _ h => h.pk2) $ stc (v := .slice _ _ _) pl54 sz54 rfl rfl rfl $ wN $ WX.brT $ WPl.fin (trivial) $ WD.nil $ tN $ wS $ wR $ zP rfl $ pm (fun _ h => add_fix (x := x) (data := d) h.pk4.pk4.pk3.pk3) $ cl (raft_count (x := addS d x) ⟨by show 0 ≤ x.n; omega, by show x.n ≤ 5; omega⟩ (by omega) hcm.1 hps) ct127 rfl fun _ _ => wN $ tN $ wS $ WC.plan (.pre [5] (.one [0, 1, 2, 3, 4] 6 (.done [7, 8, 9]))) rfl (by kernel_rfl) $ WPl.pre (trivial) $ dv (fun g => (vmP rfl)) $ WD.nil $ WPl.one (mixF (cel p (ncells (countS (addS d x)) base8 c8 vv (.map (some m))) 150 :: row base8 c8 2 89 (cvs (addS d x).log) :: mp (.int .i64) m (pents ps) :: peersC x.nx x.mt ps :: cel b7 [.int .i64 x.term, .string d] 89 :: A) (cel p (ncells (feedAllS (countS (addS d x))).1 base8 c8 vv (.map (some m))) 150 :: row base8 c8 2 89 (cvs (addS d x).log) :: mp (.int .i64) m (pents ps) :: peersC x.nx x.mt ps :: cel b7 [.int .i64 x.term, .string d] 89 :: A)) ([]) (fun _ => trivial) (rfl) $ dv (fun g => (vmP rfl)) $ dv (fun g => (vnil rfl)) $ dv (fun g => (vfld fl150f4 rfl)) $ dv (fun g => (vld pl54 rfl (mixF_cell (CellC.of_cel (i := 4) (v := .slice base8 (addS d x).log.length c8) (List.Mem.head _) rfl) (fun g => CellC.of_cel (i := 4) (v := .slice base8 (addS d x).log.length c8) (List.mem_append_right _ (List.Mem.head _)) rfl) g))) $ dv (fun g => (vlen Tryz.underlying54 rfl)) $ WD.eff rfl $ cl (raft_feedAll (x := countS (addS d x)) ⟨by show 0 ≤ x.n; omega, by show x.n ≤ 5; omega⟩ (by show (addS d x).log.length ≤ 10000; omega) (by show (addS d x).log.length ≤ c8; omega) (fun k _ => by have := hpe k; show 1 ≤ x.nx k ∧ x.nx k ≤ ((addS d x).log.length : Int) + 1; omega) hps) ct131 rfl fun i12 hi12 => wN $ WX.br $ WPl.fin (⟨[_, _], rfl⟩) $ dv (fun g => (vaI rfl)) $ dv (fun g => (vaS rfl)) $ dv (fun g => (vaI rfl)) $ WD.nil $ tN $ WC.ret $ WX.ret3 rfl (i12) (hi12) (by show Value.tuple #[.int .i64 ((addS d x).log.length : Int), _, _] = _; rw [hyl]; rfl) (fun w h => (hnode_mk2 (x := (proposeS x d).1) hr (by show (addS d x).log.length ≤ c8; omega) hps (h.ix [6, 2, 3, 4, 5, 0, 1]).tail).ix [1, 2, 0])
end Go.Proofs.YtigjompojlhomaaGreat
end
section
set_option linter.unusedVariables false
set_option linter.unusedSimpArgs false
set_option maxRecDepth 4000
namespace Go.Council
open Go.Raft Go.Journal Go.Pack Go.Sl Go.Proofs.YtigjompojlhomaaGreat
def Wr (l l' : List Cl) : Prop := ∃ (p : Nat) (k : List Cl), l' = l.take p ++ k ∧ k.length ≤ 8
theorem Wr.refl (l : List Cl) : Wr l l := ⟨l.length, [], by simp, by simp⟩
theorem Wr.add (l : List Cl) (c : Cl) : Wr l (l ++ [c]) := ⟨l.length, [c], by simp, by simp⟩
theorem merge_wr {log log' : List Cl} {commit : Int} : ∀ {p : Int} {cs : List Cl}, mergeS log commit p cs = some log' → cs.length ≤ 8 → Wr log log'
 | p, [], h, _ => by
  have : log' = log := by simpa [mergeS] using h.symm
  rw [this]; exact .refl _
 | p, c :: l, h, hl => by
  unfold mergeS at h
  split at h
  ·exact merge_wr h (by simp at hl; omega)
  ·split at h
   ·cases h
   ·cases h; exact ⟨p.toNat, c :: l, rfl, hl⟩
theorem fed_facts' {id n : Int} {m : Ml} (hm : mailOk id n m) (hk : m.kind = 3) : m.cells.length ≤ 8 := by
 rcases hm.2 with h | h | ⟨_, a, b, c, d⟩
 ·omega
 ·omega
 ·exact (d hk).2.2.1
theorem lead_wr (x : Rn) : Wr x.log (leadS x).1.log := by
 unfold leadS
 split
 ·show Wr x.log (if x.log.length < 10000 then addS ByteArray.empty (leaderS x) else leaderS x).log
  split
  ·exact .add _ _
  ·exact .refl _
 ·exact .refl _
theorem tick_wr (x : Rn) : Wr x.log (tickS x).1.log := by
 unfold tickS
 split
 ·split <;> exact .refl _
 ·split
  ·exact .refl _
  ·split
   ·exact lead_wr (runS x)
   ·exact .refl _
theorem take_wr (x : Rn) (m : Ml) : Wr x.log (takeS x m).1.log := by
 have hs : (stepS m x).log = x.log := by unfold stepS; split <;> rfl
 unfold takeS
 split
 ·rename_i hm
  split
  ·show Wr x.log (if voteOk (stepS m x) m then _ else _ : Rn).log
   split
   ·show Wr x.log (stepS m x).log; rw [hs]; exact .refl _
   ·rw [hs]; exact .refl _
  ·split
   ·unfold votesS
    split
    ·rw [hs]; exact .refl _
    ·have := lead_wr (votedS m.fr (stepS m x))
     have e : (votedS m.fr (stepS m x)).log = x.log := hs
     rwa [e] at this
   ·split
    ·rename_i hk
     have hc := (fed_facts' hm hk)
     unfold fedS
     split
     ·rw [hs]; exact .refl _
     ·split
      ·rw [hs]; exact .refl _
      ·split
       ·show Wr x.log (stepS m x).log; rw [hs]; exact .refl _
       ·split
        ·show Wr x.log (stepS m x).log; rw [hs]; exact .refl _
        ·rename_i log hlog
         have := merge_wr hlog hc
         rw [hs] at this
         exact this
    ·unfold answeredS
     split
     ·rw [hs]; exact .refl _
     ·split
      ·show Wr x.log (stepS m x).log; rw [hs]; exact .refl _
      ·dsimp only
       split
       ·show Wr x.log (stepS m x).log; rw [hs]; exact .refl _
       ·show Wr x.log (stepS m x).log; rw [hs]; exact .refl _
 ·exact .refl _
theorem prop_wr (x : Rn) (d : ByteArray) : Wr x.log (proposeS x d).1.log := .add _ _
theorem same_ge {l : List Cl} {p : Nat} {k : List Cl} : min p l.length ≤ same l (l.take p ++ k) := by
 induction l generalizing p with
 | nil => simp
 | cons a l ih =>
  cases p with
  | zero => simp
  | succ p =>
   have := ih (p := p)
   rw [List.take_succ_cons, List.cons_append]
   unfold same
   rw [if_pos rfl, List.length_cons]
   omega
theorem chg_few {old now : St} (h : Wr old.log now.log) : (chg old now).cells.length ≤ 8 := by
 obtain ⟨p, k, e, hk⟩ := h
 show (now.log.drop (same old.log now.log)).length ≤ 8
 have := same_ge (l := old.log) (p := p) (k := k)
 rw [← e] at this
 have hl : now.log.length = min p old.log.length + k.length := by rw [e, List.length_append, List.length_take]
 rw [List.length_drop]
 omega
structure RecOk (s : St) (c : Rcd) : Prop where
 stay : c.stay ≤ s.log.length
 few : c.cells.length ≤ 8
 term : 0 ≤ c.term ∧ c.term ≤ 1000000000
 vote : 0 ≤ c.vote ∧ c.vote ≤ 5
 log : s.log.length ≤ 10000
 cells : ∀ x ∈ c.cells, (0 ≤ x.term ∧ x.term ≤ 1000000000) ∧ x.data.size ≤ 4096
def RecsOk (rs : List Rcd) : Prop := ∀ (i : Nat) (c : Rcd), rs[i]? = some c → RecOk (stab (rs.take i)) c
theorem RecsOk.nil : RecsOk [] := fun i c h => by simp at h
theorem RecsOk.snoc {rs : List Rcd} {c : Rcd} (h : RecsOk rs) (hc : RecOk (stab rs) c) : RecsOk (rs ++ [c]) := fun i d hd => by
 rcases Nat.lt_trichotomy i rs.length with hi | hi | hi
 ·rw [List.getElem?_append_left hi] at hd
  rw [List.take_append_of_le_length (by omega)]
  exact h i d hd
 ·subst hi
  rw [List.getElem?_append_right (Nat.le_refl _), Nat.sub_self] at hd
  rw [List.take_append_of_le_length (Nat.le_refl _), List.take_length]
  cases hd; exact hc
 ·rw [List.getElem?_eq_none (by simp; omega)] at hd; cases hd
theorem cellB_len {c : Cl} (h : (0 ≤ c.term ∧ c.term ≤ 1000000000) ∧ c.data.size ≤ 4096) : (cellB c).length ≤ 4116 := by
 have h1 := num_len (x := c.term) (by omega)
 have hd : c.data.data.toList.length = c.data.size := rfl
 have h2 := num_len (x := (c.data.data.toList.length : Int)) (by omega)
 unfold cellB text
 simp only [List.length_append]; omega
theorem cellsB_len : ∀ {l : List Cl}, (∀ x ∈ l, (0 ≤ x.term ∧ x.term ≤ 1000000000) ∧ x.data.size ≤ 4096) → (cellsB l).length ≤ 4116 * l.length
 | [], _ => by simp [cellsB]
 | c :: l, h => by
  have h1 := cellB_len (h c (by simp))
  have h2 := cellsB_len (l := l) fun x hx => h x (by simp [hx])
  have e : cellsB (c :: l) = cellB c ++ cellsB l := rfl
  rw [e, List.length_append, List.length_cons]; omega
theorem RecOk.len {s : St} {c : Rcd} (h : RecOk s c) : c.bytes.length ≤ 33000 := by
 have h1 := num_len (x := c.term) (by have := h.term; omega)
 have h2 := num_len (x := c.vote) (by have := h.vote; omega)
 have hs := h.stay
 have hl := h.log
 have hf := h.few
 have h3 := num_len (x := (c.stay : Int)) (by omega)
 have h4 := num_len (x := (c.cells.length : Int)) (by omega)
 have h5 := cellsB_len h.cells
 unfold Rcd.bytes
 simp only [List.length_append]; omega
theorem RecsOk.lens {rs : List Rcd} (h : RecsOk rs) : ∀ r ∈ rs.map Rcd.bytes, r.length ≤ 33000 := fun r hr => by
 obtain ⟨c, hc, rfl⟩ := List.mem_map.1 hr
 obtain ⟨i, hi⟩ := List.mem_iff_getElem?.1 hc
 exact (h i c hi).len
theorem flat_lenC {rs : List (List UInt8)} (h : ∀ r ∈ rs, r.length ≤ 33000) : (flat rs).length ≤ 33008 * rs.length := by
 induction rs with
 | nil => simp [flat]
 | cons r rs ih =>
  have e : flat (r :: rs) = frameB r ++ flat rs := by simp [flat]
  have h1 := h r (by simp)
  have h2 := ih fun x hx => h x (by simp [hx])
  rw [e, List.length_append, frame_length, List.length_cons]; omega
structure MgOk (n id : Int) (K : Nat) (m : Mg) : Prop where
 fuse : 0 ≤ m.st.fuse ∧ m.st.fuse ≤ 9223372036854775807
 deeds : 0 ≤ m.st.deeds ∧ m.st.deeds ≤ 3 * K
 file : ∃ all, (m.st.files lnm).getD ([], 0) = (all, all.length) ∧ (recsB all).1 = m.rs.map Rcd.bytes ∧ all.length ≤ K * 33010 ∧ (m.node.isSome = true → all = flat (m.rs.map Rcd.bytes))
 len : m.rs.length ≤ K
 recs : RecsOk m.rs
 new : newOk id n (stab m.rs).term (stab m.rs).vote (stab m.rs).log
 down : m.node = none → m.st.off = true
 up : ∀ x, m.node = some x → m.st.off = false ∧ RInv x ∧ (x.id = id ∧ x.n = n) ∧ stOf x = stab m.rs ∧ x.waited ≤ K
theorem MgOk.mono {n id : Int} {K : Nat} {m : Mg} (h : MgOk n id K m) : MgOk n id (K + 1) m := by
 obtain ⟨all, f1, f2, f3, f4⟩ := h.file
 have hd := h.deeds
 have hl := h.len
 have hal : all.length ≤ (K + 1) * 33010 := Nat.le_trans f3 (Nat.mul_le_mul_right 33010 (Nat.le_succ K))
 refine ⟨h.fuse, ⟨hd.1, by omega⟩, ⟨all, f1, f2, hal, f4⟩, by omega, h.recs, h.new, h.down, fun x hx => ?_⟩
 obtain ⟨g1, g2, g3, g4, g5⟩ := h.up x hx
 exact ⟨g1, g2, g3, g4, by omega⟩
theorem MgOk.arm {n id : Int} {K : Nat} {m : Mg} {f k : Int} (h : MgOk n id K m) (hf : f ≤ 9223372036854775807) : MgOk n id K ⟨{ m.st with fuse := max f 0, keep := k }, m.node, m.rs⟩ :=
 ⟨by dsimp only; omega, h.deeds, h.file, h.len, h.recs, h.new, h.down, h.up⟩
theorem off_file {st : DSt} {keep : Int} {all : List UInt8} (h : (st.files lnm).getD ([], 0) = (all, all.length)) : ((offS keep st).files lnm).getD ([], 0) = (all, all.length) := by
 unfold offS
 split
 ·exact h
 ·dsimp only
  cases hf : st.files lnm with
  | none => rw [hf] at h; exact h
  | some v =>
   rw [hf] at h
   have hv : v = (all, all.length) := h
   subst hv
   show offV keep (all, all.length) = _
   unfold offV keptOf
   dsimp only
   rw [Nat.sub_self, Nat.min_zero, Nat.add_zero, List.take_length]
theorem off_off (st : DSt) (keep : Int) : (offS keep st).off = true := by
 unfold offS
 split
 ·assumption
 ·rfl
theorem off_fuse (st : DSt) (keep : Int) : (offS keep st).fuse = st.fuse := by unfold offS; split <;> rfl
theorem MgOk.off {n id : Int} {K : Nat} {m : Mg} {keep : Int} (h : MgOk n id K m) : MgOk n id K ⟨offS keep m.st, none, m.rs⟩ := by
 obtain ⟨all, f1, f2, f3, f4⟩ := h.file
 exact ⟨by show 0 ≤ (offS keep m.st).fuse ∧ _; rw [off_fuse]; exact h.fuse, by show 0 ≤ (offS keep m.st).deeds ∧ _; rw [offS_deeds]; exact h.deeds, ⟨all, off_file f1, f2, f3, fun hx => by cases hx⟩, h.len, h.recs, h.new, fun _ => off_off _ _, fun x hx => by cases hx⟩
theorem MgOk.save {n id : Int} {K : Nat} {m : Mg} {x y : Rn} {c : Rcd} (h : MgOk n id K m) (hx : m.node = some x) (hK : K ≤ 505) (hc : RecOk (stab m.rs) c) (hy : RInv y) (hi : y.id = id ∧ y.n = n) (hs : stOf y = applyC (stab m.rs) c) (hw : y.waited ≤ K + 1) : MgOk n id (K + 1) (saveS c y m).1 := by
 obtain ⟨all, f1, f2, f3, f4⟩ := h.file
 obtain ⟨g1, g2, g3, g4, g5⟩ := h.up x hx
 have f5 := f4 (by rw [hx]; rfl)
 have hl := hc.len
 have hd := h.deeds
 have hln := h.len
 have hz : Fz m.st lnm all (3 * K) := ⟨g1, h.fuse, hd, f1⟩
 have hnew : newOk id n (stab (m.rs ++ [c])).term (stab (m.rs ++ [c])).vote (stab (m.rs ++ [c])).log := by
  rw [stab_snoc, ← hs]
  have := hy.stable
  rw [hi.1, hi.2] at this
  exact this
 have hrs : ∀ r ∈ m.rs.map Rcd.bytes, r.length ≤ 1048576 := fun r hr => Nat.le_trans (h.recs.lens r hr) (by decide)
 have hfr := frame_length c.bytes
 unfold saveS
 rcases hz.add (b := c.bytes) lnm_ok (by omega) with ⟨st', e, f⟩ | ⟨st', k, e, k1, k2, f⟩
 ·rw [e, if_pos rfl]
  have e2 : all ++ frameB c.bytes = flat ((m.rs ++ [c]).map Rcd.bytes) := by rw [f5, List.map_append, flat_append]; congr 1; exact (Go.Journal.flat_one _).symm
  refine ⟨f.fuse, ⟨f.deeds.1, by have := f.deeds.2; show st'.deeds ≤ _; push_cast; omega⟩, ⟨_, f.file, ?_, ?_, fun _ => e2⟩, by rw [List.length_append, List.length_singleton]; omega, h.recs.snoc hc, hnew, fun hn => (by cases hn), fun z hz => ?_⟩
  ·rw [e2]
   have := recsB_flat ((m.rs ++ [c]).map Rcd.bytes) [] fun r hr => Nat.le_trans ((h.recs.snoc hc).lens r hr) (by decide)
   rw [List.append_nil, recsB_nil, List.append_nil] at this
   rw [this]
  ·rw [List.length_append]; omega
  ·cases hz
   exact ⟨f.off, hy, hi, by rw [stab_snoc]; exact hs, by push_cast; omega⟩
 ·rw [e, if_neg (show ¬ (20 : Int) = 0 by decide)]
  have hfile : (st'.files lnm).getD ([], 0) = ((all ++ frameB c.bytes).take k, ((all ++ frameB c.bytes).take k).length) := by rw [f.file]; rfl
  have hod : onDisk st' = (recsB ((all ++ frameB c.bytes).take k)).1.length := by unfold onDisk; rw [hfile]
  have hfound := found hrs (Nat.le_trans hl (by decide)) (K := k) (by rw [← f5]; exact k1) (by rw [← f5]; exact k2)
  rw [← f5] at hfound
  have hlen : ((all ++ frameB c.bytes).take k).length ≤ (K + 1) * 33010 := by rw [List.length_take, List.length_append]; omega
  dsimp only
  rcases hfound with hf | hf
  ·have hne : ¬ onDisk st' = m.rs.length + 1 := by rw [hod, hf, List.length_map]; omega
   rw [if_neg hne]
   exact ⟨by show 0 ≤ st'.fuse ∧ _; rw [f.fuse]; decide, ⟨f.deeds.1, by have := f.deeds.2; show st'.deeds ≤ _; push_cast; omega⟩, ⟨_, hfile, hf, hlen, fun hx => by cases hx⟩, by dsimp only; omega, h.recs, h.new, fun _ => f.off, fun z hz => by cases hz⟩
  ·have he : onDisk st' = m.rs.length + 1 := by rw [hod, hf, List.length_append, List.length_map]; rfl
   rw [if_pos he]
   exact ⟨by show 0 ≤ st'.fuse ∧ _; rw [f.fuse]; decide, ⟨f.deeds.1, by have := f.deeds.2; show st'.deeds ≤ _; push_cast; omega⟩, ⟨_, hfile, by rw [hf, List.map_append]; rfl, hlen, fun hx => by cases hx⟩, by rw [List.length_append, List.length_singleton]; omega, h.recs.snoc hc, hnew, fun _ => f.off, fun z hz => by cases hz⟩
theorem rec_of {n id : Int} {K : Nat} {m : Mg} {x y : Rn} (h : MgOk n id K m) (hx : m.node = some x) (hy : RInv y) (hn : y.n ≤ 5) (hw : Wr x.log y.log) : RecOk (stab m.rs) (chg (stOf x) (stOf y)) := by
 obtain ⟨g1, g2, g3, g4, g5⟩ := h.up x hx
 have hs := same_le (stOf x).log (stOf y).log
 refine ⟨by rw [← g4]; exact hs.1, chg_few hw, hy.term, ⟨hy.vote.1, Int.le_trans hy.vote.2 hn⟩, by rw [← g4]; exact g2.log, fun c hc => ?_⟩
 have hm : c ∈ y.log := List.mem_of_mem_drop hc
 have := rises_mem hy.rise c hm
 have ht := hy.term
 exact ⟨⟨by omega, by omega⟩, this.2.2.2⟩
theorem MgOk.step {n id : Int} {K : Nat} {m : Mg} {x y : Rn} (h : MgOk n id K m) (hx : m.node = some x) (hK : K ≤ 505) (hy : RInv y) (hi : y.id = id ∧ y.n = n) (hn : n ≤ 5) (hw : Wr x.log y.log) (hwt : y.waited ≤ K + 1) : MgOk n id (K + 1) (stepM x y m).1 := by
 obtain ⟨g1, g2, g3, g4, g5⟩ := h.up x hx
 unfold stepM
 split
 ·rename_i he
  have h1 := h.mono
  obtain ⟨all, f1, f2, f3, f4⟩ := h1.file
  exact ⟨h1.fuse, h1.deeds, ⟨all, f1, f2, f3, fun _ => f4 (by rw [hx]; rfl)⟩, h1.len, h1.recs, h1.new, fun hn => (by cases hn), fun z hz => by cases hz; exact ⟨g1, hy, hi, he.trans g4, by push_cast; omega⟩⟩
 ·exact h.save hx hK (rec_of h hx hy (by omega) hw) hy hi (by rw [← g4, apply_chg]) hwt
theorem MgOk.open_ {n id : Int} {K : Nat} {m : Mg} (h : MgOk n id K m) (hn : m.node = none) : MgOk n id (K + 1) (openM id n ⟨{ m.st with off := false }, none, m.rs⟩) := by
 obtain ⟨all, f1, f2, f3, f4⟩ := h.file
 have hd := h.deeds
 have hln := h.len
 obtain ⟨so, hso⟩ : ∃ so : DSt, so = { m.st with off := false } := ⟨_, rfl⟩
 have hz : Fz so lnm all (3 * K) := by rw [hso]; exact ⟨rfl, h.fuse, hd, f1⟩
 rw [← hso]
 unfold openM
 dsimp only
 rcases hz.open_ lnm_ok with ⟨st', e, f⟩ | ⟨st', e, f⟩
 ·rw [e, if_pos rfl]
  have hfl := flat_lenC (h.recs.lens)
  rw [List.length_map] at hfl
  refine ⟨f.fuse, ⟨f.deeds.1, by have := f.deeds.2; show st'.deeds ≤ _; push_cast; omega⟩, ⟨_, f.file, ?_, ?_, fun _ => by rw [f2]⟩, by dsimp only; omega, h.recs, h.new, fun hn => (by cases hn), fun z hz => ?_⟩
  ·rw [recsB_again, f2]
  ·rw [f2]; omega
  ·cases hz
   exact ⟨f.off, RInv.new h.new, ⟨rfl, rfl⟩, rfl, by show (0 : Int) ≤ _; omega⟩
 ·rw [e, if_neg (show ¬ (20 : Int) = 0 by decide)]
  exact ⟨by show 0 ≤ st'.fuse ∧ _; rw [f.fuse]; decide, ⟨f.deeds.1, by have := f.deeds.2; show st'.deeds ≤ _; push_cast; omega⟩, ⟨all, by rw [f.file]; rfl, f2, Nat.le_trans f3 (Nat.mul_le_mul_right 33010 (Nat.le_succ K)), fun hx => by cases hx⟩, by dsimp only; omega, h.recs, h.new, fun _ => f.off, fun z hz => by cases hz⟩
theorem MgOk.fresh {n id : Int} (hn : 1 ≤ n ∧ n ≤ 5) (hi : 1 ≤ id ∧ id ≤ n) : MgOk n id 0 ⟨newD, some (newR id n 0 0 []), []⟩ := by
 have h0 : newOk id n 0 0 [] := ⟨hn.1, hn.2, hi.1, hi.2, by unfold mayS; exact ⟨Int.le_refl _, by decide, Int.le_refl _, by omega, by decide, rfl⟩⟩
 exact ⟨by simp [newD], by simp [newD], ⟨[], rfl, by rw [recsB_nil]; rfl, by simp, fun _ => rfl⟩, Nat.le_refl _, RecsOk.nil, h0, fun hn => (by cases hn), fun x hx => by cases hx; exact ⟨rfl, RInv.new h0, ⟨rfl, rfl⟩, rfl, Int.le_refl _⟩⟩
end Go.Council
end
section
set_option linter.unusedVariables false
set_option linter.unusedSimpArgs false
set_option maxRecDepth 4000
namespace Go.Proofs.YtigjompojlhomaaGreat
open Go.Sl Go.RowKit Go.Raft
variable {w0 : World} {A : List HProp}
theorem raft_clip {base : Option Addr} {k c : Nat} (h : k ≤ c) :
  Fun Tryz.prog w0 145 [.slice base k c] A (Ru w0 (.slice base k k) A) := by
 refine Fun.enter Tryz.func145 rfl Tryz.ntmps145 rfl ?_
 exact wS $ wR $ yS rfl $ wN $ tN $ wS $ wR $ zS rfl $ zS rfl $ sv (vlen Tryz.underlying54 rfl) $ zS rfl $ sv (vlen Tryz.underlying54 rfl) $ sv (vslHM Tryz.underlying54 sz89 rfl rfl rfl (by omega) (by omega) (by omega)) $ yS rfl $ wN $ tN $ WC.ret $ xR rfl (()) (trivial) rfl (fun _ h => h)
abbrev replyH (x : Rn) (k : Int) (ok : Bool) (i : Int) : Mh := ⟨4, x.id, k, x.term, i, 0, 0, ok, ⟨none, [], 0⟩⟩
def fedR (x : Rn) (k : Int) : Rn := { x with role := 0, leader := k, waited := 0 }
theorem mergeS_step {log : List Cl} {commit p : Int} {l : List Cl} {i : Nat} {c : Cl} (h : l[i]? = some c) (he : atT log (p + 1) = c.term) : mergeS log commit p (l.drop i) = mergeS log commit (p + 1) (l.drop (i + 1)) := by
 have hi := (List.getElem?_eq_some_iff.1 h).1
 rw [List.drop_eq_getElem_cons hi, (List.getElem?_eq_some_iff.1 h).2, mergeS, if_pos he]
theorem mergeS_none {log : List Cl} {commit p : Int} {l : List Cl} {i : Nat} {c : Cl} (h : l[i]? = some c) (he : atT log (p + 1) ≠ c.term) (hc : p + 1 ≤ commit) : mergeS log commit p (l.drop i) = none := by
 have hi := (List.getElem?_eq_some_iff.1 h).1
 rw [List.drop_eq_getElem_cons hi, (List.getElem?_eq_some_iff.1 h).2, mergeS, if_neg he, if_pos hc]
theorem mergeS_new {log : List Cl} {commit p : Int} {l : List Cl} {i : Nat} {c : Cl} (h : l[i]? = some c) (he : atT log (p + 1) ≠ c.term) (hc : ¬ p + 1 ≤ commit) : mergeS log commit p (l.drop i) = some (log.take p.toNat ++ l.drop i) := by
 have hi := (List.getElem?_eq_some_iff.1 h).1
 have e : l.drop i = c :: l.drop (i + 1) := by rw [List.drop_eq_getElem_cons hi, (List.getElem?_eq_some_iff.1 h).2]
 rw [e, mergeS, if_neg he, if_neg hc]
structure FI where
 log : List Cl
 base : Option Addr
 c : Nat
theorem fed_old {x : Rn} {m : Ml} (h : m.term < x.term) : fedS x m = (x, reply x m.fr false x.log.length) := if_pos h
theorem fed_lead {x : Rn} {m : Ml} (h : ¬ m.term < x.term) (h2 : x.role = 2) : fedS x m = (x, []) := by unfold fedS; rw [if_neg h, if_pos h2]
theorem fed_gap {x : Rn} {m : Ml} (h : ¬ m.term < x.term) (h2 : ¬ x.role = 2) (h3 : (x.log.length : Int) < m.index ∨ atT x.log m.index ≠ m.prev) : fedS x m = (fedR x m.fr, reply x m.fr false (min (x.log.length : Int) (m.index - 1))) := by unfold fedS; rw [if_neg h, if_neg h2, if_pos h3]; rfl
theorem fed_none {x : Rn} {m : Ml} (h : ¬ m.term < x.term) (h2 : ¬ x.role = 2) (h3 : ¬ ((x.log.length : Int) < m.index ∨ atT x.log m.index ≠ m.prev)) (h4 : mergeS x.log x.commit m.index m.cells = none) : fedS x m = (fedR x m.fr, []) := by unfold fedS; rw [if_neg h, if_neg h2, if_neg h3, h4]; rfl
theorem fed_some {x : Rn} {m : Ml} {log : List Cl} (h : ¬ m.term < x.term) (h2 : ¬ x.role = 2) (h3 : ¬ ((x.log.length : Int) < m.index ∨ atT x.log m.index ≠ m.prev)) (h4 : mergeS x.log x.commit m.index m.cells = some log) :
  fedS x m = ({ fedR x m.fr with log := log, commit := max x.commit (min m.commit (m.index + m.cells.length)) }, reply x m.fr true (m.index + m.cells.length)) := by unfold fedS; rw [if_neg h, if_neg h2, if_neg h3, h4]; rfl
theorem fed_fix {w0 w : World} {A : List HProp} {p c n : Nat} {base : Option Addr} {vv pv : Value} {vs : List Value} {y : Rn} (hn : n = y.log.length) (hv : vs = cvs y.log) (H : Own w0 (cel p [.int .i64 y.id, .int .i64 y.n, .int .i64 y.term, .int .i64 y.vote, .slice base n c, .int .i64 y.role, .int .i64 y.leader, .int .i64 y.commit, .int .i64 y.waited, .int .i64 y.since, vv, pv] 150 :: row base c 2 89 vs :: A) w) :
  Own w0 (cel p (ncells y base c vv pv) 150 :: row base c 2 89 (cvs y.log) :: A) w := by
 subst hn; subst hv
 exact H
theorem raft_fed {p : Nat} {x : Rn} {m : Mh} (hx : RInv x) (hm : mailOk x.id x.n m.ml) (hk : m.kind = 3) (hcc : m.cs.xs.length ≤ m.cs.cap) [hR : Reads w0 A m.cs.base (cvs m.cs.xs)] :
  Fun Tryz.prog w0 142 [.pointer (some ⟨p, 0, none⟩), .agg (mv m).toArray] (hnode p x :: A) (MR w0 p A (fedS x m.ml)) := by
 refine Fun.ex (fun w h => hnode_open h) ?_
 rintro ⟨base, c, vv, pv⟩ hc
 dsimp only at hc ⊢
 have hl := hx.log
 have hcm := hx.commit
 obtain ⟨⟨m1, m2, m3, m4, m5, m6, m7, m8⟩, hrest⟩ := hm
 obtain ⟨hp0, hp1, hp2, hcs⟩ : 0 ≤ m.prev ∧ m.prev ≤ m.term ∧ (m.prev = 0 ↔ m.index = 0) ∧ (0 ≤ m.commit ∧ m.commit ≤ 10000 ∧ m.cs.xs.length ≤ 8 ∧ m.index + (m.cs.xs.length : Int) ≤ 10000 ∧ rises m.cs.xs m.prev m.term = true) := by
  rcases hrest with h | h | ⟨_, a, b, c, d⟩
  ·exact absurd h (by show ¬ m.kind = 2; omega)
  ·exact absurd h (by show ¬ m.kind = 4; omega)
  ·exact ⟨a, b, c, d hk⟩
 replace m7 : 0 ≤ m.index := m7
 replace m8 : m.index ≤ 10000 := m8
 unfold MR
 refine Fun.enter Tryz.func142 rfl Tryz.ntmps142 rfl ?_
 refine wS $ wR $ bxc (v := .agg _) (cs := [.int _ _, .int _ _, .int _ _, .int _ _, .int _ _, .int _ _, .int _ _, .bool _, .slice _ _ _]) rfl rfl fun b1 => yS rfl $ wN $ tN $ wS $ wR $ zP rfl $ sv (vfld fl85f1 rfl) $ sv (vldc pl3 rfl) $ cl (raft_mail (x := x) (base := base) (c := c) (vv := vv) (pv := pv)) ct136 rfl fun _ _ => alz (cs := [.int .i64 0, .int .i64 0, .int .i64 0, .int .i64 0, .int .i64 0, .int .i64 0, .int .i64 0, .bool false, .slice none 0 0]) zt85 (by rfl) fun b4 => stA sz85 rfl rfl rfl rfl (hone) $ wN $ tN $ wS $ WC.block $ wS $ WC.draws rfl (by kernel_rfl) $ qv (vfld fl85f3 rfl) $ qv (vldc pl3 rfl) $ qv (vmP rfl) $ qv (vnil rfl) $ qv (vfld fl150f2 rfl) $ qv (vldc pl3 rfl) $ qv (vlt rfl rfl) $ qv (vaB rfl) $ WQ.nil $ tN $ ?_
 refine WC.ite rfl (fun h1 => ?_) (fun h1 => ?_)
 ·
  rw [fed_old (m := m.ml) h1]
  ·
   exact wS $ wR $ zP rfl $ uN rfl $ sv (vfld fl150f4 rfl) $ sv (vldc pl54 rfl) $ sv (vlen Tryz.underlying54 rfl) $ sv (vfld fl85f4 rfl) $ stc (v := .int _ _) pl3 sz3 rfl rfl rfl $ wN $ tN $ wS $ wR $ sv (vldac ag85 sz85 rfl rfl (by decide)) $ bslA (v := .agg _) (cs := mv (replyH x m.fr false x.log.length)) Tryz.underlying41 zt85 rfl rfl rfl (by decide) (by decide) fun b11 =>yS rfl $ wN $ tN $ WC.ret $ WX.blockR $ tR $ xR rfl ((some ⟨b11, 0, none⟩, 1, [replyH x m.fr false x.log.length])) (⟨rfl, Nat.le_refl _⟩) rfl (fun w h => ((hnode_mk hc ((one_mail0 rfl h).ix [4, 5, 6, 0, 1, 2, 3])).ix [3, 4, 1, 2, 0]).tail.tail)
 ·
  refine wS $ wR $ zP rfl $ uN rfl $ sv (vfld fl150f5 rfl) $ sv (vldc pl3 rfl) $ sv (veq rfl rfl) $ yB rfl $ wN $ tN $ ?_
  refine WC.ite rfl (fun h2 => ?_) (fun h2 => ?_)
  ·
   rw [fed_lead (m := m.ml) h1 h2]
   exact wS $ wR $ yS rfl $ wN $ tN $ WC.ret $ WX.blockR $ tR $ xR rfl ((none, 0, [])) (⟨rfl, Nat.le_refl _⟩) rfl (fun w h => no_mails (hnode_mk hc h.tail.tail))
  ·
   refine WC.perm (A' := cel p (ncells x base c vv pv) 150 :: cel b4 (mv (replyH x m.fr false 0)) 85 :: cel b1 (mv m) 85 :: row base c 2 89 (cvs x.log) :: A) ?_ (fun _ h => (h.ix [4, 2, 0, 1, 3]).tail)
   refine WC.skip $ WX.blockN $ tN $ wS $ WC.plan (.pre [0, 5, 6] (.one [1, 2, 3, 4] 7 (.pre [8, 9] (.one [] 10 (.bar [11, 12] 13 (.done [])))))) rfl (by kernel_rfl) $ WPl.pre (trivial) $ dv (fun g => (vmP rfl)) $ dv (fun g => (vnil rfl)) $ dv (fun g => (vfld fl150f5 rfl)) $ WD.nil $ WPl.one (fun g => g ++ cel b4 (mv (replyH x m.fr false 0)) 85 :: cel b1 (mv m) 85 :: row base c 2 89 (cvs x.log) :: A) ([_]) (fun _ => trivial) (rfl) $ dv (fun g => (vmP rfl)) $ dv (fun g => (vmP rfl)) $ dv (fun g => (vfld fl85f1 rfl)) $ dv (fun g => (vldc pl3 rfl)) $ WD.eff rfl $ stc (v := .int _ _) pl3 sz3 rfl rfl rfl $ wN $ WX.br $ WPl.pre (⟨[_], rfl⟩) $ dv (fun g => (vnil rfl)) $ dv (fun g => (vfld fl150f6 rfl)) $ WD.nil $ WPl.one (fun g => g ++ cel b4 (mv (replyH x m.fr false 0)) 85 :: cel b1 (mv m) 85 :: row base c 2 89 (cvs x.log) :: A) ([_]) (fun g => good_same _ g) (rfl) $ WD.eff rfl $ stc (v := .int _ _) pl3 sz3 rfl rfl rfl $ wN $ WX.br $ WPl.bar (⟨[_], rfl⟩) $ dv (fun g => (vnil rfl)) $ dv (fun g => (vfld fl150f8 rfl)) $ WD.eff rfl $ stc (v := .int _ _) pl3 sz3 rfl rfl rfl $ wN $ WX.brT $ WPl.fin (trivial) $ WD.nil $ tN $ wS $ ?_
   refine WC.cut0 [(62, .bool (decide ((x.log.length : Int) < m.index ∨ atT x.log m.index ≠ m.prev)))] [(0, .pointer _), (3, .pointer _), (5, .pointer _)] (cel p (ncells (fedR x m.fr) base c vv pv) 150 :: cel b4 (mv (replyH x m.fr false 0)) 85 :: cel b1 (mv m) 85 :: row base c 2 89 (cvs x.log) :: A) ⟨rfl, rfl, rfl, trivial⟩ ?_ fun ρh => ?_
   ·
    refine WC.draws rfl (by kernel_rfl) $ qv (vfld fl85f4 rfl) $ qv (vldc pl3 rfl) $ qv (vmP rfl) $ qv (vnil rfl) $ qv (vfld fl150f4 rfl) $ qv (vldc pl54 rfl) $ qv (vlen Tryz.underlying54 rfl) $ qvs (vgt rfl rfl) (fun q1 => ?_) (fun q1 => ?_)
    ·
     exact qv (vmB rfl) $ qng rfl $ qng rfl $ qng rfl $ qng rfl $ qng rfl $ qng rfl $ qng rfl $ qv (vpkt rfl) $ WQ.nil $ xM () trivial ⟨bT (by first | omega | (show atT x.log m.index ≠ m.prev ↔ _; omega) | grind), trivial⟩ ⟨rfl, rfl, rfl, trivial⟩ (fun _ h => h)
    ·
     exact qv (vmB rfl) $ qvg rfl (vmP rfl) $ qvg rfl (vfld fl85f4 rfl) $ qvg rfl (vldc pl3 rfl) $ qclg rfl (Fun.quiet (raft_at (x := fedR x m.fr) (base := base) (c := c) (vv := vv) (pv := pv) hl)) ct132 rfl $ qvg rfl (vfld fl85f5 rfl) $ qvg rfl (vldc pl3 rfl) $ qvg rfl (vne rfl rfl) $ qv (vpkf rfl) $ WQ.nil $ xM () trivial ⟨bI (by first | omega | (show atT x.log m.index ≠ m.prev ↔ _; omega) | grind), trivial⟩ ⟨rfl, rfl, rfl, trivial⟩ (fun _ h => h)
   refine WC.ite rfl (fun h3 => ?_) (fun h3 => ?_)
   ·
    rw [fed_gap (m := m.ml) h1 h2 h3]
    ·
     exact wS $ WC.plan (.bar [0, 1, 2, 3, 4, 5, 6, 7, 8, 9] 10 (.done [])) rfl (by kernel_rfl) $ WPl.bar (trivial) $ dv (fun g => (vmP rfl)) $ dv (fun g => (vnil rfl)) $ dv (fun g => (vfld fl150f4 rfl)) $ dv (fun g => (vldc pl54 rfl)) $ dv (fun g => (vlen Tryz.underlying54 rfl)) $ dv (fun g => (vfld fl85f4 rfl)) $ dv (fun g => (vldc pl3 rfl)) $ dv (fun g => (vsub rfl rfl (by omega))) $ dv (fun g => (vmin rfl rfl)) $ dv (fun g => (vfld fl85f4 rfl)) $ WD.eff rfl $ pm (fun _ h => h.pk1) $ stc (v := .int _ _) pl3 sz3 rfl rfl rfl $ wN $ WX.brT $ WPl.fin (trivial) $ WD.nil $ tN $ wS $ wR $ sv (vldac ag85 sz85 rfl rfl (by decide)) $ bslA (v := .agg _) (cs := mv (replyH x m.fr false (min (x.log.length : Int) (m.index - 1)))) Tryz.underlying41 zt85 rfl rfl rfl (by decide) (by decide) fun b28 =>yS rfl $ wN $ tN $ WC.ret $ tR $ xR rfl ((some ⟨b28, 0, none⟩, 1, [replyH x m.fr false (min (x.log.length : Int) (m.index - 1))])) (⟨rfl, Nat.le_refl _⟩) rfl (fun w h => ((hnode_mk0 (x := fedR x m.fr) (by show ¬ (0 : Int) = 1; decide) (by show ¬ (0 : Int) = 2; decide) hc ((one_mail0 rfl h).ix [3, 5, 0, 1, 2, 4])).ix [3, 4, 1, 2, 0]).tail.tail)
   ·
    refine WC.skip $ tN $ ?_
    refine WC.cutv (ι := FI) (fun i => []) [(0, .pointer _), (3, .pointer _), (5, .pointer _)] (fun i => cel p (ncells { fedR x m.fr with log := i.log } i.base i.c vv pv) 150 :: cel b4 (mv (replyH x m.fr false 0)) 85 :: cel b1 (mv m) 85 :: row i.base i.c 2 89 (cvs i.log) :: A) (fun i => mergeS x.log x.commit m.index m.cs.xs = some i.log ∧ i.log.length ≤ i.c) ⟨rfl, rfl, rfl, trivial⟩ ?_ ?_
    ·
     refine wS $ wR $ sv (vfld fl85f8 rfl) $ sv (vldc pl54 rfl) $ sv (vlen Tryz.underlying54 rfl) $ zI rfl $ wN $ tN $ WC.block $ ?_
     refine WC.loop (ι := Nat) (fun i => [(78, .int .i64 i)]) [(0, .pointer _), (3, .pointer _), (5, .pointer _), (76, .slice _ _ _), (77, .int _ _)] (fun i => cel p (ncells (fedR x m.fr) base c vv pv) 150 :: cel b4 (mv (replyH x m.fr false 0)) 85 :: cel b1 (mv m) 85 :: row base c 2 89 (cvs x.log) :: A) (fun i => i ≤ m.cs.xs.length ∧ m.index + (i : Int) ≤ (x.log.length : Int) ∧ mergeS x.log x.commit m.index m.cs.xs = mergeS x.log x.commit (m.index + (i : Int)) (m.cs.xs.drop i)) (fun i => m.cs.xs.length - i) (0) (⟨by omega, by omega, by simp⟩) ⟨rfl, trivial⟩ ⟨rfl, rfl, rfl, rfl, rfl, trivial⟩ (fun _ h => h) ?_
     intro i ⟨hi1, hi2, hi3⟩ ρh
     refine wS $ wR $ sv (vlt rfl rfl) $ wN $ tN $ wS $ ?_
     refine WC.ite rfl (fun h4 => ?_) (fun h4 => ?_)
     ·
      have hil : i < m.cs.xs.length := by omega
      obtain ⟨d, hd⟩ : ∃ d, m.cs.xs[i]? = some d := ⟨_, List.getElem?_eq_getElem hil⟩
      have hlc := cvs_length m.cs.xs
      have hpos : 0 < (cvs m.cs.xs).length := by omega
      have hag : ((cvs m.cs.xs).drop (((i : Int)).toNat * 2)).take 2 = [.int .i64 d.term, .string d.data] := by rw [Int.toNat_natCast]; exact cvs_take2 hd
      have hone : ∀ v ∈ [Value.int .i64 d.term, .string d.data], v.oneCell' = true := cone
      have hdt := (rises_mem hcs.2.2.2.2 d (List.mem_of_getElem? hd)).1
      have epl : m.index + 1 + (i : Int) = (m.index + (i : Int)) + 1 := by omega
      refine WC.known (fun w h => rsome (base := m.cs.base) hpos reads h) fun hb => ?_
      refine WC.skip $ tN $ wS $ WC.block $ wS $ wR $ zI rfl $ sv (vix Tryz.underlying54 sz89 rfl rfl (by omega) (by omega) reads (hpos)) $ sv (vlda ag89 sz89 rfl reads (hag) rfl (by decide)) $ alz (cs := [.int .i64 0, .string ByteArray.empty]) zt89 (by rfl) fun b32 => yI rfl $ stA sz89 rfl rfl rfl rfl (hone) $ wN $ tN $ wS $ wR $ sv (vfld fl85f4 rfl) $ sv (vldc pl3 rfl) $ sv (vadd rfl rfl (by omega)) $ zI rfl $ sv (vadd rfl rfl (by omega)) $ yI rfl $ wN $ tN $ wS $ wS $ WC.draws rfl (by kernel_rfl) $ qv (vmP rfl) $ qv (vmI rfl) $ qcl (Fun.quiet (raft_at (x := fedR x m.fr) (base := base) (c := c) (vv := vv) (pv := pv) hl)) ct132 rfl $ qv (vfld fl89f0 rfl) $ qv (vldc pl3 rfl) $ qv (veq rfl rfl) $ WQ.nil $ tN $ ?_
      refine WC.ite rfl (fun h5 => ?_) (fun h5 => ?_)
      ·
       exact WC.exit $ WX.thenE $ WX.blockH $ tN $ wR $ sv (vadd rfl rfl (by omega)) $ zI rfl $ wN $ WX.again (i + 1) (⟨by omega, by have h6 : atT x.log (m.index + 1 + (i : Int)) = d.term := h5; by_cases hle : m.index + 1 + (i : Int) ≤ x.log.length; omega; rw [atT_zero (.inr (by omega))] at h6; omega, by rw [hi3, mergeS_step hd (by rw [← epl]; exact h5)]; congr 1; omega⟩) (by omega) ⟨rfl, trivial⟩ ⟨rfl, rfl, rfl, rfl, rfl, trivial⟩ (fun _ h => h.tail)
      ·
       have hne : atT x.log (m.index + (i : Int) + 1) ≠ d.term := by rw [← epl]; exact h5
       refine WC.skip $ tN $ wS $ wS $ wR $ zI rfl $ zP rfl $ uN rfl $ sv (vfld fl150f7 rfl) $ sv (vldc pl3 rfl) $ sv (vle rfl rfl) $ wN $ tN $ ?_
       refine WC.ite rfl (fun h6 => ?_) (fun h6 => ?_)
       ·
        have hle : m.index + (i : Int) + 1 ≤ x.commit := by rw [← epl]; exact h6
        rw [fed_none (m := m.ml) h1 h2 h3 (hi3.trans (mergeS_none hd hne hle))]
        exact wS $ wR $ yS rfl $ wN $ tN $ WC.ret $ tR $ WX.blockR $ tR $ tR $ WX.blockR $ tR $ xR rfl ((none, 0, [])) (⟨rfl, Nat.le_refl _⟩) rfl (fun w h => no_mails (((hnode_mk0 (x := fedR x m.fr) (by show ¬ (0 : Int) = 1; decide) (by show ¬ (0 : Int) = 2; decide) hc (h.ix [1, 4, 0, 2, 3])).ix [1, 2, 3, 0]).tail.tail.tail))
       ·
        have hgt : ¬ m.index + (i : Int) + 1 ≤ x.commit := by rw [← epl]; exact h6
        obtain ⟨k0, hk0⟩ : ∃ k0 : Nat, m.index = (k0 : Int) := ⟨m.index.toNat, by omega⟩
        have hkk : m.index + (i : Int) = ((k0 + i : Nat) : Int) := by omega
        have hkl : k0 + i ≤ x.log.length := by omega
        have hnew := hi3.trans (mergeS_new hd hne hgt)
        rw [hkk, Int.toNat_natCast] at hnew
        have hlc2 := cvs_length x.log
        have hrd : ∀ {B : List HProp} [Reads w0 B m.cs.base (cvs m.cs.xs)], RdC w0 B (slB m.cs.base ((i : Int)).toNat m.cs.cap 2) (cvs (m.cs.xs.drop i)) := fun {B} _ => by
         have := (reads (w0 := w0) (A := B) (base := m.cs.base) (vs := cvs m.cs.xs)).slice i m.cs.cap 2 ((m.cs.xs.drop i).length * 2) (fun h => by rw [List.length_drop]; omega)
         rw [cvs_drop, cvs_take, List.take_length] at this
         simpa using this
        refine WC.perm (A' := row base c 2 89 (cvs x.log) :: cel p (ncells (fedR x m.fr) base c vv pv) 150 :: cel b4 (mv (replyH x m.fr false 0)) 85 :: cel b1 (mv m) 85 :: A) ?_ (fun _ h => (h.ix [0, 4, 1, 2, 3]).tail)
        exact WC.skip $ tN $ wS $ WC.plan (.pre [1, 2, 3, 4, 5, 6, 7, 8, 9, 10, 11, 12] (.one [0] 13 (.bar [14, 15] 16 (.done [])))) rfl (by kernel_rfl) $ WPl.pre (trivial) $ dv (fun g => (vmP rfl)) $ dv (fun g => (vnil rfl)) $ dv (fun g => (vfld fl150f4 rfl)) $ dv (fun g => (vldc pl54 rfl)) $ dv (fun g => (vmI rfl)) $ dv (fun g => (vw (v' := .int .i64 ((k0 + i : Nat) : Int)) (vsub rfl rfl (by omega)) (iv (by omega)))) $ dv (fun g => (vslH Tryz.underlying54 sz89 rfl rfl (by omega) (by omega))) $ dcl (fun g => Fun.quiet (raft_clip (by rw [Int.toNat_natCast]; omega))) ct145 rfl $ dv (fun g => (vfld fl85f8 rfl)) $ dv (fun g => (vldc pl54 rfl)) $ dv (fun g => (vmI rfl)) $ dv (fun g => (vslL Tryz.underlying54 sz89 rfl rfl (by omega) (by omega))) $ WD.nil $ WPl.one (fun g => g ++ cel p (ncells (fedR x m.fr) base c vv pv) 150 :: cel b4 (mv (replyH x m.fr false 0)) 85 :: cel b1 (mv m) 85 :: A) ([_]) (fun _ => trivial) (rfl) $ dv (fun g => (vmP rfl)) $ WD.eff rfl $ pm (fun _ h => Own.row_cut (k := k0 + i) (by omega) (by omega) h) $ ap (vs := (cvs x.log).take ((k0 + i) * 2)) (news := cvs (m.cs.xs.drop i)) rfl Tryz.underlying54 zt89 rfl rfl rfl (by rw [List.length_take, hlc2, Int.toNat_natCast]; omega) (by rw [cvs_length, List.length_drop, Int.toNat_natCast]) (cvs_one _) hrd (by simp only [maxLen]; omega) (by omega) fun base46 c46 hc46 =>wN $ WX.br $ WPl.bar (⟨[_], rfl⟩) $ dv (fun g => (vnil rfl)) $ dv (fun g => (vfld fl150f4 rfl)) $ WD.eff rfl $ pm (fun _ h => h.pk1) $ stc (v := .slice _ _ _) pl54 sz54 rfl rfl rfl $ wN $ WX.brT $ WPl.fin (trivial) $ WD.nil $ tN $ WC.exit $ WX.blockE rfl $ WX.thenE $ WX.thenE $ WX.blockH $ xM (⟨x.log.take (k0 + i) ++ m.cs.xs.drop i, base46, c46⟩) (⟨hnew, by show (x.log.take (k0 + i) ++ m.cs.xs.drop i).length ≤ c46; rw [List.length_append, List.length_take, List.length_drop]; rw [Int.toNat_natCast, Int.toNat_natCast] at hc46; omega⟩) trivial ⟨rfl, rfl, rfl, trivial⟩ (fun w h => (fed_fix (y := { fedR x m.fr with log := x.log.take (k0 + i) ++ m.cs.xs.drop i }) (by show _ = (x.log.take (k0 + i) ++ m.cs.xs.drop i).length; rw [List.length_append, List.length_take, List.length_drop, Int.toNat_natCast, Int.toNat_natCast]; omega) (by show _ = cvs (x.log.take (k0 + i) ++ m.cs.xs.drop i); rw [cvs_append, cvs_take]) h).ix [0, 2, 3, 1])
     ·
      exact WC.exit $ WX.thenE $ WX.thenE $ WX.blockH $ xM (⟨x.log, base, c⟩) (⟨by rw [hi3, List.drop_eq_nil_of_le (by omega)]; rfl, hc⟩) trivial ⟨rfl, rfl, rfl, trivial⟩ (fun _ h => h)
    ·
     rintro ⟨log', base', c'⟩ ⟨g1, g2⟩ ρh
     dsimp only at g1 g2 ⊢
     rw [fed_some (m := m.ml) h1 h2 h3 g1]
     refine WC.perm (A' := cel b4 (mv (replyH x m.fr false 0)) 85 :: cel p (ncells { fedR x m.fr with log := log' } base' c' vv pv) 150 :: cel b1 (mv m) 85 :: row base' c' 2 89 (cvs log') :: A) ?_ (fun _ h => h.pk1)
     exact wS $ WC.plan (.pre [6] (.one [0, 1, 2, 3, 4, 5] 7 (.bar [8] 9 (.done [])))) rfl (by kernel_rfl) $ WPl.pre (trivial) $ dv (fun g => (vfld fl85f7 rfl)) $ WD.nil $ WPl.one (fun g => g ++ cel p (ncells { fedR x m.fr with log := log' } base' c' vv pv) 150 :: cel b1 (mv m) 85 :: row base' c' 2 89 (cvs log') :: A) ([_]) (fun _ => trivial) (rfl) $ dv (fun g => (vfld fl85f4 rfl)) $ dv (fun g => (vldc pl3 rfl)) $ dv (fun g => (vfld fl85f8 rfl)) $ dv (fun g => (vldc pl54 rfl)) $ dv (fun g => (vlen Tryz.underlying54 rfl)) $ dv (fun g => (vadd rfl rfl (by omega))) $ WD.eff rfl $ stc (v := .bool _) pl4 sz4 rfl rfl rfl $ wN $ WX.br $ WPl.bar (⟨[_], rfl⟩) $ dv (fun g => (vfld fl85f4 rfl)) $ WD.eff rfl $ stc (v := .int _ _) pl3 sz3 rfl rfl rfl $ wN $ WX.brT $ WPl.fin (trivial) $ WD.nil $ tN $ wS $ WC.plan (.bar [0, 1, 2, 3, 4, 5, 6, 7, 8, 9, 10, 11, 12] 13 (.done [])) rfl (by kernel_rfl) $ WPl.bar (trivial) $ dv (fun g => (vmP rfl)) $ dv (fun g => (vmP rfl)) $ dv (fun g => (vnil rfl)) $ dv (fun g => (vfld fl150f7 rfl)) $ dv (fun g => (vldc pl3 rfl)) $ dv (fun g => (vfld fl85f6 rfl)) $ dv (fun g => (vldc pl3 rfl)) $ dv (fun g => (vfld fl85f4 rfl)) $ dv (fun g => (vldc pl3 rfl)) $ dv (fun g => (vmin rfl rfl)) $ dv (fun g => (vmax rfl rfl)) $ dv (fun g => (vnil rfl)) $ dv (fun g => (vfld fl150f7 rfl)) $ WD.eff rfl $ pm (fun _ h => h.pk1) $ stc (v := .int _ _) pl3 sz3 rfl rfl rfl $ wN $ WX.brT $ WPl.fin (trivial) $ WD.nil $ tN $ wS $ wR $ sv (vldac ag85 sz85 rfl rfl (by decide)) $ bslA (v := .agg _) (cs := mv (replyH x m.fr true (m.index + (m.cs.xs.length : Int)))) Tryz.underlying41 zt85 rfl rfl rfl (by decide) (by decide) fun b61 =>yS rfl $ wN $ tN $ WC.ret $ xR rfl ((some ⟨b61, 0, none⟩, 1, [replyH x m.fr true (m.index + (m.cs.xs.length : Int))])) (⟨rfl, Nat.le_refl _⟩) rfl (fun w h => ((hnode_mk0 (x := { fedR x m.fr with log := log', commit := max x.commit (min m.commit (m.index + (m.cs.xs.length : Int))) }) (by show ¬ (0 : Int) = 1; decide) (by show ¬ (0 : Int) = 2; decide) g2 ((one_mail0 rfl h).ix [2, 5, 0, 1, 3, 4])).ix [3, 4, 1, 2, 0]).tail.tail)
end Go.Proofs.YtigjompojlhomaaGreat
end
section
set_option linter.unusedVariables false
set_option linter.unusedSimpArgs false
set_option maxRecDepth 4000
namespace Go.Proofs.YtigjompojlhomaaGreat
open Go.Sl Go.RowKit Go.Raft
def prevOk (m : Mh) : Prop := 0 ≤ m.prev ∧ m.prev ≤ m.term ∧ (m.prev = 0 ↔ m.index = 0)
instance (m : Mh) : Decidable (prevOk m) := by unfold prevOk; infer_instance
def headOk (x : Rn) (m : Mh) : Prop := 1 ≤ m.fr ∧ m.fr ≤ x.n ∧ m.fr ≠ x.id ∧ m.to_ = x.id ∧ 1 ≤ m.term ∧ m.term ≤ 1000000000 ∧ 0 ≤ m.index ∧ m.index ≤ 10000
theorem may_no {x : Rn} {m : Mh} (h : ¬ headOk x m) : ¬ mailOk x.id x.n m.ml := fun hm => h hm.1
theorem may_ask {x : Rn} {m : Mh} (h : headOk x m) (hk : m.kind = 1) : prevOk m ↔ mailOk x.id x.n m.ml := by
 constructor
 ·intro hp; exact ⟨h, .inr (.inr ⟨.inl hk, hp.1, hp.2.1, hp.2.2, fun h3 => absurd h3 (by show ¬ m.kind = 3; omega)⟩)⟩
 ·rintro ⟨_, h2 | h4 | ⟨_, a, b, c, _⟩⟩
  ·exact absurd h2 (by show ¬ m.kind = 2; omega)
  ·exact absurd h4 (by show ¬ m.kind = 4; omega)
  ·exact ⟨a, b, c⟩
theorem may_two {x : Rn} {m : Mh} (h : headOk x m) (hk : m.kind = 2 ∨ m.kind = 4) : mailOk x.id x.n m.ml := ⟨h, by rcases hk with h | h; exact .inl h; exact .inr (.inl h)⟩
theorem may_three {x : Rn} {m : Mh} (h : headOk x m) (hk : m.kind = 3) : (prevOk m ∧ 0 ≤ m.commit ∧ m.commit ≤ 10000 ∧ (m.cs.xs.length : Int) ≤ 8 ∧ m.index + (m.cs.xs.length : Int) ≤ 10000 ∧ rises m.cs.xs m.prev m.term = true) ↔ mailOk x.id x.n m.ml := by
 constructor
 ·rintro ⟨hp, a, b, c, d, e⟩; exact ⟨h, .inr (.inr ⟨.inr hk, hp.1, hp.2.1, hp.2.2, fun _ => ⟨a, b, by show m.cs.xs.length ≤ 8; omega, d, e⟩⟩)⟩
 ·rintro ⟨_, h2 | h4 | ⟨_, a, b, c, d⟩⟩
  ·exact absurd h2 (by show ¬ m.kind = 2; omega)
  ·exact absurd h4 (by show ¬ m.kind = 4; omega)
  ·obtain ⟨d1, d2, d3, d4, d5⟩ := d hk
   exact ⟨⟨a, b, c⟩, d1, d2, by have : m.cs.xs.length ≤ 8 := d3; omega, d4, d5⟩
theorem may_else {x : Rn} {m : Mh} (h1 : m.kind ≠ 1) (h2 : m.kind ≠ 2) (h3 : m.kind ≠ 3) (h4 : m.kind ≠ 4) : ¬ mailOk x.id x.n m.ml := by
 rintro ⟨_, h | h | ⟨h | h, _⟩⟩
 ·exact h2 h
 ·exact h4 h
 ·exact h1 h
 ·exact h3 h
theorem raft_may {w0 : World} {A : List HProp} {p c : Nat} {base : Option Addr} {vv pv : Value} {x : Rn} {m : Mh} (hml : m.cs.xs.length ≤ 9223372036854775807) [hc : CelAt A p (ncells x base c vv pv) 150] [hR : Reads w0 A m.cs.base (cvs m.cs.xs)] :
  Fun Tryz.prog w0 139 [.pointer (some ⟨p, 0, none⟩), .agg (mv m).toArray] A (Ru w0 (.bool (decide (mailOk x.id x.n m.ml))) A) := by
 refine Fun.enter Tryz.func139 rfl Tryz.ntmps139 rfl ?_
 refine wS $ wR $ bxc (v := .agg _) (cs := [.int _ _, .int _ _, .int _ _, .int _ _, .int _ _, .int _ _, .int _ _, .bool _, .slice _ _ _]) rfl rfl fun b1 => yB rfl $ wN $ tN $ wS $ ?_
 refine WC.cut0 [(55, .bool (decide (m.fr < 1 ∨ x.n < m.fr ∨ m.fr = x.id ∨ m.to_ ≠ x.id ∨ m.term < 1 ∨ (1000000000 : Int) < m.term ∨ m.index < 0 ∨ (10000 : Int) < m.index)))] [(3, .pointer _)] (cel b1 (mv m) 85 :: A) ⟨rfl, trivial⟩ ?_ fun ρh => ?_
 ·
  refine WC.draws rfl (by kernel_rfl) $ qv (vfld fl85f1 rfl) $ qv (vldc pl3 rfl) $ qvs (vlt rfl rfl) (fun q1 => ?_) (fun q1 => ?_)
  ·
   exact qv (vmB rfl) $ qng rfl $ qng rfl $ qng rfl $ qng rfl $ qng rfl $ qng rfl $ qng rfl $ qv (vpkt rfl) $ qv (vmB rfl) $ qng rfl $ qng rfl $ qng rfl $ qng rfl $ qng rfl $ qng rfl $ qng rfl $ qv (vpkt rfl) $ qv (vmB rfl) $ qng rfl $ qng rfl $ qng rfl $ qng rfl $ qng rfl $ qng rfl $ qng rfl $ qv (vpkt rfl) $ qv (vmB rfl) $ qng rfl $ qng rfl $ qng rfl $ qv (vpkt rfl) $ qv (vmB rfl) $ qng rfl $ qng rfl $ qng rfl $ qv (vpkt rfl) $ qv (vmB rfl) $ qng rfl $ qng rfl $ qng rfl $ qv (vpkt rfl) $ qv (vmB rfl) $ qng rfl $ qng rfl $ qng rfl $ qv (vpkt rfl) $ WQ.nil $ xM () trivial ⟨bT (by first | (unfold prevOk; by_cases ha : m.prev = 0 <;> by_cases hb : m.index = 0 <;> simp [ha, hb] <;> omega) | omega | simp_all | grind), trivial⟩ ⟨rfl, trivial⟩ (fun _ h => h)
  ·
   refine qv (vmB rfl) $ qvg rfl (vfld fl85f1 rfl) $ qvg rfl (vldc pl3 rfl) $ qvg rfl (vmP rfl) $ qvg rfl (vnil rfl) $ qvg rfl (vfld fl150f1 rfl) $ qvg rfl (vldc pl3 rfl) $ qvsg rfl (vgt rfl rfl) (fun q2 => ?_) (fun q2 => ?_)
   ·
    exact qv (vpkf rfl) $ qv (vmB rfl) $ qng rfl $ qng rfl $ qng rfl $ qng rfl $ qng rfl $ qng rfl $ qng rfl $ qv (vpkt rfl) $ qv (vmB rfl) $ qng rfl $ qng rfl $ qng rfl $ qng rfl $ qng rfl $ qng rfl $ qng rfl $ qv (vpkt rfl) $ qv (vmB rfl) $ qng rfl $ qng rfl $ qng rfl $ qv (vpkt rfl) $ qv (vmB rfl) $ qng rfl $ qng rfl $ qng rfl $ qv (vpkt rfl) $ qv (vmB rfl) $ qng rfl $ qng rfl $ qng rfl $ qv (vpkt rfl) $ qv (vmB rfl) $ qng rfl $ qng rfl $ qng rfl $ qv (vpkt rfl) $ WQ.nil $ xM () trivial ⟨bT (by first | (unfold prevOk; by_cases ha : m.prev = 0 <;> by_cases hb : m.index = 0 <;> simp [ha, hb] <;> omega) | omega | simp_all | grind), trivial⟩ ⟨rfl, trivial⟩ (fun _ h => h)
   ·
    refine qv (vpkf rfl) $ qv (vmB rfl) $ qvg rfl (vfld fl85f1 rfl) $ qvg rfl (vldc pl3 rfl) $ qvg rfl (vmP rfl) $ qvg rfl (vnil rfl) $ qvg rfl (vfld fl150f0 rfl) $ qvg rfl (vldc pl3 rfl) $ qvsg rfl (veq rfl rfl) (fun q3 => ?_) (fun q3 => ?_)
    ·
     exact qv (vpkf rfl) $ qv (vmB rfl) $ qng rfl $ qng rfl $ qng rfl $ qng rfl $ qng rfl $ qng rfl $ qng rfl $ qv (vpkt rfl) $ qv (vmB rfl) $ qng rfl $ qng rfl $ qng rfl $ qv (vpkt rfl) $ qv (vmB rfl) $ qng rfl $ qng rfl $ qng rfl $ qv (vpkt rfl) $ qv (vmB rfl) $ qng rfl $ qng rfl $ qng rfl $ qv (vpkt rfl) $ qv (vmB rfl) $ qng rfl $ qng rfl $ qng rfl $ qv (vpkt rfl) $ WQ.nil $ xM () trivial ⟨bT (by first | (unfold prevOk; by_cases ha : m.prev = 0 <;> by_cases hb : m.index = 0 <;> simp [ha, hb] <;> omega) | omega | simp_all | grind), trivial⟩ ⟨rfl, trivial⟩ (fun _ h => h)
    ·
     refine qv (vpkf rfl) $ qv (vmB rfl) $ qvg rfl (vfld fl85f2 rfl) $ qvg rfl (vldc pl3 rfl) $ qvg rfl (vmP rfl) $ qvg rfl (vnil rfl) $ qvg rfl (vfld fl150f0 rfl) $ qvg rfl (vldc pl3 rfl) $ qvsg rfl (vne rfl rfl) (fun q4 => ?_) (fun q4 => ?_)
     ·
      exact qv (vpkf rfl) $ qv (vmB rfl) $ qng rfl $ qng rfl $ qng rfl $ qv (vpkt rfl) $ qv (vmB rfl) $ qng rfl $ qng rfl $ qng rfl $ qv (vpkt rfl) $ qv (vmB rfl) $ qng rfl $ qng rfl $ qng rfl $ qv (vpkt rfl) $ qv (vmB rfl) $ qng rfl $ qng rfl $ qng rfl $ qv (vpkt rfl) $ WQ.nil $ xM () trivial ⟨bT (by first | (unfold prevOk; by_cases ha : m.prev = 0 <;> by_cases hb : m.index = 0 <;> simp [ha, hb] <;> omega) | omega | simp_all | grind), trivial⟩ ⟨rfl, trivial⟩ (fun _ h => h)
     ·
      refine qv (vpkf rfl) $ qv (vmB rfl) $ qvg rfl (vfld fl85f3 rfl) $ qvg rfl (vldc pl3 rfl) $ qvsg rfl (vlt rfl rfl) (fun q5 => ?_) (fun q5 => ?_)
      ·
       exact qv (vpkf rfl) $ qv (vmB rfl) $ qng rfl $ qng rfl $ qng rfl $ qv (vpkt rfl) $ qv (vmB rfl) $ qng rfl $ qng rfl $ qng rfl $ qv (vpkt rfl) $ qv (vmB rfl) $ qng rfl $ qng rfl $ qng rfl $ qv (vpkt rfl) $ WQ.nil $ xM () trivial ⟨bT (by first | (unfold prevOk; by_cases ha : m.prev = 0 <;> by_cases hb : m.index = 0 <;> simp [ha, hb] <;> omega) | omega | simp_all | grind), trivial⟩ ⟨rfl, trivial⟩ (fun _ h => h)
      ·
       refine qv (vpkf rfl) $ qv (vmB rfl) $ qvg rfl (vfld fl85f3 rfl) $ qvg rfl (vldc pl3 rfl) $ qvsg rfl (vgt rfl rfl) (fun q6 => ?_) (fun q6 => ?_)
       ·
        exact qv (vpkf rfl) $ qv (vmB rfl) $ qng rfl $ qng rfl $ qng rfl $ qv (vpkt rfl) $ qv (vmB rfl) $ qng rfl $ qng rfl $ qng rfl $ qv (vpkt rfl) $ WQ.nil $ xM () trivial ⟨bT (by first | (unfold prevOk; by_cases ha : m.prev = 0 <;> by_cases hb : m.index = 0 <;> simp [ha, hb] <;> omega) | omega | simp_all | grind), trivial⟩ ⟨rfl, trivial⟩ (fun _ h => h)
       ·
        refine qv (vpkf rfl) $ qv (vmB rfl) $ qvg rfl (vfld fl85f4 rfl) $ qvg rfl (vldc pl3 rfl) $ qvsg rfl (vlt rfl rfl) (fun q7 => ?_) (fun q7 => ?_)
        ·
         exact qv (vpkf rfl) $ qv (vmB rfl) $ qng rfl $ qng rfl $ qng rfl $ qv (vpkt rfl) $ WQ.nil $ xM () trivial ⟨bT (by first | (unfold prevOk; by_cases ha : m.prev = 0 <;> by_cases hb : m.index = 0 <;> simp [ha, hb] <;> omega) | omega | simp_all | grind), trivial⟩ ⟨rfl, trivial⟩ (fun _ h => h)
        ·
         exact qv (vpkf rfl) $ qv (vmB rfl) $ qvg rfl (vfld fl85f4 rfl) $ qvg rfl (vldc pl3 rfl) $ qvg rfl (vgt rfl rfl) $ qv (vpkf rfl) $ WQ.nil $ xM () trivial ⟨bI (by first | (unfold prevOk; by_cases ha : m.prev = 0 <;> by_cases hb : m.index = 0 <;> simp [ha, hb] <;> omega) | omega | simp_all | grind), trivial⟩ ⟨rfl, trivial⟩ (fun _ h => h)
 refine WC.ite rfl (fun h1 => ?_) (fun h1 => ?_)
 ·
  exact wS $ wR $ yB rfl $ wN $ tN $ WC.ret $ tR $ xR rfl (()) (trivial) (bF (may_no (by unfold headOk; omega))) (fun _ h => h.tail)
 ·
  have hh : headOk x m := by unfold headOk; omega
  refine WC.skip $ tN $ ?_
  refine WC.cut0 [(5, .bool (decide (prevOk m)))] [(3, .pointer _)] (cel b1 (mv m) 85 :: A) ⟨rfl, trivial⟩ ?_ fun ρh => ?_
  ·
   refine wR $ sv (vfld fl85f5 rfl) $ sv (vldc pl3 rfl) $ svs (vge rfl rfl) (fun q8 => ?_) (fun q8 => ?_)
   ·
    refine zB rfl $ svg rfl (vfld fl85f5 rfl) $ svg rfl (vldc pl3 rfl) $ svg rfl (vfld fl85f3 rfl) $ svg rfl (vldc pl3 rfl) $ svsg rfl (vle rfl rfl) (fun q9 => ?_) (fun q9 => ?_)
    ·
     exact uT rfl $ zB rfl $ svg rfl (vfld fl85f5 rfl) $ svg rfl (vldc pl3 rfl) $ svg rfl (veq rfl rfl) $ svg rfl (vfld fl85f4 rfl) $ svg rfl (vldc pl3 rfl) $ svg rfl (veq rfl rfl) $ svg rfl (veqb Tryz.underlying4 rfl rfl) $ uT rfl $ yB rfl $ wN $ xM () trivial ⟨bI (by first | (unfold prevOk; by_cases ha : m.prev = 0 <;> by_cases hb : m.index = 0 <;> simp [ha, hb] <;> omega) | omega | simp_all | grind), trivial⟩ ⟨rfl, trivial⟩ (fun _ h => h)
    ·
     exact uT rfl $ zB rfl $ sng rfl $ sng rfl $ sng rfl $ sng rfl $ sng rfl $ sng rfl $ sng rfl $ uF rfl $ yB rfl $ wN $ xM () trivial ⟨bF (by first | (unfold prevOk; by_cases ha : m.prev = 0 <;> by_cases hb : m.index = 0 <;> simp [ha, hb] <;> omega) | omega | simp_all | grind), trivial⟩ ⟨rfl, trivial⟩ (fun _ h => h)
   ·
    exact zB rfl $ sng rfl $ sng rfl $ sng rfl $ sng rfl $ sng rfl $ uF rfl $ zB rfl $ sng rfl $ sng rfl $ sng rfl $ sng rfl $ sng rfl $ sng rfl $ sng rfl $ uF rfl $ yB rfl $ wN $ xM () trivial ⟨bF (by first | (unfold prevOk; by_cases ha : m.prev = 0 <;> by_cases hb : m.index = 0 <;> simp [ha, hb] <;> omega) | omega | simp_all | grind), trivial⟩ ⟨rfl, trivial⟩ (fun _ h => h)
  refine wS $ wS $ wR $ sv (vfld fl85f0 rfl) $ sv (vldc pl3 rfl) $ wN $ tN $ WC.block $ wS $ wR $ sv (veq rfl rfl) $ yB rfl $ wN $ tN $ ?_
  refine WC.ite rfl (fun h2 => ?_) (fun h2 => ?_)
  ·
   exact wS $ wR $ zB rfl $ yB rfl $ wN $ tN $ WC.ret $ WX.blockR $ tR $ xR rfl (()) (trivial) (bI (may_ask hh h2)) (fun _ h => h.tail)
  ·
   refine wS $ wS $ wR $ sv (veq rfl rfl) $ yB rfl $ wN $ tN $ ?_
   refine WC.ite rfl (fun h3 => ?_) (fun h3 => ?_)
   ·
    refine WC.skip $ tN $ ?_
    refine WC.ite rfl (fun h4 => ?_) (fun h4 => ?_)
    ·
     exact wS $ wR $ yB rfl $ wN $ tN $ WC.ret $ WX.blockR $ tR $ xR rfl (()) (trivial) (bT (may_two hh (.inl h3))) (fun _ h => h.tail)
    ·
     exact absurd h3 h4
   ·
    refine wR $ sv (veq rfl rfl) $ yB rfl $ wN $ tN $ ?_
    refine WC.ite rfl (fun h5 => ?_) (fun h5 => ?_)
    ·
     exact wS $ wR $ yB rfl $ wN $ tN $ WC.ret $ WX.blockR $ tR $ xR rfl (()) (trivial) (bT (may_two hh (.inr h5))) (fun _ h => h.tail)
    ·
     refine wS $ wR $ sv (veq rfl rfl) $ yB rfl $ wN $ tN $ ?_
     refine WC.ite rfl (fun h6 => ?_) (fun h6 => ?_)
     ·
      refine WC.cut0 [(4, .bool (decide (prevOk m ∧ 0 ≤ m.commit ∧ m.commit ≤ 10000 ∧ (m.cs.xs.length : Int) ≤ 8 ∧ m.index + (m.cs.xs.length : Int) ≤ 10000 ∧ rises m.cs.xs m.prev m.term = true)))] [] (cel b1 (mv m) 85 :: A) trivial ?_ fun ρh => ?_
      ·
       refine wR $ svb (vmB rfl) (fun q10 => ?_) (fun q10 => ?_)
       ·
        refine zB rfl $ svg rfl (vfld fl85f6 rfl) $ svg rfl (vldc pl3 rfl) $ svsg rfl (vge rfl rfl) (fun q11 => ?_) (fun q11 => ?_)
        ·
         refine uT rfl $ zB rfl $ svg rfl (vfld fl85f6 rfl) $ svg rfl (vldc pl3 rfl) $ svsg rfl (vle rfl rfl) (fun q12 => ?_) (fun q12 => ?_)
         ·
          refine uT rfl $ zB rfl $ svg rfl (vfld fl85f8 rfl) $ svg rfl (vldc pl54 rfl) $ svg rfl (vlen Tryz.underlying54 rfl) $ svsg rfl (vle rfl rfl) (fun q13 => ?_) (fun q13 => ?_)
          ·
           refine uT rfl $ zB rfl $ svg rfl (vfld fl85f4 rfl) $ svg rfl (vldc pl3 rfl) $ svg rfl (vfld fl85f8 rfl) $ svg rfl (vldc pl54 rfl) $ svg rfl (vlen Tryz.underlying54 rfl) $ svg rfl (vadd rfl rfl (by omega)) $ svsg rfl (vle rfl rfl) (fun q14 => ?_) (fun q14 => ?_)
           ·
            exact uT rfl $ zB rfl $ svg rfl (vfld fl85f8 rfl) $ svg rfl (vldc pl54 rfl) $ svg rfl (vfld fl85f5 rfl) $ svg rfl (vldc pl3 rfl) $ svg rfl (vfld fl85f3 rfl) $ svg rfl (vldc pl3 rfl) $ gy rfl $ cl (raft_rising hml) ct74 rfl fun _ _ => uT rfl $ yB rfl $ wN $ xM () trivial ⟨bB ⟨fun h => ⟨by simp_all, by omega, by omega, by omega, by omega, h⟩, fun h => h.2.2.2.2.2⟩, trivial⟩ trivial (fun _ h => h)
           ·
            exact uT rfl $ zB rfl $ sng rfl $ sng rfl $ sng rfl $ sng rfl $ sng rfl $ sng rfl $ sng rfl $ uF rfl $ yB rfl $ wN $ xM () trivial ⟨bF (by first | (unfold prevOk; by_cases ha : m.prev = 0 <;> by_cases hb : m.index = 0 <;> simp [ha, hb] <;> omega) | omega | simp_all | grind), trivial⟩ trivial (fun _ h => h)
          ·
           exact uT rfl $ zB rfl $ sng rfl $ sng rfl $ sng rfl $ sng rfl $ sng rfl $ sng rfl $ sng rfl $ uF rfl $ zB rfl $ sng rfl $ sng rfl $ sng rfl $ sng rfl $ sng rfl $ sng rfl $ sng rfl $ uF rfl $ yB rfl $ wN $ xM () trivial ⟨bF (by first | (unfold prevOk; by_cases ha : m.prev = 0 <;> by_cases hb : m.index = 0 <;> simp [ha, hb] <;> omega) | omega | simp_all | grind), trivial⟩ trivial (fun _ h => h)
         ·
          exact uT rfl $ zB rfl $ sng rfl $ sng rfl $ sng rfl $ sng rfl $ uF rfl $ zB rfl $ sng rfl $ sng rfl $ sng rfl $ sng rfl $ sng rfl $ sng rfl $ sng rfl $ uF rfl $ zB rfl $ sng rfl $ sng rfl $ sng rfl $ sng rfl $ sng rfl $ sng rfl $ sng rfl $ uF rfl $ yB rfl $ wN $ xM () trivial ⟨bF (by first | (unfold prevOk; by_cases ha : m.prev = 0 <;> by_cases hb : m.index = 0 <;> simp [ha, hb] <;> omega) | omega | simp_all | grind), trivial⟩ trivial (fun _ h => h)
        ·
         exact uT rfl $ zB rfl $ sng rfl $ sng rfl $ sng rfl $ uF rfl $ zB rfl $ sng rfl $ sng rfl $ sng rfl $ sng rfl $ uF rfl $ zB rfl $ sng rfl $ sng rfl $ sng rfl $ sng rfl $ sng rfl $ sng rfl $ sng rfl $ uF rfl $ zB rfl $ sng rfl $ sng rfl $ sng rfl $ sng rfl $ sng rfl $ sng rfl $ sng rfl $ uF rfl $ yB rfl $ wN $ xM () trivial ⟨bF (by first | (unfold prevOk; by_cases ha : m.prev = 0 <;> by_cases hb : m.index = 0 <;> simp [ha, hb] <;> omega) | omega | simp_all | grind), trivial⟩ trivial (fun _ h => h)
       ·
        exact zB rfl $ sng rfl $ sng rfl $ sng rfl $ uF rfl $ zB rfl $ sng rfl $ sng rfl $ sng rfl $ uF rfl $ zB rfl $ sng rfl $ sng rfl $ sng rfl $ sng rfl $ uF rfl $ zB rfl $ sng rfl $ sng rfl $ sng rfl $ sng rfl $ sng rfl $ sng rfl $ sng rfl $ uF rfl $ zB rfl $ sng rfl $ sng rfl $ sng rfl $ sng rfl $ sng rfl $ sng rfl $ sng rfl $ uF rfl $ yB rfl $ wN $ xM () trivial ⟨bF (by first | (unfold prevOk; by_cases ha : m.prev = 0 <;> by_cases hb : m.index = 0 <;> simp [ha, hb] <;> omega) | omega | simp_all | grind), trivial⟩ trivial (fun _ h => h)
      exact WC.ret $ WX.blockR $ tR $ xR rfl (()) (trivial) (bI (may_three hh h6)) (fun _ h => h.tail)
     ·
      exact WC.skip $ WX.blockN $ tN $ wS $ wR $ yB rfl $ wN $ tN $ WC.ret $ xR rfl (()) (trivial) (bF (may_else h2 h3 h6 h5)) (fun _ h => h.tail)
end Go.Proofs.YtigjompojlhomaaGreat
end
section
set_option linter.unusedVariables false
set_option linter.unusedSimpArgs false
set_option maxRecDepth 4000
namespace Go.Proofs.YtigjompojlhomaaGreat
open Go.Sl Go.RowKit Go.Raft
variable {w0 : World} {A : List HProp}
theorem upd_same {f : Int → Int} {k v : Int} : upd f k v k = v := if_pos rfl
theorem upd_other {f : Int → Int} {k v j : Int} (h : j ≠ k) : upd f k v j = f j := if_neg h
theorem peers_put {w0 w : World} {nx mt nx' mt' : Int → Int} {A : List HProp} {ps : List (Int × Nat)} {j pb : Nat} {k a b : Int} (hj : ps[j]? = some (k, pb)) (hn : (ps.map Prod.fst).Nodup) (ha : nx' k = a) (hb : mt' k = b) (hc : ∀ i, i ≠ k → nx' i = nx i ∧ mt' i = mt i)
  (H : Own w0 (cel pb [.int .i64 a, .int .i64 b] 194 :: peersC nx mt (ps.eraseIdx j) :: A) w) : Own w0 (peersC nx' mt' ps :: A) w := by
 subst ha; subst hb
 exact peers_in (q := (k, pb)) hj hn hc H
theorem raft_answered_no {p : Nat} {x : Rn} {m : Mh} (h : m.term ≠ x.term ∨ x.role ≠ 2 ∨ (x.log.length : Int) < m.index) :
  Fun Tryz.prog w0 143 [.pointer (some ⟨p, 0, none⟩), .agg (mv m).toArray] (hnode p x :: A) (MR w0 p A (answeredS x m.ml)) := by
 refine Fun.ex (fun w h => hnode_open h) ?_
 rintro ⟨base, c, vv, pv⟩ hc
 dsimp only at hc ⊢
 have ht : answeredS x m.ml = (x, []) := if_pos h
 unfold MR
 rw [ht]
 refine Fun.enter Tryz.func143 rfl Tryz.ntmps143 rfl ?_
 refine wS $ wR $ bxc (v := .agg _) (cs := [.int _ _, .int _ _, .int _ _, .int _ _, .int _ _, .int _ _, .int _ _, .bool _, .slice _ _ _]) rfl rfl fun b1 => yS rfl $ wN $ tN $ wS $ ?_
 refine WC.cut0 [(29, .bool (decide (m.term ≠ x.term ∨ x.role ≠ 2 ∨ (x.log.length : Int) < m.index)))] [(0, .pointer _), (3, .pointer _)] (cel b1 (mv m) 85 :: cel p (ncells x base c vv pv) 150 :: row base c 2 89 (cvs x.log) :: extraC x vv pv :: A) ⟨rfl, rfl, trivial⟩ ?_ fun ρh => ?_
 ·
  refine WC.draws rfl (by kernel_rfl) $ qv (vfld fl85f3 rfl) $ qv (vldc pl3 rfl) $ qv (vmP rfl) $ qv (vnil rfl) $ qv (vfld fl150f2 rfl) $ qv (vldc pl3 rfl) $ qvs (vne rfl rfl) (fun q1 => ?_) (fun q1 => ?_)
  ·
   exact qv (vmB rfl) $ qng rfl $ qng rfl $ qng rfl $ qng rfl $ qng rfl $ qv (vpkt rfl) $ qv (vmB rfl) $ qng rfl $ qng rfl $ qng rfl $ qng rfl $ qng rfl $ qng rfl $ qng rfl $ qng rfl $ qv (vpkt rfl) $ WQ.nil $ xM () trivial ⟨bTa, trivial⟩ ⟨rfl, rfl, trivial⟩ (fun _ h => h)
  ·
   refine qv (vmB rfl) $ qvg rfl (vmP rfl) $ qvg rfl (vnil rfl) $ qvg rfl (vfld fl150f5 rfl) $ qvg rfl (vldc pl3 rfl) $ qvsg rfl (vne rfl rfl) (fun q2 => ?_) (fun q2 => ?_)
   ·
    exact qv (vpkf rfl) $ qv (vmB rfl) $ qng rfl $ qng rfl $ qng rfl $ qng rfl $ qng rfl $ qng rfl $ qng rfl $ qng rfl $ qv (vpkt rfl) $ WQ.nil $ xM () trivial ⟨bTa, trivial⟩ ⟨rfl, rfl, trivial⟩ (fun _ h => h)
   ·
    exact qv (vpkf rfl) $ qv (vmB rfl) $ qvg rfl (vfld fl85f4 rfl) $ qvg rfl (vldc pl3 rfl) $ qvg rfl (vmP rfl) $ qvg rfl (vnil rfl) $ qvg rfl (vfld fl150f4 rfl) $ qvg rfl (vldc pl54 rfl) $ qvg rfl (vlen Tryz.underlying54 rfl) $ qvg rfl (vgt rfl rfl) $ qv (vpkf rfl) $ WQ.nil $ xM () trivial ⟨bIa, trivial⟩ ⟨rfl, rfl, trivial⟩ (fun _ h => h)
 refine WC.ite rfl (fun h1 => ?_) (fun h1 => ?_)
 ·
  exact wS $ wR $ yS rfl $ wN $ tN $ WC.ret $ tR $ xR rfl ((none, 0, [])) (⟨rfl, Nat.le_refl _⟩) rfl (fun w h => no_mails (hnode_mk hc h.tail))
 ·
  exact absurd h h1
structure AI where
 base : Option Addr
 c : Nat
 vv : Value
 m : Nat
 ps : List (Int × Nat)
 j : Nat
 pb : Nat
theorem ans_open {w0 w : World} {A : List HProp} {p : Nat} {x : Rn} {k : Int} (hr : x.role = 2) (hk : k ∈ others x) (H : Own w0 (hnode p x :: A) w) :
  ∃ i : AI, (x.log.length ≤ i.c ∧ i.ps.map Prod.fst = others x ∧ i.ps[i.j]? = some (k, i.pb)) ∧ Own w0 (cel i.pb [.int .i64 (x.nx k), .int .i64 (x.mt k)] 194 :: cel p (ncells x i.base i.c i.vv (.map (some i.m))) 150 :: row i.base i.c 2 89 (cvs x.log) :: mp (.int .i64) i.m (pents i.ps) :: peersC x.nx x.mt (i.ps.eraseIdx i.j) :: A) w := by
 obtain ⟨⟨base, c, vv, m, ps⟩, ⟨hc, hps⟩, h1⟩ := hnode_open2 hr H
 obtain ⟨j, pb, hj⟩ := peer_at hps hk
 exact ⟨⟨base, c, vv, m, ps, j, pb⟩, ⟨hc, hps, hj⟩, (peers_out hj h1.pk3).ix [0, 2, 3, 4, 1]⟩
def badY (x : Rn) (m : Mh) : Rn := { x with nx := upd x.nx m.fr (max (x.mt m.fr + 1) (min (m.index + 1) (x.nx m.fr - 1))) }
def okY (x : Rn) (m : Mh) : Rn := { x with mt := upd x.mt m.fr (max (x.mt m.fr) m.index), nx := upd x.nx m.fr (max (x.mt m.fr) m.index + 1) }
theorem ans_bad {x : Rn} {m : Mh} (h : ¬ (m.term ≠ x.term ∨ x.role ≠ 2 ∨ (x.log.length : Int) < m.index)) (ho : m.ok = false) : answeredS x m.ml = (badY x m, [feedM (badY x m) m.fr]) := by
 exact (if_neg (show ¬ (m.ml.term ≠ x.term ∨ x.role ≠ 2 ∨ (x.log.length : Int) < m.ml.index) from h)).trans (if_pos (show m.ml.ok = false from ho))
theorem ans_ok {x : Rn} {m : Mh} (h : ¬ (m.term ≠ x.term ∨ x.role ≠ 2 ∨ (x.log.length : Int) < m.index)) (ho : ¬ m.ok = false) : answeredS x m.ml = if (x.log.length : Int) < max (x.mt m.fr) m.index + 1 then (countS (okY x m), []) else (countS (okY x m), [feedM (countS (okY x m)) m.fr]) := by
 exact (if_neg (show ¬ (m.ml.term ≠ x.term ∨ x.role ≠ 2 ∨ (x.log.length : Int) < m.ml.index) from h)).trans (if_neg (show ¬ m.ml.ok = false from ho))
theorem raft_answered_bad {p : Nat} {x : Rn} {m : Mh} (hx : RInv x) (hko : m.fr ∈ others x) (h : ¬ (m.term ≠ x.term ∨ x.role ≠ 2 ∨ (x.log.length : Int) < m.index)) (hi : 0 ≤ m.index) (ho : m.ok = false) :
  Fun Tryz.prog w0 143 [.pointer (some ⟨p, 0, none⟩), .agg (mv m).toArray] (hnode p x :: A) (MR w0 p A (answeredS x m.ml)) := by
 have hr : x.role = 2 := by omega
 refine Fun.ex (fun w h => ans_open hr hko h) ?_
 rintro ⟨base, c, vv, mm, ps, j, pb⟩ ⟨hc, hps, hj⟩
 dsimp only at hc hps hj ⊢
 have hl := hx.log
 have hpe := hx.peers hr m.fr
 have hnd : (ps.map Prod.fst).Nodup := by rw [hps]; exact oth_nodup
 unfold MR
 rw [ans_bad h ho]
 refine Fun.enter Tryz.func143 rfl Tryz.ntmps143 rfl ?_
 refine wS $ wR $ bxc (v := .agg _) (cs := [.int _ _, .int _ _, .int _ _, .int _ _, .int _ _, .int _ _, .int _ _, .bool _, .slice _ _ _]) rfl rfl fun b1 => yS rfl $ wN $ tN $ wS $ ?_
 refine WC.cut0 [(29, .bool (decide (m.term ≠ x.term ∨ x.role ≠ 2 ∨ (x.log.length : Int) < m.index)))] [(0, .pointer _), (3, .pointer _)] (cel b1 (mv m) 85 :: cel pb [.int .i64 (x.nx m.fr), .int .i64 (x.mt m.fr)] 194 :: cel p (ncells x base c vv (.map (some mm))) 150 :: row base c 2 89 (cvs x.log) :: mp (.int .i64) mm (pents ps) :: peersC x.nx x.mt (ps.eraseIdx j) :: A) ⟨rfl, rfl, trivial⟩ ?_ fun ρh => ?_
 ·
  refine WC.draws rfl (by kernel_rfl) $ qv (vfld fl85f3 rfl) $ qv (vldc pl3 rfl) $ qv (vmP rfl) $ qv (vnil rfl) $ qv (vfld fl150f2 rfl) $ qv (vldc pl3 rfl) $ qvs (vne rfl rfl) (fun q1 => ?_) (fun q1 => ?_)
  ·
   exact qv (vmB rfl) $ qng rfl $ qng rfl $ qng rfl $ qng rfl $ qng rfl $ qv (vpkt rfl) $ qv (vmB rfl) $ qng rfl $ qng rfl $ qng rfl $ qng rfl $ qng rfl $ qng rfl $ qng rfl $ qng rfl $ qv (vpkt rfl) $ WQ.nil $ xM () trivial ⟨bTa, trivial⟩ ⟨rfl, rfl, trivial⟩ (fun _ h => h)
  ·
   refine qv (vmB rfl) $ qvg rfl (vmP rfl) $ qvg rfl (vnil rfl) $ qvg rfl (vfld fl150f5 rfl) $ qvg rfl (vldc pl3 rfl) $ qvsg rfl (vne rfl rfl) (fun q2 => ?_) (fun q2 => ?_)
   ·
    exact qv (vpkf rfl) $ qv (vmB rfl) $ qng rfl $ qng rfl $ qng rfl $ qng rfl $ qng rfl $ qng rfl $ qng rfl $ qng rfl $ qv (vpkt rfl) $ WQ.nil $ xM () trivial ⟨bTa, trivial⟩ ⟨rfl, rfl, trivial⟩ (fun _ h => h)
   ·
    exact qv (vpkf rfl) $ qv (vmB rfl) $ qvg rfl (vfld fl85f4 rfl) $ qvg rfl (vldc pl3 rfl) $ qvg rfl (vmP rfl) $ qvg rfl (vnil rfl) $ qvg rfl (vfld fl150f4 rfl) $ qvg rfl (vldc pl54 rfl) $ qvg rfl (vlen Tryz.underlying54 rfl) $ qvg rfl (vgt rfl rfl) $ qv (vpkf rfl) $ WQ.nil $ xM () trivial ⟨bIa, trivial⟩ ⟨rfl, rfl, trivial⟩ (fun _ h => h)
 refine WC.ite rfl (fun h1 => ?_) (fun h1 => ?_)
 ·
  exact absurd h1 h
 ·
  refine WC.skip $ tN $ wS $ WC.draws rfl (by kernel_rfl) $ qv (vmP rfl) $ qv (vnil rfl) $ qv (vfld fl150f11 rfl) $ qv (vldc pl148 rfl) $ qv (vfld fl85f1 rfl) $ qv (vldc pl3 rfl) $ qv (vlk Tryz.underlying148 Tryz.underlying3 rfl rfl rfl (pents_at hj)) $ qv (vaP rfl) $ WQ.nil $ tN $ wS $ wS $ wR $ sv (vfld fl85f7 rfl) $ sv (vldc pl4 rfl) $ sv (vnot rfl) $ wN $ tN $ ?_
  refine WC.iteb rfl (fun h2 => ?_) (fun h2 => ?_)
  ·
   exact wS $ WC.plan (.bar [0, 1, 2, 3, 4, 5, 6, 7, 8, 9, 10, 11, 12, 13, 14, 15, 16, 17] 18 (.done [])) rfl (by kernel_rfl) $ WPl.bar (trivial) $ dv (fun g => (vmP rfl)) $ dv (fun g => (vmP rfl)) $ dv (fun g => (vnil rfl)) $ dv (fun g => (vfld fl194f1 rfl)) $ dv (fun g => (vldc pl3 rfl)) $ dv (fun g => (vadd rfl rfl (by omega))) $ dv (fun g => (vfld fl85f4 rfl)) $ dv (fun g => (vldc pl3 rfl)) $ dv (fun g => (vadd rfl rfl (by omega))) $ dv (fun g => (vmP rfl)) $ dv (fun g => (vnil rfl)) $ dv (fun g => (vfld fl194f0 rfl)) $ dv (fun g => (vldc pl3 rfl)) $ dv (fun g => (vsub rfl rfl (by omega))) $ dv (fun g => (vmin rfl rfl)) $ dv (fun g => (vmax rfl rfl)) $ dv (fun g => (vnil rfl)) $ dv (fun g => (vfld fl194f0 rfl)) $ WD.eff rfl $ pm (fun _ h => h.pk1) $ stc (v := .int _ _) pl3 sz3 rfl rfl rfl $ wN $ WX.brT $ WPl.fin (trivial) $ WD.nil $ tN $ wS $ wR $ zP rfl $ sv (vfld fl85f1 rfl) $ sv (vldc pl3 rfl) $ pm (fun _ h => (peers_put (nx' := (badY x m).nx) (mt' := (badY x m).mt) hj hnd upd_same rfl (fun i hi => ⟨upd_other hi, rfl⟩) h.pk5.pk1).pk4.pk4.pk4) $ cl (raft_feed (x := badY x m) (q := (m.fr, pb)) hl hc (by show 1 ≤ upd _ _ _ _ ∧ upd _ _ _ _ ≤ (x.log.length : Int) + 1; rw [upd_same]; omega) hj) ct135 rfl fun i21 hi21 => bslA (v := .agg _) (cs := mv (feedH (badY x m) m.fr i21)) Tryz.underlying41 zt85 rfl rfl rfl (by decide) (by decide) fun b22 =>yS rfl $ wN $ tN $ WC.ret $ tR $ xR rfl ((some ⟨b22, 0, none⟩, 1, [feedH (badY x m) m.fr i21])) (⟨rfl, Nat.le_refl _⟩) rfl (fun w h => ((hnode_mk2 (x := badY x m) hr hc hps ((one_mail h).ix [2, 3, 4, 5, 0, 1])).ix [3, 1, 2, 0]).tail)
  ·
   exact absurd h2 (by rw [ho]; decide)
theorem raft_answered_ok {p : Nat} {x : Rn} {m : Mh} (hx : RInv x) (hko : m.fr ∈ others x) (h : ¬ (m.term ≠ x.term ∨ x.role ≠ 2 ∨ (x.log.length : Int) < m.index)) (hi : 0 ≤ m.index) (ho : ¬ m.ok = false) :
  Fun Tryz.prog w0 143 [.pointer (some ⟨p, 0, none⟩), .agg (mv m).toArray] (hnode p x :: A) (MR w0 p A (answeredS x m.ml)) := by
 have hr : x.role = 2 := by omega
 refine Fun.ex (fun w h => ans_open hr hko h) ?_
 rintro ⟨base, c, vv, mm, ps, j, pb⟩ ⟨hc, hps, hj⟩
 dsimp only at hc hps hj ⊢
 have hl := hx.log
 have hn := hx.n
 have hcm := hx.commit
 have hpe := hx.peers hr m.fr
 have hnd : (ps.map Prod.fst).Nodup := by rw [hps]; exact oth_nodup
 have hnx : (okY x m).nx m.fr = max (x.mt m.fr) m.index + 1 := upd_same
 unfold MR
 rw [ans_ok h ho]
 refine Fun.enter Tryz.func143 rfl Tryz.ntmps143 rfl ?_
 refine wS $ wR $ bxc (v := .agg _) (cs := [.int _ _, .int _ _, .int _ _, .int _ _, .int _ _, .int _ _, .int _ _, .bool _, .slice _ _ _]) rfl rfl fun b1 => yS rfl $ wN $ tN $ wS $ ?_
 refine WC.cut0 [(29, .bool (decide (m.term ≠ x.term ∨ x.role ≠ 2 ∨ (x.log.length : Int) < m.index)))] [(0, .pointer _), (3, .pointer _)] (cel b1 (mv m) 85 :: cel pb [.int .i64 (x.nx m.fr), .int .i64 (x.mt m.fr)] 194 :: cel p (ncells x base c vv (.map (some mm))) 150 :: row base c 2 89 (cvs x.log) :: mp (.int .i64) mm (pents ps) :: peersC x.nx x.mt (ps.eraseIdx j) :: A) ⟨rfl, rfl, trivial⟩ ?_ fun ρh => ?_
 ·
  refine WC.draws rfl (by kernel_rfl) $ qv (vfld fl85f3 rfl) $ qv (vldc pl3 rfl) $ qv (vmP rfl) $ qv (vnil rfl) $ qv (vfld fl150f2 rfl) $ qv (vldc pl3 rfl) $ qvs (vne rfl rfl) (fun q1 => ?_) (fun q1 => ?_)
  ·
   exact qv (vmB rfl) $ qng rfl $ qng rfl $ qng rfl $ qng rfl $ qng rfl $ qv (vpkt rfl) $ qv (vmB rfl) $ qng rfl $ qng rfl $ qng rfl $ qng rfl $ qng rfl $ qng rfl $ qng rfl $ qng rfl $ qv (vpkt rfl) $ WQ.nil $ xM () trivial ⟨bTa, trivial⟩ ⟨rfl, rfl, trivial⟩ (fun _ h => h)
  ·
   refine qv (vmB rfl) $ qvg rfl (vmP rfl) $ qvg rfl (vnil rfl) $ qvg rfl (vfld fl150f5 rfl) $ qvg rfl (vldc pl3 rfl) $ qvsg rfl (vne rfl rfl) (fun q2 => ?_) (fun q2 => ?_)
   ·
    exact qv (vpkf rfl) $ qv (vmB rfl) $ qng rfl $ qng rfl $ qng rfl $ qng rfl $ qng rfl $ qng rfl $ qng rfl $ qng rfl $ qv (vpkt rfl) $ WQ.nil $ xM () trivial ⟨bTa, trivial⟩ ⟨rfl, rfl, trivial⟩ (fun _ h => h)
   ·
    exact qv (vpkf rfl) $ qv (vmB rfl) $ qvg rfl (vfld fl85f4 rfl) $ qvg rfl (vldc pl3 rfl) $ qvg rfl (vmP rfl) $ qvg rfl (vnil rfl) $ qvg rfl (vfld fl150f4 rfl) $ qvg rfl (vldc pl54 rfl) $ qvg rfl (vlen Tryz.underlying54 rfl) $ qvg rfl (vgt rfl rfl) $ qv (vpkf rfl) $ WQ.nil $ xM () trivial ⟨bIa, trivial⟩ ⟨rfl, rfl, trivial⟩ (fun _ h => h)
 refine WC.ite rfl (fun h1 => ?_) (fun h1 => ?_)
 ·
  exact absurd h1 h
 ·
  refine WC.skip $ tN $ wS $ WC.draws rfl (by kernel_rfl) $ qv (vmP rfl) $ qv (vnil rfl) $ qv (vfld fl150f11 rfl) $ qv (vldc pl148 rfl) $ qv (vfld fl85f1 rfl) $ qv (vldc pl3 rfl) $ qv (vlk Tryz.underlying148 Tryz.underlying3 rfl rfl rfl (pents_at hj)) $ qv (vaP rfl) $ WQ.nil $ tN $ wS $ wS $ wR $ sv (vfld fl85f7 rfl) $ sv (vldc pl4 rfl) $ sv (vnot rfl) $ wN $ tN $ ?_
  refine WC.iteb rfl (fun h2 => ?_) (fun h2 => ?_)
  ·
   exact absurd (by simpa using h2) ho
  ·
   refine WC.skip $ tN $ wS $ WC.plan (.bar [0, 1, 2, 3, 4, 5, 6, 7, 8, 9] 10 (.done [])) rfl (by kernel_rfl) $ WPl.bar (trivial) $ dv (fun g => (vmP rfl)) $ dv (fun g => (vmP rfl)) $ dv (fun g => (vnil rfl)) $ dv (fun g => (vfld fl194f1 rfl)) $ dv (fun g => (vldc pl3 rfl)) $ dv (fun g => (vfld fl85f4 rfl)) $ dv (fun g => (vldc pl3 rfl)) $ dv (fun g => (vmax rfl rfl)) $ dv (fun g => (vnil rfl)) $ dv (fun g => (vfld fl194f1 rfl)) $ WD.eff rfl $ pm (fun _ h => h.pk1) $ stc (v := .int _ _) pl3 sz3 rfl rfl rfl $ wN $ WX.brT $ WPl.fin (trivial) $ WD.nil $ tN $ wS $ wR $ zP rfl $ zP rfl $ uN rfl $ sv (vfld fl194f1 rfl) $ sv (vldc pl3 rfl) $ sv (vadd rfl rfl (by omega)) $ uN rfl $ sv (vfld fl194f0 rfl) $ stc (v := .int _ _) pl3 sz3 rfl rfl rfl $ wN $ tN $ wS $ wR $ zP rfl $ pm (fun _ h => (peers_put (nx' := (okY x m).nx) (mt' := (okY x m).mt) hj hnd upd_same upd_same (fun i hi => ⟨upd_other hi, upd_other hi⟩) h.pk5.pk1).pk4.pk4.pk4) $ cl (raft_count (x := okY x m) ⟨by show 0 ≤ x.n; omega, by show x.n ≤ 5; omega⟩ hl hcm.1 hps) ct127 rfl fun _ _ => wN $ tN $ wS $ wS $ WC.draws rfl (by kernel_rfl) $ qv (vmP rfl) $ qv (vnil rfl) $ qv (vfld fl194f0 rfl) $ qv (vld pl3 rfl (CellC.of_peers (nx := (okY x m).nx) (mt := (okY x m).mt) (ps := ps) (v := .int .i64 (max (x.mt m.fr) m.index + 1)) (by simp) hj (by rw [← hnx]; rfl))) $ qv (vmP rfl) $ qv (vnil rfl) $ qv (vfld fl150f4 rfl) $ qv (vldc pl54 rfl) $ qv (vlen Tryz.underlying54 rfl) $ qv (vgt rfl rfl) $ WQ.nil $ tN $ ?_
   refine WC.ite rfl (fun h3 => ?_) (fun h3 => ?_)
   ·
    rw [if_pos (by have h4 : (x.log.length : Int) < max (x.mt m.fr) m.index + 1 := h3; exact h4)]
    exact wS $ wR $ yS rfl $ wN $ tN $ WC.ret $ tR $ xR rfl ((none, 0, [])) (⟨rfl, Nat.le_refl _⟩) rfl (fun w h => no_mails (((hnode_mk2 (x := countS (okY x m)) hr hc hps h).pk1).tail))
   ·
    rw [if_neg (by have h4 : ¬ (x.log.length : Int) < max (x.mt m.fr) m.index + 1 := h3; exact h4)]
    exact WC.skip $ tN $ wS $ wR $ zP rfl $ sv (vfld fl85f1 rfl) $ sv (vldc pl3 rfl) $ cl (raft_feed (x := countS (okY x m)) (q := (m.fr, pb)) hl hc (by show 1 ≤ (okY x m).nx m.fr ∧ (okY x m).nx m.fr ≤ (x.log.length : Int) + 1; rw [hnx]; omega) hj) ct135 rfl fun i34 hi34 => bslA (v := .agg _) (cs := mv (feedH (countS (okY x m)) m.fr i34)) Tryz.underlying41 zt85 rfl rfl rfl (by decide) (by decide) fun b35 =>yS rfl $ wN $ tN $ WC.ret $ xR rfl ((some ⟨b35, 0, none⟩, 1, [feedH (countS (okY x m)) m.fr i34])) (⟨rfl, Nat.le_refl _⟩) rfl (fun w h => ((hnode_mk2 (x := countS (okY x m)) hr hc hps ((one_mail h).ix [2, 3, 4, 5, 0, 1])).ix [3, 1, 2, 0]).tail)
theorem raft_answered {p : Nat} {x : Rn} {m : Mh} (hx : RInv x) (hko : m.fr ∈ others x) (hi : 0 ≤ m.index) :
  Fun Tryz.prog w0 143 [.pointer (some ⟨p, 0, none⟩), .agg (mv m).toArray] (hnode p x :: A) (MR w0 p A (answeredS x m.ml)) := by
 by_cases h : m.term ≠ x.term ∨ x.role ≠ 2 ∨ (x.log.length : Int) < m.index
 ·exact raft_answered_no h
 ·by_cases ho : m.ok = false
  ·exact raft_answered_bad hx hko h hi ho
  ·exact raft_answered_ok hx hko h hi ho
theorem iv' {b : Option Addr} {k l c : Nat} (h : k = l) : Value.slice b k c = .slice b l c := by rw [h]
theorem step_id {x : Rn} {m : Ml} : (stepS m x).id = x.id ∧ (stepS m x).n = x.n := by unfold stepS; split <;> exact ⟨rfl, rfl⟩
theorem step_others {x : Rn} {m : Ml} : others (stepS m x) = others x := by unfold others; rw [step_id.1, step_id.2]
theorem mail_kind {id n : Int} {m : Ml} (h : mailOk id n m) : m.kind = 1 ∨ m.kind = 2 ∨ m.kind = 3 ∨ m.kind = 4 := by
 rcases h.2 with h | h | ⟨h | h, _⟩
 ·exact .inr (.inl h)
 ·exact .inr (.inr (.inr h))
 ·exact .inl h
 ·exact .inr (.inr (.inl h))
theorem mail_oth {x : Rn} {m : Ml} (hx : RInv x) (hm : mailOk x.id x.n m) : m.fr ∈ others x := oth_mem.2 ⟨hm.1.1, by have h1 := hx.n; have h2 := hm.1.2.1; omega, hm.1.2.2.1⟩
theorem raft_take {p : Nat} {x : Rn} {m : Mh} (hx : RInv x) (hml : m.cs.xs.length ≤ 9223372036854775807) (hcc : m.cs.xs.length ≤ m.cs.cap) [hR : Reads w0 A m.cs.base (cvs m.cs.xs)] :
  Fun Tryz.prog w0 138 [.pointer (some ⟨p, 0, none⟩), .agg (mv m).toArray] (hnode p x :: A) (MR w0 p A (takeS x m.ml)) := by
 refine Fun.ex (fun w h => hnode_open h) ?_
 rintro ⟨base, c, vv, pv⟩ hc
 dsimp only at hc ⊢
 unfold MR
 refine Fun.enter Tryz.func138 rfl Tryz.ntmps138 rfl ?_
 refine wS $ wR $ bxc (v := .agg _) (cs := [.int _ _, .int _ _, .int _ _, .int _ _, .int _ _, .int _ _, .int _ _, .bool _, .slice _ _ _]) rfl rfl fun b1 => yS rfl $ wN $ tN $ wS $ ?_
 refine WC.cut0 [(13, .bool (decide (¬ mailOk x.id x.n m.ml)))] [(0, .pointer _), (3, .pointer _)] (cel b1 (mv m) 85 :: cel p (ncells x base c vv pv) 150 :: row base c 2 89 (cvs x.log) :: extraC x vv pv :: A) ⟨rfl, rfl, trivial⟩ ?_ fun ρh => ?_
 ·
  refine wR $ zP rfl $ sv (vpeqF Tryz.underlying47 rfl rfl) $ zB rfl $ svg rfl (vmP rfl) $ svg rfl (vldac ag85 sz85 rfl rfl (by decide)) $ gy rfl $ clxo (raft_may (x := x) (base := base) (c := c) (vv := vv) (pv := pv) hml) ct139 rfl fun _ _ => ?_
  exact svg rfl (vnot rfl) $ uF rfl $ wN $ xM () trivial ⟨bB (by simp), trivial⟩ ⟨rfl, rfl, trivial⟩ ow
 refine WC.ite rfl (fun h1 => ?_) (fun h1 => ?_)
 ·
  rw [show takeS x m.ml = (x, []) from if_neg h1]
  exact wS $ wR $ yS rfl $ wN $ tN $ WC.ret $ tR $ xR rfl ((none, 0, [])) (⟨rfl, Nat.le_refl _⟩) rfl (fun w h => no_mails (hnode_mk hc (Sb.o h)))
 ·
  have hm : mailOk x.id x.n m.ml := Decidable.not_not.1 h1
  have hx2 := RInv.step hx hm
  have hm2 : mailOk (stepS m.ml x).id (stepS m.ml x).n m.ml := by rw [step_id.1, step_id.2]; exact hm
  have ht : takeS x m.ml = _ := if_pos hm
  refine WC.skip $ tN $ ?_
  refine WC.cutv (ι := Unit) (fun i => []) [(0, .pointer _), (3, .pointer _)] (fun i => cel b1 (mv m) 85 :: hnode p (stepS m.ml x) :: A) (fun i => True) ⟨rfl, rfl, trivial⟩ ?_ ?_
  ·
   refine wS $ WC.draws rfl (by kernel_rfl) $ qv (vfldp fl85f3 rfl) $ qv (vldc pl3 rfl) $ qv (vmP rfl) $ qv (vnil rfl) $ qv (vfldp fl150f2 rfl) $ qv (vldc pl3 rfl) $ qv (vgt rfl rfl) $ WQ.nil $ tN $ ?_
   refine WC.ite rfl (fun h2 => ?_) (fun h2 => ?_)
   ·
    exact wR $ zP rfl $ zP rfl $ zP rfl $ zP rfl $ sv (vfldp fl85f3 rfl) $ sv (vldc pl3 rfl) $ uN rfl $ sv (vfldp fl150f2 rfl) $ stp (v := .int _ _) pl3 sz3 rfl rfl rfl $ uN rfl $ sv (vfldp fl150f3 rfl) $ stp (v := .int _ _) pl3 sz3 rfl rfl rfl $ uN rfl $ sv (vfldp fl150f5 rfl) $ stp (v := .int _ _) pl3 sz3 rfl rfl rfl $ uN rfl $ sv (vfldp fl150f6 rfl) $ stp (v := .int _ _) pl3 sz3 rfl rfl rfl $ wN $ xM (()) (trivial) trivial ⟨rfl, rfl, trivial⟩ (fun w h => (hnode_mk0 (x := stepS m.ml x) (by unfold stepS; rw [if_pos (by exact h2)]; show ¬ (0 : Int) = 1; decide) (by unfold stepS; rw [if_pos (by exact h2)]; show ¬ (0 : Int) = 2; decide) (by unfold stepS; rw [if_pos (by exact h2)]; exact hc) (by unfold stepS; rw [if_pos (by exact h2)]; exact Sb.o h)).pk1)
   ·
    exact WC.skip $ xM (()) (trivial) trivial ⟨rfl, rfl, trivial⟩ (fun w h => (hnode_mk (x := stepS m.ml x) (by unfold stepS; rw [if_neg (by exact h2)]; exact hc) (by unfold stepS; rw [if_neg (by exact h2)]; exact Sb.o h)).pk1)
  ·
   intro _ _ ρh
   rcases mail_kind hm with hk | hk | hk | hk
   ·
    rw [show takeS x m.ml = askedS (stepS m.ml x) m.ml from ht.trans (if_pos hk)]
    refine wS $ wR $ mkm (.int .i64) fun b12 => insp (k := (.int .i64 1)) (v := _) Tryz.underlying199 Tryz.underlying3 rfl rfl rfl rfl (.new (by simp)) ?_
    refine insp (k := (.int .i64 2)) (v := _) Tryz.underlying199 Tryz.underlying3 rfl rfl rfl rfl (.new (by simp)) ?_
    refine insp (k := (.int .i64 3)) (v := _) Tryz.underlying199 Tryz.underlying3 rfl rfl rfl rfl (.new (by simp)) ?_
    refine insp (k := (.int .i64 4)) (v := _) Tryz.underlying199 Tryz.underlying3 rfl rfl rfl rfl (.new (by simp)) ?_
    refine sv (vmM rfl) $ sv (vaM rfl) $ wN $ tN $ wS $ wR $ sv (vmM rfl) $ sv (vfldpz fl85f0 rfl) $ sv (vldc pl3 rfl) $ sv (vlk Tryz.underlying199 Tryz.underlying3 rfl rfl rfl (j := 0) (by rw [show m.kind = 1 from hk]; rfl)) $ zP rfl $ sv (vldac ag85 sz85 rfl rfl (by decide)) $ clvxz (by repeat' (first | with_reducible exact Sb.all | exact Sb.nil | (apply Sb.cons; focus (first | ((repeat (first | with_reducible exact Tk.here | with_reducible apply Tk.there)); done) | ((repeat (first | exact Tk.here | apply Tk.there)); done))) | apply Sb.drop)) (raft_asked hx2) ct140 rfl rfl fun r20 hr20 => ?_
    exact yS rfl $ wN $ tN $ WC.ret $ xR rfl (r20) (hr20) rfl ow
   ·
    rw [show takeS x m.ml = votesS (stepS m.ml x) m.ml from ht.trans ((if_neg (by omega)).trans (if_pos hk))]
    refine wS $ wR $ mkm (.int .i64) fun b12 => insp (k := (.int .i64 1)) (v := _) Tryz.underlying199 Tryz.underlying3 rfl rfl rfl rfl (.new (by simp)) ?_
    refine insp (k := (.int .i64 2)) (v := _) Tryz.underlying199 Tryz.underlying3 rfl rfl rfl rfl (.new (by simp)) ?_
    refine insp (k := (.int .i64 3)) (v := _) Tryz.underlying199 Tryz.underlying3 rfl rfl rfl rfl (.new (by simp)) ?_
    refine insp (k := (.int .i64 4)) (v := _) Tryz.underlying199 Tryz.underlying3 rfl rfl rfl rfl (.new (by simp)) ?_
    refine sv (vmM rfl) $ sv (vaM rfl) $ wN $ tN $ wS $ wR $ sv (vmM rfl) $ sv (vfldpz fl85f0 rfl) $ sv (vldc pl3 rfl) $ sv (vlk Tryz.underlying199 Tryz.underlying3 rfl rfl rfl (j := 1) (by rw [show m.kind = 2 from hk]; rfl)) $ zP rfl $ sv (vldac ag85 sz85 rfl rfl (by decide)) $ clvxz (by repeat' (first | with_reducible exact Sb.all | exact Sb.nil | (apply Sb.cons; focus (first | ((repeat (first | with_reducible exact Tk.here | with_reducible apply Tk.there)); done) | ((repeat (first | exact Tk.here | apply Tk.there)); done))) | apply Sb.drop)) (raft_votes hx2) ct141 rfl rfl fun r20 hr20 => ?_
    exact yS rfl $ wN $ tN $ WC.ret $ xR rfl (r20) (hr20) rfl ow
   ·
    rw [show takeS x m.ml = fedS (stepS m.ml x) m.ml from ht.trans ((if_neg (by omega)).trans ((if_neg (by omega)).trans (if_pos hk)))]
    refine wS $ wR $ mkm (.int .i64) fun b12 => insp (k := (.int .i64 1)) (v := _) Tryz.underlying199 Tryz.underlying3 rfl rfl rfl rfl (.new (by simp)) ?_
    refine insp (k := (.int .i64 2)) (v := _) Tryz.underlying199 Tryz.underlying3 rfl rfl rfl rfl (.new (by simp)) ?_
    refine insp (k := (.int .i64 3)) (v := _) Tryz.underlying199 Tryz.underlying3 rfl rfl rfl rfl (.new (by simp)) ?_
    refine insp (k := (.int .i64 4)) (v := _) Tryz.underlying199 Tryz.underlying3 rfl rfl rfl rfl (.new (by simp)) ?_
    refine sv (vmM rfl) $ sv (vaM rfl) $ wN $ tN $ wS $ wR $ sv (vmM rfl) $ sv (vfldpz fl85f0 rfl) $ sv (vldc pl3 rfl) $ sv (vlk Tryz.underlying199 Tryz.underlying3 rfl rfl rfl (j := 2) (by rw [show m.kind = 3 from hk]; rfl)) $ zP rfl $ sv (vldac ag85 sz85 rfl rfl (by decide)) $ clvxz (by repeat' (first | with_reducible exact Sb.all | exact Sb.nil | (apply Sb.cons; focus (first | ((repeat (first | with_reducible exact Tk.here | with_reducible apply Tk.there)); done) | ((repeat (first | exact Tk.here | apply Tk.there)); done))) | apply Sb.drop)) (raft_fed hx2 hm2 hk hcc) ct142 rfl rfl fun r20 hr20 => ?_
    exact yS rfl $ wN $ tN $ WC.ret $ xR rfl (r20) (hr20) rfl ow
   ·
    rw [show takeS x m.ml = answeredS (stepS m.ml x) m.ml from ht.trans ((if_neg (by omega)).trans ((if_neg (by omega)).trans (if_neg (by omega))))]
    refine wS $ wR $ mkm (.int .i64) fun b12 => insp (k := (.int .i64 1)) (v := _) Tryz.underlying199 Tryz.underlying3 rfl rfl rfl rfl (.new (by simp)) ?_
    refine insp (k := (.int .i64 2)) (v := _) Tryz.underlying199 Tryz.underlying3 rfl rfl rfl rfl (.new (by simp)) ?_
    refine insp (k := (.int .i64 3)) (v := _) Tryz.underlying199 Tryz.underlying3 rfl rfl rfl rfl (.new (by simp)) ?_
    refine insp (k := (.int .i64 4)) (v := _) Tryz.underlying199 Tryz.underlying3 rfl rfl rfl rfl (.new (by simp)) ?_
    refine sv (vmM rfl) $ sv (vaM rfl) $ wN $ tN $ wS $ wR $ sv (vmM rfl) $ sv (vfldpz fl85f0 rfl) $ sv (vldc pl3 rfl) $ sv (vlk Tryz.underlying199 Tryz.underlying3 rfl rfl rfl (j := 3) (by rw [show m.kind = 4 from hk]; rfl)) $ zP rfl $ sv (vldac ag85 sz85 rfl rfl (by decide)) $ clvxz (by repeat' (first | with_reducible exact Sb.all | exact Sb.nil | (apply Sb.cons; focus (first | ((repeat (first | with_reducible exact Tk.here | with_reducible apply Tk.there)); done) | ((repeat (first | exact Tk.here | apply Tk.there)); done))) | apply Sb.drop)) (raft_answered hx2 (by rw [step_others]; exact mail_oth hx hm) hm.1.2.2.2.2.2.2.1) ct143 rfl rfl fun r20 hr20 => ?_
    exact yS rfl $ wN $ tN $ WC.ret $ xR rfl (r20) (hr20) rfl ow
end Go.Proofs.YtigjompojlhomaaGreat
end
section
set_option linter.unusedVariables false
set_option linter.unusedSimpArgs false
namespace Go.Sl
open Go.RowKit
def soloT (P : Program) (t : TypeId) : Bool := match P.underlying t with
 | some (.interface _) => false
 | some _ => true
 | none => false
def methT (P : Program) (t : TypeId) (name : String) (f : FuncId) (ptr : Bool) : Bool :=
 (match P.underlying t with
 | some (.pointer _) => ptr
 | some _ => !ptr
 | none => false) &&
 (match P.info? t with
 | some i => (match i.methods.find? (·.name == name) with
  | some m => m.path.isEmpty && (match m.func with
   | some (g, p) => Nat.beq g f && (p == ptr)
   | none => false)
  | none => false)
 | none => false)
theorem run_method {P : Program} {t : TypeId} {name : String} {f : FuncId} {ptr : Bool} (h : methT P t name f ptr = true) (k : Nat) (v : Value) (w : World) : (method (k + 1) t v name).run P w = .ok (f, v) w := by
 unfold methT at h
 rw [Bool.and_eq_true] at h
 obtain ⟨h1, h2⟩ := h
 cases hi : P.info? t with
 | none => rw [hi] at h2; cases h2
 | some i =>
  rw [hi] at h2
  dsimp only at h2
  cases hm : i.methods.find? (·.name == name) with
  | none => rw [hm] at h2; cases h2
  | some m =>
   rw [hm] at h2
   dsimp only at h2
   rw [Bool.and_eq_true] at h2
   obtain ⟨h3, h4⟩ := h2
   cases hf : m.func with
   | none => rw [hf] at h4; cases h4
   | some gp =>
    obtain ⟨g, p⟩ := gp
    rw [hf] at h4
    dsimp only at h4
    rw [Bool.and_eq_true] at h4
    obtain ⟨h5, h6⟩ := h4
    have e1 : g = f := Nat.eq_of_beq_eq_true h5
    have e2 : p = ptr := by simpa using h6
    subst e1 e2
    have hp : m.path = #[] := by simpa using h3
    have hr : (receiverAt t (.val v) p (some ((name.splitOn ".").getLastD name))).run P w = .ok v w := by
     cases hu : P.underlying t with
     | none => rw [hu] at h1; cases h1
     | some d =>
      rw [hu] at h1
      unfold receiverAt
      simp only [Sem.run_bind, run_underlying hu, Result.andThen_ok]
      cases d <;> cases p <;> first | (exact absurd h1 Bool.false_ne_true) | (simp only [Place.get, Sem.run_pure])
    have hpl : m.path.toList = [] := by rw [hp]
    unfold method
    simp only [Sem.run_bind, typeInfo, run_program, Result.andThen_ok, hi, Sem.run_pure, hm, hpl, follow, hf, h3, if_true, hr]
section
variable {P : Program} {w0 : World} {n : Nat} {ops : Array Oper} {Q : Exit → Act → World → Prop} {ρ : Env} {A A' : List HProp} {rest : List Oper} {d : Option Tmp} {T : TypeId} {pos : String} {af : Array Edge} {g : Option (Nat × Bool)} {x : Operand}
theorem vmE {t : TypeId} {v : Value} (hx : ev n ρ x = .iface t v) : Val P w0 n ρ A ⟨d, .move x, T, pos, af, g⟩ (.iface t v) := hx ▸ vmv
theorem vmki {t : TypeId} {v : Value} (ht : soloT P t = true) (hx : ev n ρ x = v) : Val P w0 n ρ A ⟨d, .makeInterface t x, T, pos, af, g⟩ (.iface t v) := fun w _ => by
 unfold soloT at ht
 cases hu : P.underlying t with
 | none => rw [hu] at ht; cases ht
 | some u =>
  rw [hu] at ht
  simp only [execOp, Instr.makeInterface, Sem.run_bind, run_underlying hu, Result.andThen_ok, hx]
  cases u <;> first | (exact absurd ht Bool.false_ne_true) | (simp only [Sem.run_pure, Result.andThen_ok])
theorem run_inv {f : FuncId} {t : TypeId} {name : String} {ptr : Bool} {v : Value} {aops : List Operand} {args : List Value} {tys : Array TypeId} (hm : methT P t name f ptr = true) (hc : callT P f = true) (hx : ev n ρ x = .iface t v) (ha : evs n ρ aops = args) (w : World) :
  (execOp (ev n ρ) ⟨d, .call ⟨.invoke x name, aops.toArray, tys⟩, T, pos, af, g⟩).run P w = .ok (.enter f (v :: args).toArray) w := by
 have hd : 0 < Made.depth := by decide
 obtain ⟨k, hk⟩ : ∃ k, P.types.size + Made.depth = k + 1 := ⟨P.types.size + Made.depth - 1, by omega⟩
 have e1 : (#[Value.iface t v] ++ args.toArray)[0]? = some (.iface t v) := by simp
 have e2 : (#[Value.iface t v] ++ args.toArray).extract 1 (#[Value.iface t v] ++ args.toArray).size = args.toArray := by simp
 simp only [execOp, resolve, evs_toArray, ha, hx, Sem.run_bind, Sem.run_pure, Result.andThen_ok, invoke, e1, e2, callMethod, run_program, hk, run_method hm k v w]
 rw [show (#[v] ++ args.toArray : Array Value) = (v :: args).toArray by simp, run_callFunc_of hc]
theorem vfnm {name : String} {v : Value} (hx : ev n ρ x = v) : Val P w0 n ρ A ⟨d, .makeFunc (.method name) #[x] #[], T, pos, af, g⟩ (.func (.method name) #[v] #[]) := fun w _ => by
 simp [execOp, Instr.makeFunc, hx]
theorem run_nilAhead {t : TypeId} {name : String} {f : FuncId} {ptr : Bool} {v : Value} (h : methT P t name f ptr = true) (k : Nat) (w : World) : (nilAhead (k + 1) t v name).run P w = .ok (some false) w := by
 unfold methT at h
 rw [Bool.and_eq_true] at h
 obtain ⟨h1, h2⟩ := h
 cases hi : P.info? t with
 | none => rw [hi] at h2; cases h2
 | some i =>
  rw [hi] at h2
  dsimp only at h2
  cases hm : i.methods.find? (·.name == name) with
  | none => rw [hm] at h2; cases h2
  | some m =>
   rw [hm] at h2
   dsimp only at h2
   rw [Bool.and_eq_true] at h2
   obtain ⟨h3, h4⟩ := h2
   cases hf : m.func with
   | none => rw [hf] at h4; cases h4
   | some gp =>
    obtain ⟨g, p⟩ := gp
    rw [hf] at h4
    dsimp only at h4
    rw [Bool.and_eq_true] at h4
    obtain ⟨h5, h6⟩ := h4
    have e2 : p = ptr := by simpa using h6
    subst e2
    have hp : m.path = #[] := by simpa using h3
    have hpl : m.path.toList = [] := by rw [hp]
    cases hu : P.underlying t with
    | none => rw [hu] at h1; cases h1
    | some u =>
     rw [hu] at h1
     unfold nilAhead
     simp only [Sem.run_bind, typeInfo, run_program, Result.andThen_ok, hi, Sem.run_pure, hm, hpl, followBlind, hf]
     cases p <;> cases u <;> first | (exact absurd h1 Bool.false_ne_true) | (simp only [Sem.run_bind, run_underlying hu, Result.andThen_ok, Sem.run_pure])
theorem vnilm {f : FuncId} {t : TypeId} {name : String} {ptr : Bool} {v : Value} {c : Array Value} (hm : methT P t name f ptr = true) (hx : ev n ρ x = .func (.method name) #[.iface t v] c) : Val P w0 n ρ A ⟨d, .nilCheck x, T, pos, af, g⟩ (.func (.method name) #[.iface t v] c) := fun w _ => by
 have hd : 0 < Made.depth := by decide
 obtain ⟨k, hk⟩ : ∃ k, P.types.size + Made.depth = k + 1 := ⟨P.types.size + Made.depth - 1, by omega⟩
 simp [execOp, hx, hk, run_nilAhead hm k w]
variable {ι : Type} {pr : ι → Prop} {val : ι → Value} {post : ι → List HProp}
theorem cli {k : Nat} {f : FuncId} {t : TypeId} {name : String} {ptr : Bool} {v : Value} {aops : List Operand} {args : List Value} {tys : Array TypeId} (hA : Sb A A') (hm : methT P t name f ptr = true) (hs : Fun P w0 f (v :: args) A' (Ret w0 pr val post)) (hc : callT P f = true) (hx : ev n ρ x = .iface t v) (ha : evs n ρ aops = args)
  (h : ∀ i, pr i → WL P w0 n ops Q rest (set ρ k (val i)) (post i)) : WL P w0 n ops Q (⟨some k, .call ⟨.invoke x name, aops.toArray, tys⟩, T, pos, af, none⟩ :: rest) ρ A := by
 refine WL.perm (A' := A') ⟨fun w hw => ?_⟩ (fun _ H => hA.own H)
 refine wpList_plain rfl fun K hK => ?_
 unfold Oper.wp
 rw [eval_act, run_inv hm hc hx ha, Oper.upon_enter]
 refine (hs.run w hw).mono ?_
 rintro e w' ⟨i, hi, rfl, hO⟩
 simp only [put_act]
 exact hK _ _ ((h i hi).run w' hO)
end
end Go.Sl
end
section
set_option linter.unusedVariables false
set_option linter.unusedSimpArgs false
set_option maxRecDepth 4000
namespace Go.Proofs.YtigjompojlhomaaGreat
open Go.Sl Go.RowKit Go.Raft Go.Journal Go.Pack Go.Council
variable {w0 : World} {A : List HProp}
theorem sepsO {w0 w : World} : ∀ {l A : List HProp}, Own w0 (Sl.seps l :: A) w → Own w0 (l ++ A) w
 | [], A, h => h.tail
 | x :: l, A, h => by
  have h1 := h.star
  have h2 := sepsO (l := l) h1.pk1
  exact h2.perm List.perm_middle
theorem sepsI {w0 w : World} : ∀ {l A : List HProp}, Own w0 (l ++ A) w → Own w0 (Sl.seps l :: A) w
 | [], A, h => h.intro_emp
 | x :: l, A, h => by
  have h1 : Own w0 (l ++ x :: A) w := h.perm List.perm_middle.symm
  have h2 := sepsI (l := l) h1
  exact h2.pk1.intro_star
def nptrC (l : List Nat) : List Value := l.map fun p => .pointer (some ⟨p, 0, none⟩)
theorem nptrC_length (l : List Nat) : (nptrC l).length = l.length := by simp [nptrC]
theorem nptrC_at {l : List Nat} {i p : Nat} (h : l[i]? = some p) : (nptrC l)[((i : Int)).toNat]? = some (.pointer (some ⟨p, 0, none⟩)) := by simp [nptrC, h]
abbrev mcell (dk : Nat) (np jp : Option Addr) : List Value := [.pointer (some ⟨dk, 0, none⟩), .pointer np, .pointer jp]
def hman (q dk : Nat) (m : Mg) : HProp := match m.node with
 | none => ex fun jo : Option Addr => star (cel q (mcell dk none jo) 50) (pdisk dk m.st)
 | some x => ex fun i : Nat × Nat => star (cel q (mcell dk (some ⟨i.1, 0, none⟩) (some ⟨i.2, 0, none⟩)) 50) (star (pdisk dk m.st) (star (hnode i.1 x) (cel i.2 (jcells dk lnm m.rs.length false) 141)))
section
variable {w0 w : World} {A : List HProp} {q dk : Nat} {m : Mg}
theorem hman_down (hn : m.node = none) (H : Own w0 (hman q dk m :: A) w) : ∃ jo, Own w0 (cel q (mcell dk none jo) 50 :: pdisk dk m.st :: A) w := by
 unfold hman at H
 rw [hn] at H
 obtain ⟨jo, h⟩ := H.ex
 exact ⟨jo, h.star⟩
theorem hman_mkD {jo : Option Addr} (hn : m.node = none) (H : Own w0 (cel q (mcell dk none jo) 50 :: pdisk dk m.st :: A) w) : Own w0 (hman q dk m :: A) w := by
 unfold hman
 rw [hn]
 exact H.intro_star.intro_ex (X := fun jo : Option Addr => star (cel q (mcell dk none jo) 50) (pdisk dk m.st)) jo
theorem hman_up {x : Rn} (hn : m.node = some x) (H : Own w0 (hman q dk m :: A) w) : ∃ i : Nat × Nat, Own w0 (cel q (mcell dk (some ⟨i.1, 0, none⟩) (some ⟨i.2, 0, none⟩)) 50 :: pdisk dk m.st :: hnode i.1 x :: cel i.2 (jcells dk lnm m.rs.length false) 141 :: A) w := by
 unfold hman at H
 rw [hn] at H
 obtain ⟨i, h⟩ := H.ex
 exact ⟨i, h.star.pk1.star.pk1.star.ix [3, 2, 0, 1]⟩
theorem hman_mkU {x : Rn} {np jp : Nat} (hn : m.node = some x) (H : Own w0 (cel q (mcell dk (some ⟨np, 0, none⟩) (some ⟨jp, 0, none⟩)) 50 :: pdisk dk m.st :: hnode np x :: cel jp (jcells dk lnm m.rs.length false) 141 :: A) w) : Own w0 (hman q dk m :: A) w := by
 unfold hman
 rw [hn]
 have h1 := (H.ix [2, 3, 0, 1]).intro_star
 have h2 := (h1.ix [2, 0, 1]).intro_star
 have h3 := (h2.ix [1, 0]).intro_star
 exact h3.intro_ex (X := fun i : Nat × Nat => star (cel q (mcell dk (some ⟨i.1, 0, none⟩) (some ⟨i.2, 0, none⟩)) 50) (star (pdisk dk m.st) (star (hnode i.1 x) (cel i.2 (jcells dk lnm m.rs.length false) 141)))) (np, jp)
end
structure ME where
 q : Nat
 dk : Nat
 m : Mg
def hmans : List ME → HProp
 | [] => emp
 | e :: l => star (hman e.q e.dk e.m) (hmans l)
theorem hmans_cons {e : ME} {l : List ME} : hmans (e :: l) = star (hman e.q e.dk e.m) (hmans l) := rfl
theorem hmans_out {w0 w : World} : ∀ {l : List ME} {j : Nat} {e : ME} {A : List HProp}, l[j]? = some e → Own w0 (hmans l :: A) w → Own w0 (hman e.q e.dk e.m :: hmans (l.eraseIdx j) :: A) w
 | [], j, e, A, h, H => by simp at h
 | x :: l, 0, e, A, h, H => by
  have : x = e := by simpa using h
  subst this
  rw [hmans_cons] at H
  rw [List.eraseIdx_cons_zero]
  exact H.star
 | x :: l, j + 1, e, A, h, H => by
  rw [hmans_cons] at H
  have h1 := hmans_out (l := l) (j := j) (e := e) (by simpa using h) H.star.pk1
  rw [List.eraseIdx_cons_succ, hmans_cons]
  exact h1.pk2.pk2.pk1.intro_star.pk1
theorem hmans_in {w0 w : World} : ∀ {l : List ME} {j : Nat} {e f : ME} {A : List HProp}, l[j]? = some e → Own w0 (hman f.q f.dk f.m :: hmans (l.eraseIdx j) :: A) w → Own w0 (hmans (l.set j f) :: A) w
 | [], j, e, f, A, h, H => by simp at h
 | x :: l, 0, e, f, A, h, H => by
  rw [List.eraseIdx_cons_zero] at H
  rw [List.set_cons_zero, hmans_cons]
  exact H.intro_star
 | x :: l, j + 1, e, f, A, h, H => by
  rw [List.eraseIdx_cons_succ, hmans_cons] at H
  have h2 := hmans_in (l := l) (j := j) (e := e) (f := f) (by simpa using h) (H.pk1.star.pk2.pk2.pk1)
  rw [List.set_cons_succ, hmans_cons]
  exact h2.pk1.intro_star
theorem hmans_snoc {w0 w : World} {f : ME} : ∀ {l : List ME} {A : List HProp}, Own w0 (hman f.q f.dk f.m :: hmans l :: A) w → Own w0 (hmans (l ++ [f]) :: A) w
 | [], A, H => by
  rw [List.nil_append, hmans_cons]
  exact H.intro_star
 | x :: l, A, H => by
  rw [hmans_cons] at H
  have h1 := hmans_snoc (l := l) (H.pk1.star.pk2.pk2.pk1)
  rw [List.cons_append, hmans_cons]
  exact h1.pk1.intro_star
structure CB where
 l : List ME
 ms : List Mh
 lb : Option Addr
 lc : Nat
 mb : Option Addr
 mc : Nat
structure CW (S : CS) (b : CB) : Prop where
 l : b.l.map ME.m = S.ms
 ms : b.ms.map Mh.ml = S.mails
 mc : b.ms.length ≤ b.mc
 lc : b.l.length ≤ b.lc
abbrev ccell (b : CB) : List Value := [.slice b.lb b.l.length b.lc, .slice b.mb b.ms.length b.mc]
abbrev cL (p : Nat) (b : CB) (A : List HProp) : List HProp := cel p (ccell b) 43 :: row b.lb b.lc 1 44 (nptrC (b.l.map ME.q)) :: hmans b.l :: row b.mb b.mc 9 85 (mvs b.ms) :: mrows b.ms :: A
def hc (p : Nat) (S : CS) : HProp := fun h => ∃ b, CW S b ∧ Sl.seps (cL p b []) h
theorem hc_open {w0 w : World} {p : Nat} {S : CS} {A : List HProp} (H : Own w0 (hc p S :: A) w) : ∃ b, CW S b ∧ Own w0 (cL p b A) w := by
 obtain ⟨hb, h, ⟨h1, h2, ⟨b, hw, a⟩, a2, dd, y⟩, hw'⟩ := H
 exact ⟨b, hw, sepsO (l := cL p b []) ⟨hb, h, ⟨h1, h2, a, a2, dd, y⟩, hw'⟩⟩
theorem hc_mk {w0 w : World} {p : Nat} {S : CS} {b : CB} {A : List HProp} (hw : CW S b) (H : Own w0 (cL p b A) w) : Own w0 (hc p S :: A) w := (sepsI (l := cL p b []) H).head fun _ h => ⟨b, hw, h⟩
theorem CW.len {S : CS} {b : CB} (h : CW S b) : b.l.length = S.ms.length ∧ b.ms.length = S.mails.length := ⟨by rw [← h.l, List.length_map], by rw [← h.ms, List.length_map]⟩
theorem CW.at_ {S : CS} {b : CB} (h : CW S b) {j : Nat} {m : Mg} (hj : S.ms[j]? = some m) : ∃ e, b.l[j]? = some e ∧ e.m = m := by
 rw [← h.l, List.getElem?_map] at hj
 cases he : b.l[j]? with
 | none => rw [he] at hj; cases hj
 | some e => rw [he] at hj; exact ⟨e, rfl, Option.some.inj hj⟩
abbrev cL1 (p j : Nat) (b : CB) (A : List HProp) : List HProp := cel p (ccell b) 43 :: row b.lb b.lc 1 44 (nptrC (b.l.map ME.q)) :: hmans (b.l.eraseIdx j) :: row b.mb b.mc 9 85 (mvs b.ms) :: mrows b.ms :: A
theorem cL_out {w0 w : World} {p j : Nat} {b : CB} {e : ME} {A : List HProp} (hj : b.l[j]? = some e) (H : Own w0 (cL p b A) w) : Own w0 (hman e.q e.dk e.m :: cL1 p j b A) w := by
 have h1 := hmans_out hj (H.ix [2, 0, 1, 3, 4])
 exact h1.ix [0, 2, 3, 1, 4, 5]
theorem set_q {l : List ME} {j : Nat} {e : ME} {m : Mg} (hj : l[j]? = some e) : (l.set j ⟨e.q, e.dk, m⟩).map ME.q = l.map ME.q := by
 obtain ⟨hl, rfl⟩ := List.getElem?_eq_some_iff.1 hj
 apply List.ext_getElem?
 intro k
 rw [List.getElem?_map, List.getElem?_map]
 by_cases hk : k = j
 ·subst hk; rw [List.getElem?_set_self hl, List.getElem?_eq_getElem hl]; rfl
 ·rw [List.getElem?_set_ne (fun e => hk e.symm)]
theorem cL_in {w0 w : World} {p j : Nat} {b : CB} {e : ME} {m : Mg} {A : List HProp} (hj : b.l[j]? = some e) (H : Own w0 (hman e.q e.dk m :: cL1 p j b A) w) : Own w0 (cL p { b with l := b.l.set j ⟨e.q, e.dk, m⟩ } A) w := by
 have h1 := hmans_in (f := ⟨e.q, e.dk, m⟩) hj (H.ix [0, 3, 1, 2, 4, 5])
 unfold cL ccell
 dsimp only
 rw [set_q hj, List.length_set]
 exact h1.ix [1, 2, 0, 3, 4]
theorem CW.set {S : CS} {b : CB} {j : Nat} {e : ME} {m : Mg} (h : CW S b) (hj : b.l[j]? = some e) : CW (putM S j m) { b with l := b.l.set j ⟨e.q, e.dk, m⟩ } :=
 ⟨by unfold putM; dsimp only; rw [List.map_set, h.l], h.ms, h.mc, by dsimp only; rw [List.length_set]; exact h.lc⟩
end Go.Proofs.YtigjompojlhomaaGreat
end
section
set_option linter.unusedVariables false
set_option linter.unusedSimpArgs false
namespace Go.Sl
open Go.RowKit
theorem splice_prefix {cur vs cs : List Value} {o j : Nat} (hp : vs <+: cur.drop o) (hj : j + cs.length ≤ vs.length) (hcur : vs = [] → cs = []) : splice vs j cs <+: (splice cur (o + j) cs).drop o := by
 obtain ⟨tl, htl⟩ := hp
 by_cases ho : o ≤ cur.length
 ·have hlc : cur.length - o = vs.length + tl.length := by have := congrArg List.length htl; rw [List.length_append, List.length_drop] at this; omega
  refine ⟨tl, ?_⟩
  have e2 : (cur.drop o).take j = vs.take j := by rw [← htl, List.take_append_of_le_length (by omega)]
  have e3 : cur.drop (o + j + cs.length) = vs.drop (j + cs.length) ++ tl := by
   rw [show o + j + cs.length = o + (j + cs.length) by omega, ← List.drop_drop, ← htl, List.drop_append_of_le_length (by omega)]
  unfold splice
  rw [e3, List.append_assoc, List.append_assoc, List.append_assoc, List.drop_append_of_le_length (by rw [List.length_take]; omega), List.drop_take, Nat.add_sub_cancel_left, e2]
 ·have : vs = [] := by
   rw [List.drop_eq_nil_of_le (by omega)] at htl
   exact (List.append_eq_nil_iff.1 htl).1
  subst this
  have := hcur rfl
  subst this
  unfold splice
  simp
section
variable {P : Program} {w0 : World} {n : Nat} {ops : Array Oper} {Q : Exit → Act → World → Prop} {ρ : Env} {A R : List HProp} {rest : List Oper} {T : TypeId} {pos : String} {af : Array Edge}
variable {x y : Operand} {t e : TypeId} {z : Value} {s by_ d : Nat} {base : Option Addr} {l c m : Nat} {vs news : List Value}
theorem apo {b2 : Option Addr} {c2 : Nat} (hs0 : Nat.blt 0 s = true) (ht : P.underlying t = some (.slice e)) (hz : zeroT P e z s by_) (hx : ev n ρ x = .slice base l c) (hy : ev n ρ y = .slice b2 m c2)
  (hl : l * s + news.length ≤ vs.length) (hm : news.length = m * s) (h1 : ∀ v ∈ news, v.oneCell' = true) (hR : RdC w0 (row base c s e vs :: R) b2 news)
  (h : WL P w0 n ops Q rest (set ρ d (.slice base (l + m) c)) (row base c s e (splice vs (l * s) news) :: R)) :
  WL P w0 n ops Q (⟨some d, .call ⟨.builtin .append, #[x, y], #[t, t]⟩, T, pos, af, none⟩ :: rest) ρ (row base c s e vs :: R) :=
 WL.step rfl fun w hw => by
  have hfc := run_firstCells_rd (P := P) (c := c2) (l := m) hR hm hw
  obtain ⟨i, hi, hz, rfl, rfl⟩ := hz
  have hs : 0 < i.size := by simpa using hs0
  have hrl := (row_le hw).1
  have hroom : l + m ≤ c := by
   have : (l + m) * i.size ≤ c * i.size := by rw [Nat.add_mul, ← hm]; omega
   exact Nat.le_of_mul_le_mul_right this hs
  rcases hw.row with ⟨rfl, rfl, rfl, hO⟩ | ⟨g, o, cur, rfl, hp, hcl, hc, hO⟩
  ·have hl0 : l = 0 := by omega
   have hm0 : m = 0 := by omega
   subst hl0; subst hm0
   have hn : news = [] := List.eq_nil_of_length_eq_zero (by simpa using hm)
   subst hn
   refine ⟨.value (.slice none 0 0), w, _, _, ?_, put_act .., by unfold splice; simpa using hw, h⟩
   simp [execOp, resolve, invoke, builtin, hx, hy, Builtin.append_, run_underlying ht, sizeOf, typeInfo, hi, Builtin.lenOf, hfc]
  ·obtain ⟨fz, hf, hO1⟩ := hO.cel
   have hfit : o + l * i.size + news.length ≤ cur.length := by have := hp.length_le; rw [List.length_drop] at this; have h5 := hcl.2; omega
   obtain ⟨w', hr, hT⟩ := run_storeCells_cel (P := P) (o := o + l * i.size) news 0 cur w hO1.heap.1 hf (by simpa using hfit) h1
   refine ⟨.value (.slice (some ⟨g, o, none⟩) (l + m) c), w', _, _, ?_, put_act .., Own.intro_rowo (cur := splice cur (o + l * i.size) news) (splice_prefix hp hl fun hv => List.eq_nil_of_length_eq_zero (by have h6 := congrArg List.length hv; rw [List.length_nil] at h6; omega)) ⟨by rw [splice_length hl]; exact hcl.1, by rw [splice_length hfit]; exact hcl.2⟩ hc (Own.intro_cel (fz := fz) (by rw [splice_length hfit]; exact hf) (hO1.turned (by simpa using hT))), h⟩
   simp [execOp, resolve, invoke, builtin, hx, hy, Builtin.append_, run_underlying ht, sizeOf, typeInfo, hi, Builtin.lenOf, hfc, hroom, add_at, hr]
theorem clr {lo : Nat} {c2 : Nat} (hs0 : Nat.blt 0 s = true) (ht : P.underlying t = some (.slice e)) (hz : zeroT P e z s by_) (hzs : Nat.beq z.cells.size s = true) (h1 : z.cells.toList.all (·.oneCell') = true) (hx : ev n ρ x = .slice (slB base lo c s) m c2)
  (hl : (lo + m) * s ≤ vs.length)
  (h : WL P w0 n ops Q rest ρ (row base c s e (splice vs (lo * s) (Builtin.zeroCells z.cells m).toList) :: R)) :
  WL P w0 n ops Q (⟨none, .call ⟨.builtin .clear, #[x], #[t]⟩, T, pos, af, none⟩ :: rest) ρ (row base c s e vs :: R) :=
 WL.step rfl fun w hw => by
  obtain ⟨i, hi, hz, rfl, rfl⟩ := hz
  have hs : 0 < i.size := by simpa using hs0
  have hrl := (row_le hw).1
  have hzl : (Builtin.zeroCells z.cells m).toList.length = m * i.size := by rw [zeroCells_length, Nat.eq_of_beq_eq_true hzs]
  have hlm : lo * i.size + (Builtin.zeroCells z.cells m).toList.length ≤ vs.length := by rw [hzl, ← Nat.add_mul]; exact hl
  rcases Nat.eq_zero_or_pos m with hm0 | hm0
  ·subst hm0
   have e0 : (Builtin.zeroCells z.cells 0).toList = [] := List.eq_nil_of_length_eq_zero (by rw [hzl]; simp)
   have e1 : splice vs (lo * i.size) [] = vs := by unfold splice; simp
   rw [e0, e1] at h
   refine ⟨.value (.tuple #[]), w, _, _, ?_, rfl, hw, h⟩
   rcases hb : slB base lo c i.size with _ | a <;> simp [execOp, resolve, invoke, builtin, hx, hb, Builtin.clear_, run_underlying ht]
  ·have hroom : lo + m ≤ c := Nat.le_of_mul_le_mul_right (Nat.le_trans hl hrl) hs
   have hbase : slB base lo c i.size = base.map (·.add (lo * i.size)) := by unfold slB; rw [if_neg (by omega)]
   rw [hbase] at hx
   rcases hw.row with ⟨rfl, rfl, rfl, hO⟩ | ⟨g, o, cur, rfl, hp, hcl, hc, hO⟩
   ·omega
   ·obtain ⟨fz, hf, hO1⟩ := hO.cel
    have hfit : o + lo * i.size + (Builtin.zeroCells z.cells m).toList.length ≤ cur.length := by have := hp.length_le; rw [List.length_drop] at this; have h5 := hcl.2; omega
    obtain ⟨w', hr, hT⟩ := run_storeCells_cel (P := P) (o := o + lo * i.size) (Builtin.zeroCells z.cells m).toList 0 cur w hO1.heap.1 hf (by simpa using hfit) (fun v hv => by
     have hv2 : v ∈ z.cells.toList := by
      have hz0 : 0 < z.cells.size := by rw [Nat.eq_of_beq_eq_true hzs]; exact hs
      simp only [Builtin.zeroCells] at hv
      simp at hv
      obtain ⟨a, _, ha⟩ := hv
      rw [getElem!_pos z.cells _ (Nat.mod_lt _ hz0)] at ha
      rw [← ha]
      simp
     exact List.all_eq_true.1 h1 v hv2)
    refine ⟨.value (.tuple #[]), w', _, _, ?_, rfl, Own.intro_rowo (cur := splice cur (o + lo * i.size) (Builtin.zeroCells z.cells m).toList) (splice_prefix hp hlm fun hv => List.eq_nil_of_length_eq_zero (by have h6 := congrArg List.length hv; rw [List.length_nil] at h6; omega)) ⟨by rw [splice_length hlm]; exact hcl.1, by rw [splice_length hfit]; exact hcl.2⟩ hc (Own.intro_cel (fz := fz) (by rw [splice_length hfit]; exact hf) (hO1.turned (by simpa using hT))), h⟩
    obtain ⟨k, rfl⟩ : ∃ k, m = k + 1 := ⟨m - 1, by omega⟩
    simp [execOp, resolve, invoke, builtin, hx, Builtin.clear_, run_underlying ht, zeroValue, typeInfo, hi, hz, add_at, hr]
end
end Go.Sl
end
section
set_option linter.unusedVariables false
set_option linter.unusedSimpArgs false
set_option maxRecDepth 4000
namespace Go.Proofs.YtigjompojlhomaaGreat
open Go.Sl Go.Pack Go.RowKit
variable {w0 : World} {A : List HProp}
def preader (r : Nat) (bs : List UInt8) (bad : Bool) : HProp := fun h => ∃ base c, bs.length ≤ c ∧ star (cel r [.slice base bs.length c, .bool bad] 143) (own base 5 (u8s bs)) h
theorem preader_open {w0 w : World} {r : Nat} {bs : List UInt8} {bad : Bool} {A : List HProp} (H : Own w0 (preader r bs bad :: A) w) :
  ∃ x : Option Addr × Nat, bs.length ≤ x.2 ∧ Own w0 (cel r [.slice x.1 bs.length x.2, .bool bad] 143 :: own x.1 5 (u8s bs) :: A) w := by
 obtain ⟨hb, h, ⟨h1, h2, ⟨base, c, hc, a⟩, a2, d, x⟩, hw⟩ := H
 exact ⟨(base, c), hc, Own.star ⟨hb, h, ⟨h1, h2, a, a2, d, x⟩, hw⟩⟩
theorem preader_mk {w0 w : World} {r : Nat} {bs : List UInt8} {bad : Bool} {A : List HProp} {base : Option Addr} {c : Nat} (hc : bs.length ≤ c) (H : Own w0 (cel r [.slice base bs.length c, .bool bad] 143 :: own base 5 (u8s bs) :: A) w) :
  Own w0 (preader r bs bad :: A) w := H.intro_star.head fun _ h => ⟨base, c, hc, h⟩
theorem pack_new {base : Option Addr} {c : Nat} {bs : List UInt8} [hR : Reads w0 A base (u8s bs)] (hb : bs.length ≤ 140737488355328) :
  Fun Tryz.prog w0 38 [.slice base bs.length c] A (Ret w0 (fun _ : Nat => True) (fun r => .pointer (some ⟨r, 0, none⟩)) (fun r => preader r bs false :: A)) := by
 refine Fun.enter Tryz.func38 rfl Tryz.ntmps38 rfl ?_
 refine wS $ wR $ sv (vaP rfl) $ wN $ tN $ wS $ wR $ zS rfl $ sv (vlen Tryz.underlying108 rfl) $ mk Tryz.underlying108 zt5 rfl rfl (by omega) (by omega) (by omega) (by omega) fun b1 => ?_
 rw [madeU8, show ((bs.length : Int)).toNat * 1 = bs.length by omega]
 refine yS rfl $ wN $ tN $ wS $ wR $ zS rfl $ zS rfl $ cp sz5 Tryz.underlying108 rfl rfl (reads (vs := u8s bs)) (by simp) (u8s_one bs) (by simp) $ wN $ tN $ wS $ wR $ zS rfl $ sv (vbd (ps := [(0, .slice _ _ _)]) (cs := [_, _]) bt143 zt143 rfl (by rfl)) $ bxc (v := .agg _) (cs := [.slice _ _ _, .bool _]) rfl rfl fun b4 => sv (vaP rfl) $ wN $ tN $ WC.ret $ xR rfl (b4) (trivial) rfl (fun w h => ?_)
 have e : splice (List.replicate bs.length (Value.int .u8 0)) 0 (u8s bs) = u8s bs := by simp [splice]
 rw [e] at h
 have h2 := h.pk1.intro_own (o := 0) (vs := u8s bs) (by simp)
 exact preader_mk (c := bs.length) (Nat.le_refl _) h2.pk1
theorem pack_fail {r : Nat} {bs : List UInt8} {bad : Bool} :
  Fun Tryz.prog w0 73 [.pointer (some ⟨r, 0, none⟩)] (preader r bs bad :: A) (Ru w0 (.tuple #[]) (preader r [] true :: A)) := by
 refine Fun.ex (fun w h => preader_open h) ?_
 rintro ⟨base, c⟩ hc
 refine Fun.enter Tryz.func73 rfl Tryz.ntmps73 rfl ?_
 refine wR $ zP rfl $ zP rfl $ uN rfl $ sv (vfld fl143f1 rfl) $ stc (v := .bool _) pl4 sz4 rfl rfl rfl $ uN rfl $ sv (vfld fl143f0 rfl) $ stc (v := .slice _ _ _) pl108 sz108 rfl rfl rfl $ wN $ WX.end0 rfl (()) (trivial) rfl (fun w h => ?_)
 exact preader_mk (Nat.le_refl _) (h.pk1.tail.intro_own_nil.pk1)
theorem pack_rnum {r : Nat} {bs : List UInt8} {bad : Bool} (hb : bs.length ≤ 140737488355328) :
  Fun Tryz.prog w0 39 [.pointer (some ⟨r, 0, none⟩)] (preader r bs bad :: A)
   (Ru w0 (.int .i64 (if bad then 0 else ((take bs).map (·.1)).getD 0)) ((if bad then preader r bs bad else match take bs with | some p => preader r (bs.drop p.2) false | none => preader r [] true) :: A)) := by
 refine Fun.ex (fun w h => preader_open h) ?_
 rintro ⟨base, c⟩ hc
 dsimp only at hc ⊢
 refine Fun.enter Tryz.func39 rfl Tryz.ntmps39 rfl ?_
 refine wS $ wR $ yI rfl $ wN $ tN $ wS $ ?_
 refine WC.cut0 [(13, .bool (decide (bad = true)))] [(0, .pointer _)] (cel r [.slice base bs.length c, .bool bad] 143 :: own base 5 (u8s bs) :: A) ⟨rfl, trivial⟩ ?_ fun ρh => ?_
 ·
  exact wR $ zP rfl $ sv (vpeqF Tryz.underlying109 rfl rfl) $ zB rfl $ svg rfl (vmP rfl) $ svg rfl (vnil rfl) $ svg rfl (vfld fl143f1 rfl) $ svg rfl (vldc pl4 rfl) $ uF rfl $ wN $ xM () trivial ⟨bB (by simp), trivial⟩ ⟨rfl, trivial⟩ (fun _ h => h)
 refine WC.ite rfl (fun h1 => ?_) (fun h1 => ?_)
 ·
  subst h1
  exact wS $ wR $ yI rfl $ wN $ tN $ WC.ret $ tR $ xR rfl (()) (trivial) rfl (fun w h => preader_mk hc h)
 ·
  have h2' : bad = false := by simpa using h1
  subst h2'
  refine WC.skip $ tN $ wS $ wR $ yI rfl $ wN $ tN $ wS $ wS $ wR $ zP rfl $ uN rfl $ sv (vfld fl143f0 rfl) $ sv (vldc pl108 rfl) $ sv (vlen Tryz.underlying108 rfl) $ zI rfl $ wN $ tN $ WC.block $ ?_
  refine WC.loop (ι := Nat × Nat) (fun i => [(3, .int .u64 i.2), (19, .int .i64 i.1)]) [(0, .pointer _), (17, .slice _ _ _), (18, .int _ _)] (fun i => cel r [.slice base bs.length c, .bool false] 143 :: own base 5 (u8s bs) :: A) (fun i => i.1 ≤ 9 ∧ i.1 ≤ bs.length ∧ i.2 < 128 ^ i.1 ∧ rdn i.1 i.2 (bs.drop i.1) = rdn 0 0 bs) (fun i => bs.length - i.1) ((0, 0)) (⟨by simp, by simp, by simp, rfl⟩) ⟨rfl, rfl, trivial⟩ ⟨rfl, rfl, rfl, trivial⟩ (fun _ h => h) ?_
  rintro ⟨i, z⟩ ⟨hi9, hil, hz, hrd⟩ ρh
  dsimp only at hi9 hil hz hrd ⊢
  refine wS $ wR $ sv (vlt rfl rfl) $ wN $ tN $ wS $ ?_
  refine WC.ite rfl (fun h2 => ?_) (fun h2 => ?_)
  ·
   have hlt : i < bs.length := by omega
   have hd : bs.drop i = bs[i] :: bs.drop (i + 1) := List.drop_eq_getElem_cons hlt
   rw [hd, rdn] at hrd
   refine WC.skip $ tN $ wS $ WC.block $ wS $ wR $ zI rfl $ sv (vixb Tryz.underlying108 sz5 rfl rfl (by omega) (by omega) (by omega)) $ sv (vldb pl5 rfl hlt) $ yI rfl $ yI rfl $ wN $ tN $ wS $ ?_
   refine WC.cut0 [(37, .bool (decide ((i = 9 ∧ bs[i].toNat ≠ 1) ∨ (0 < i ∧ bs[i].toNat = 0))))] [(0, .pointer _), (3, .int _ _), (4, .int _ _), (5, .int _ _), (17, .slice _ _ _), (18, .int _ _), (19, .int _ _)] (cel r [.slice base bs.length c, .bool false] 143 :: own base 5 (u8s bs) :: A) ⟨rfl, rfl, rfl, rfl, rfl, rfl, rfl, trivial⟩ ?_ fun ρh => ?_
   ·
    refine wR $ zI rfl $ svs (veq rfl rfl) (fun q1 => ?_) (fun q1 => ?_)
    ·
     refine zB rfl $ svg rfl (vmI rfl) $ svsg rfl (vne rfl rfl) (fun q2 => ?_) (fun q2 => ?_)
     ·
      exact uT rfl $ zB rfl $ sng rfl $ sng rfl $ sng rfl $ sng rfl $ sng rfl $ sng rfl $ uT rfl $ wN $ xM () trivial ⟨bTa, trivial⟩ ⟨rfl, rfl, rfl, rfl, rfl, rfl, rfl, trivial⟩ (fun _ h => h)
     ·
      refine uT rfl $ zB rfl $ svg rfl (vmI rfl) $ svsg rfl (vgt rfl rfl) (fun q3 => ?_) (fun q3 => ?_)
      ·
       exact svg rfl (vmB rfl) $ svg rfl (vmI rfl) $ svg rfl (veq rfl rfl) $ svg rfl (vpkt rfl) $ uF rfl $ wN $ xM () trivial ⟨bIa, trivial⟩ ⟨rfl, rfl, rfl, rfl, rfl, rfl, rfl, trivial⟩ (fun _ h => h)
      ·
       exact svg rfl (vmB rfl) $ sng rfl $ sng rfl $ svg rfl (vpkf rfl) $ uF rfl $ wN $ xM () trivial ⟨bFa, trivial⟩ ⟨rfl, rfl, rfl, rfl, rfl, rfl, rfl, trivial⟩ (fun _ h => h)
    ·
     refine zB rfl $ sng rfl $ sng rfl $ uF rfl $ zB rfl $ svg rfl (vmI rfl) $ svsg rfl (vgt rfl rfl) (fun q4 => ?_) (fun q4 => ?_)
     ·
      exact svg rfl (vmB rfl) $ svg rfl (vmI rfl) $ svg rfl (veq rfl rfl) $ svg rfl (vpkt rfl) $ uF rfl $ wN $ xM () trivial ⟨bIa, trivial⟩ ⟨rfl, rfl, rfl, rfl, rfl, rfl, rfl, trivial⟩ (fun _ h => h)
     ·
      exact svg rfl (vmB rfl) $ sng rfl $ sng rfl $ svg rfl (vpkf rfl) $ uF rfl $ wN $ xM () trivial ⟨bFa, trivial⟩ ⟨rfl, rfl, rfl, rfl, rfl, rfl, rfl, trivial⟩ (fun _ h => h)
   refine WC.ite rfl (fun h3 => ?_) (fun h3 => ?_)
   ·
    rw [if_pos h3] at hrd
    have ht : take bs = none := by unfold take; rw [← hrd]; rfl
    exact WC.exit $ WX.thenE $ WX.blockE rfl $ WX.thenE $ WX.thenE $ WX.blockH $ tN $ wS $ wR $ zP rfl $ cl (pack_fail.perm (fun w h => preader_mk hc h)) ct73 rfl fun r17 hr17 => wN $ tN $ wS $ wR $ yI rfl $ wN $ tN $ WC.ret $ xR rfl (()) (trivial) (iv (by simp [ht])) (fun w h => by simpa [ht] using h)
   ·
    rw [if_neg h3] at hrd
    have h9 : i = 9 → bs[i].toNat = 1 := by intro h; by_cases hc1 : bs[i].toNat = 1 <;> simp_all
    refine WC.skip $ tN $ wS $ wR $ zI rfl $ zI rfl $ sv (vand rfl rfl) $ sv (vcv is5 Tryz.underlying144 rfl) $ zI rfl $ sv (vmul rfl rfl (by omega)) $ sv (vshl rfl rfl (by omega)) $ sv (vor rfl rfl) $ yI rfl $ wN $ tN $ wS $ wR $ zI rfl $ sv (vlt rfl rfl) $ wN $ tN $ ?_
    refine WC.ite rfl (fun h4 => ?_) (fun h4 => ?_)
    ·
     rw [if_pos (by omega)] at hrd
     have ht : take bs = some (zag (z + bs[i].toNat % 128 * 128 ^ i), i + 1) := by unfold take; rw [← hrd]; rfl
     have hlt64 := (rdn_lt bs 0 0 (by simp) (by omega) _ hrd.symm).1
     have hor := or_raw bs[i] hz hi9 h9
     refine wS $ wR $ zP rfl $ zP rfl $ uN rfl $ sv (vfld fl143f0 rfl) $ sv (vldc pl108 rfl) $ zI rfl $ sv (vadd rfl rfl (by omega)) $ sv (vslL Tryz.underlying108 sz5 rfl rfl (by omega) (by omega)) $ uN rfl $ sv (vfld fl143f0 rfl) $ stc (v := .slice _ _ _) pl108 sz108 rfl rfl rfl $ wN $ tN $ wS $ wR $ zI rfl $ sv (vshr rfl rfl (by omega)) $ sv (vcv is144 Tryz.underlying3 rfl) $ zI rfl $ sv (vand rfl rfl) $ sv (vcv is144 Tryz.underlying3 rfl) $ sv (vneg rfl) $ sv (vxor rfl rfl) $ yI rfl $ wN $ tN $ WC.ret $ WX.blockR $ tR $ tR $ WX.blockR $ tR $ xR rfl (()) (trivial) (by simp only [ht]; exact iv (by rw [hor]; exact zag_raw hlt64)) (fun w h => ?_)
     simp only [ht]
     have e : (((i : Int) + 1).toNat) = i + 1 := by omega
     rw [e] at h
     have h2 := (h.pk1.own_slice (i + 1) c (fun hci => List.drop_eq_nil_of_le (by simp; omega))).pk1
     rw [u8s_drop] at h2
     have hl : bs.length - (i + 1) = (bs.drop (i + 1)).length := by simp
     have h3 : Own w0 (cel r [.slice (slB base (i + 1) c 1) (bs.drop (i + 1)).length (c - (i + 1)), .bool false] 143 :: own (slB base (i + 1) c 1) 5 (u8s (bs.drop (i + 1))) :: A) w := by rw [← hl]; exact h2
     exact preader_mk (by simp; omega) h3
    ·
     rw [if_neg (by omega)] at hrd
     have hor := or_raw bs[i] hz hi9 h9
     have h9' : i ≠ 9 := fun h => by have := h9 h; omega
     refine WC.skip $ WX.blockN $ tN $ wR $ sv (vadd rfl rfl (by omega)) $ zI rfl $ wN $ WX.again ((i + 1, z + bs[i].toNat % 128 * 128 ^ i)) (⟨by simp only; omega, by simp only; omega, ?_, hrd⟩) (by simp only; omega) ⟨iv hor, rfl, trivial⟩ ⟨rfl, rfl, rfl, trivial⟩ (fun _ h => h)
     have e2 : 128 ^ (i + 1) = 128 ^ i * 128 := Nat.pow_succ ..
     have : bs[i].toNat % 128 * 128 ^ i ≤ 127 * 128 ^ i := Nat.mul_le_mul_right _ (by omega)
     simp only; omega
  ·
   have hnil : bs.drop i = [] := List.drop_eq_nil_of_le (by omega)
   rw [hnil] at hrd
   have ht : take bs = none := by unfold take; rw [← hrd]; rfl
   exact WC.exit $ WX.thenE $ WX.thenE $ WX.blockH $ tN $ wS $ wR $ zP rfl $ cl (pack_fail.perm (fun w h => preader_mk hc h)) ct73 rfl fun r17 hr17 => wN $ tN $ wS $ wR $ yI rfl $ wN $ tN $ WC.ret $ xR rfl (()) (trivial) (iv (by simp [ht])) (fun w h => by simpa [ht] using h)
end Go.Proofs.YtigjompojlhomaaGreat
end
section
set_option linter.unusedVariables false
set_option linter.unusedSimpArgs false
namespace Go.Sl
open Go.RowKit
section
variable {α : Type} {f : α → List Value} {s : Nat} {l m : List α} {i k : Nat} {a b : α} {v : Value}
end
end Go.Sl
end
section
set_option linter.unusedVariables false
set_option linter.unusedSimpArgs false
set_option maxRecDepth 4000
namespace Go.Proofs.YtigjompojlhomaaGreat
open Go.Sl Go.RowKit Go.Raft Go.Journal Go.Pack Go.Council
variable {w0 : World} {A : List HProp}
theorem rsomeC {w0 w : World} {A : List HProp} {base : Option Addr} {vs : List Value} (h0 : 0 < vs.length) (hR : RdC w0 A base vs) (h : Own w0 A w) : base.isSome = true := by
 obtain ⟨a, rfl, _⟩ := hR w h 0 _ (List.getElem?_eq_getElem h0)
 rfl
theorem take_snocC {k l : List Cl} {i : Nat} {a b : Cl} (h : k.take i = l.take i) (ha : k[i]? = some a) (hb : l[i]? = some b) (e : a = b) : k.take (i + 1) = l.take (i + 1) := by
 rw [List.take_add_one, List.take_add_one, h, ha, hb, e]
theorem cl_eq {a b : Cl} : a = b ↔ a.term = b.term ∧ a.data = b.data := by
 obtain ⟨q1, q2⟩ := a
 obtain ⟨q3, q4⟩ := b
 simp
theorem cells_equal {a b : Option Addr} {ca cb : Nat} {k l : List Cl} (hk : k.length ≤ 140737488351232) [hR : Reads w0 A a (cvs k)] [hS : Reads w0 A b (cvs l)] :
  Fun Tryz.prog w0 52 [.slice a k.length ca, .slice b l.length cb] A (Ru w0 (.bool (decide (k = l))) A) := by
 have hkl := cvs_length k
 have hll := cvs_length l
 refine Fun.enter Tryz.func52 rfl Tryz.ntmps52 rfl ?_
 refine wS $ wR $ yB rfl $ wN $ tN $ wS $ wS $ wR $ zS rfl $ sv (vlen Tryz.underlying54 rfl) $ zS rfl $ sv (vlen Tryz.underlying54 rfl) $ sv (vne rfl rfl) $ wN $ tN $ ?_
 refine WC.ite rfl (fun h1 => ?_) (fun h1 => ?_)
 ·
  exact wS $ wR $ yB rfl $ wN $ tN $ WC.ret $ tR $ xR rfl (()) (trivial) (bF (fun h => by rw [h] at h1; exact h1 rfl)) ow
 ·
  have hlen : k.length = l.length := by omega
  refine WC.skip $ tN $ wS $ wS $ wR $ zS rfl $ sv (vlen Tryz.underlying54 rfl) $ zI rfl $ wN $ tN $ WC.block $ ?_
  refine WC.loopS (ι := Nat) (fun i => [(13, .int .i64 i)]) [(0, .slice _ _ _), (1, .slice _ _ _), (12, .int _ _)] (fun i => i ≤ k.length ∧ k.take i = l.take i) (fun i => k.length - i) (0) (⟨Nat.zero_le _, rfl⟩) ⟨rfl, trivial⟩ ⟨rfl, rfl, rfl, trivial⟩ ?_
  intro i hi ρh
  refine wS $ wR $ sv (vlt rfl rfl) $ wN $ tN $ wS $ ?_
  refine WC.ite rfl (fun h2 => ?_) (fun h2 => ?_)
  ·
   have hil : i < k.length := by omega
   have hil2 : i < l.length := by omega
   obtain ⟨x, hx⟩ : ∃ x, k[i]? = some x := ⟨_, List.getElem?_eq_getElem hil⟩
   obtain ⟨y, hy⟩ : ∃ y, l[i]? = some y := ⟨_, List.getElem?_eq_getElem hil2⟩
   have hgx : ((cvs k).drop (((i : Int)).toNat * 2)).take 2 = cv x := by rw [Int.toNat_natCast]; exact cvs_take2 hx
   have hgy : ((cvs l).drop (((i : Int)).toNat * 2)).take 2 = cv y := by rw [Int.toNat_natCast]; exact cvs_take2 hy
   have hpk : 0 < (cvs k).length := by omega
   have hpl : 0 < (cvs l).length := by omega
   refine WC.skip $ tN $ wS $ WC.block $ wS $ wR $ zI rfl $ yI rfl $ wN $ tN $ wS $ WC.draws rfl (by kernel_rfl) $ qv (vmS rfl) $ qv (vmI rfl) $ qv (vix Tryz.underlying54 sz89 rfl rfl (by omega) (by omega) hR.rd hpk) $ qv (vlda ag89 sz89 rfl hR.rd hgx rfl (by decide)) $ qv (vmS rfl) $ qv (vmI rfl) $ qv (vix Tryz.underlying54 sz89 rfl rfl (by omega) (by omega) hS.rd hpl) $ qv (vlda ag89 sz89 rfl hS.rd hgy rfl (by decide)) $ qv (vneA eq89 rfl rfl rfl) $ WQ.nil $ tN $ ?_
   refine WC.iteb rfl (fun h3 => ?_) (fun h3 => ?_)
   ·
    have hne : ¬ x = y := fun e => by rw [cl_eq] at e; simp [e.1, e.2] at h3
    exact wS $ wR $ yB rfl $ wN $ tN $ WC.ret $ WX.blockR $ tR $ tR $ WX.blockR $ tR $ xR rfl (()) (trivial) (bF (fun e => hne (by rw [e, hy] at hx; exact (Option.some.inj hx).symm))) ow
   ·
    have hxy : x = y := by rw [cl_eq]; simpa using h3
    exact WC.skip $ WX.blockN $ tN $ wR $ sv (vadd rfl rfl (by omega)) $ zI rfl $ wN $ WX.again (i + 1) (⟨by omega, take_snocC hi.2 hx hy hxy⟩) (by omega) ⟨rfl, trivial⟩ ⟨rfl, rfl, rfl, trivial⟩ ow
  ·
   exact WC.exit $ WX.thenE $ WX.thenE $ WX.blockH $ tN $ wS $ wR $ yB rfl $ wN $ tN $ WC.ret $ xR rfl (()) (trivial) (bT (by have := hi.2; rwa [List.take_of_length_le (by omega), List.take_of_length_le (by omega)] at this)) ow
theorem pk_numC {base : Option Addr} {n c : Nat} {x : Int} {out : List UInt8} (bs : List UInt8) (hR : RdC w0 A base (u8s bs)) (hn : n = bs.length) (ho : out = bs ++ num x) (hb : bs.length ≤ 140737488351232) (hx : -9223372036854775808 ≤ x ∧ x ≤ 9223372036854775807) :
  Fun Tryz.prog w0 81 [.slice base n c, .int .i64 x] A (Ret w0 (fun i : Option Addr × Nat => out.length ≤ i.2) (fun i => .slice i.1 out.length i.2) (fun i => row i.1 i.2 1 5 (u8s out) :: A)) := by
 subst hn; subst ho
 rw [List.length_append]
 exact pack_num (hR := ⟨hR⟩) hb hx
theorem pk_textC {base : Option Addr} {n c : Nat} {s : ByteArray} {out : List UInt8} (bs : List UInt8) (hR : RdC w0 A base (u8s bs)) (hn : n = bs.length) (ho : out = bs ++ text s.data.toList) (hb : bs.length ≤ 140737488351232) (hs : bs.length + s.size ≤ 140737488351232) :
  Fun Tryz.prog w0 82 [.slice base n c, .string s] A (Ret w0 (fun i : Option Addr × Nat => out.length ≤ i.2) (fun i => .slice i.1 out.length i.2) (fun i => row i.1 i.2 1 5 (u8s out) :: A)) := by
 subst hn; subst ho
 rw [List.length_append]
 exact pack_text (hR := ⟨hR⟩) hb hs
theorem cellsB_snoc {l : List Cl} {i : Nat} {c : Cl} (h : l[i]? = some c) : cellsB (l.take (i + 1)) = cellsB (l.take i) ++ num c.term ++ text c.data.data.toList := by
 rw [List.take_add_one, h]
 show (l.take i ++ [c]).flatMap cellB = _
 rw [List.flatMap_append]
 simp [cellsB, cellB]
theorem cag (l : List Cl) (i : Nat) (h : i < l.length) : ((cvs l).drop (((i : Int)).toNat * 2)).take 2 = [.int .i64 (l.getD i ⟨0, ByteArray.empty⟩).term, .string (l.getD i ⟨0, ByteArray.empty⟩).data] := by
 rw [Int.toNat_natCast, List.getD_eq_getElem?_getD, List.getElem?_eq_getElem h]; exact cvs_take2 (List.getElem?_eq_getElem h)
theorem cag_eq {k l : List Cl} {i : Nat} (h1 : i < k.length) (h2 : i < l.length) : (decide ((k.getD i ⟨0, ByteArray.empty⟩).term = (l.getD i ⟨0, ByteArray.empty⟩).term) && (decide ((k.getD i ⟨0, ByteArray.empty⟩).data = (l.getD i ⟨0, ByteArray.empty⟩).data) && true)) = true ↔ (i < k.length ∧ i < l.length ∧ k[i]? = l[i]?) := by
 rw [List.getD_eq_getElem?_getD, List.getD_eq_getElem?_getD, List.getElem?_eq_getElem h1, List.getElem?_eq_getElem h2]
 simp only [Option.getD_some, Bool.and_true, Bool.and_eq_true, decide_eq_true_eq, Option.some.injEq, cl_eq, h1, h2, true_and]
structure ChI where
 i : Nat
 b : Option Addr
 c : Nat
theorem c_change {old now : St} {ob nb : Option Addr} {oc nc : Nat} (hlo : old.log.length ≤ 10000) (hln : now.log.length ≤ 10000) (hnc : now.log.length ≤ nc) (ht : 0 ≤ now.term ∧ now.term ≤ 1000000000) (hv : 0 ≤ now.vote ∧ now.vote ≤ 5) (hd : ∀ x ∈ now.log, (0 ≤ x.term ∧ x.term ≤ 1000000000) ∧ x.data.size ≤ 4096) [hR : Reads w0 A ob (cvs old.log)] [hS : Reads w0 A nb (cvs now.log)] :
  Fun Tryz.prog w0 54 [.agg (scells old.term old.vote ob old.log oc).toArray, .agg (scells now.term now.vote nb now.log nc).toArray] A (Ret w0 (fun i : Option Addr × Nat => (chg old now).bytes.length ≤ i.2) (fun i => .slice i.1 (chg old now).bytes.length i.2) (fun i => row i.1 i.2 1 5 (u8s (chg old now).bytes) :: A)) := by
 have hkl := cvs_length old.log
 have hll := cvs_length now.log
 obtain ⟨ot, ov, ol⟩ := old
 obtain ⟨nt, nv, nl⟩ := now
 dsimp only at hlo hln hnc ht hv hd hkl hll hR hS ⊢
 refine Fun.enter Tryz.func54 rfl Tryz.ntmps54 rfl ?_
 refine wS $ wR $ bxc (v := .agg _) (cs := [.int _ _, .int _ _, .slice _ _ _]) rfl rfl fun b1 => bxc (v := .agg _) (cs := [.int _ _, .int _ _, .slice _ _ _]) rfl rfl fun b2 => yS rfl $ wN $ tN $ wS $ wR $ yI rfl $ wN $ tN $ wS $ WC.block $ ?_
 refine WC.loopS (ι := Nat) (fun i => [(5, .int .i64 i)]) [(2, .pointer _), (3, .pointer _)] (fun i => (i ≤ ol.length ∧ i ≤ nl.length) ∧ ol.take i = nl.take i) (fun i => ol.length - i) (0) (⟨⟨Nat.zero_le _, Nat.zero_le _⟩, rfl⟩) ⟨rfl, trivial⟩ ⟨rfl, rfl, trivial⟩ ?_
 intro i hi ρh
 refine wS $ ?_
 refine WC.cutS [(30, .bool (decide (i < ol.length ∧ i < nl.length ∧ ol[i]? = nl[i]?)))] [(2, .pointer _), (3, .pointer _), (5, .int _ _)] ⟨rfl, rfl, rfl, trivial⟩ ?_ fun ρh => ?_
 ·
  refine WC.draws rfl (by kernel_rfl) $ qv (vmI rfl) $ qv (vfldp fl74f2 rfl) $ qv (vldc pl54 rfl) $ qv (vlen Tryz.underlying54 rfl) $ qv (vfldp fl74f2 rfl) $ qv (vldc pl54 rfl) $ qv (vlen Tryz.underlying54 rfl) $ qv (vmin rfl rfl) $ qvs (vlt rfl rfl) (fun q1 => ?_) (fun q1 => ?_)
  ·
   exact qv (vmB rfl) $ qvg rfl (vfldp fl74f2 rfl) $ qvg rfl (vldc pl54 rfl) $ qvg rfl (vmI rfl) $ qvg rfl (vix Tryz.underlying54 sz89 rfl rfl (by omega) (by omega) (hR.rd.mono ow) (by omega)) $ qvg rfl (vlda ag89 sz89 rfl (hR.rd.mono ow) (cag ol i (by omega)) rfl (by decide)) $ qvg rfl (vfldp fl74f2 rfl) $ qvg rfl (vldc pl54 rfl) $ qvg rfl (vmI rfl) $ qvg rfl (vix Tryz.underlying54 sz89 rfl rfl (by omega) (by omega) (hS.rd.mono ow) (by omega)) $ qvg rfl (vlda ag89 sz89 rfl (hS.rd.mono ow) (cag nl i (by omega)) rfl (by decide)) $ qvg rfl (veqA eq89 rfl rfl rfl) $ qv (vpkt rfl) $ WQ.nil $ xM () trivial ⟨bB (cag_eq (by omega) (by omega)), trivial⟩ ⟨rfl, rfl, rfl, trivial⟩ ow
  ·
   exact qv (vmB rfl) $ qng rfl $ qng rfl $ qng rfl $ qng rfl $ qng rfl $ qng rfl $ qng rfl $ qng rfl $ qng rfl $ qng rfl $ qng rfl $ qv (vpkf rfl) $ WQ.nil $ xM () trivial ⟨bF (fun h => q1 (by omega)), trivial⟩ ⟨rfl, rfl, rfl, trivial⟩ ow
 refine WC.ite rfl (fun h1 => ?_) (fun h1 => ?_)
 ·
  refine WC.skip $ tN $ WC.block $ wR $ zI rfl $ sv (vadd rfl rfl (by omega)) $ yI rfl $ wN $ WX.blockN $ WX.again (i + 1) (⟨⟨by omega, by omega⟩, by obtain ⟨a, ha⟩ : ∃ a, ol[i]? = some a := ⟨_, List.getElem?_eq_getElem h1.1⟩; exact take_snocC hi.2 ha (h1.2.2 ▸ ha) rfl⟩) (by omega) ⟨rfl, trivial⟩ ⟨rfl, rfl, trivial⟩ ow
 ·
  have hsm : same ol nl = i := same_of hi.1 hi.2 (by by_cases c1 : i = ol.length; exact .inl c1; by_cases c2 : i = nl.length; exact .inr (.inl c2); exact .inr (.inr fun e => h1 ⟨by omega, by omega, e⟩))
  have hbe : (chg ⟨ot, ov, ol⟩ ⟨nt, nv, nl⟩).bytes = num nt ++ num nv ++ num (i : Int) ++ num ((nl.length : Int) - (i : Int)) ++ cellsB (nl.drop i) := by have e : (((nl.length - i : Nat)) : Int) = (nl.length : Int) - (i : Int) := (by omega); unfold chg Rcd.bytes; dsimp only; rw [hsm, List.length_drop, e]
  have l1 := num_len (x := nt) (by omega)
  have l2 := num_len (x := nv) (by omega)
  have l3 := num_len (x := (i : Int)) (by omega)
  have l4 := num_len (x := (nl.length : Int) - (i : Int)) (by omega)
  have l5 := cellsB_len (l := nl.drop i) fun x hx => hd x (List.mem_of_mem_drop hx)
  have l6 : (nl.drop i).length = nl.length - i := List.length_drop
  have hS2 : RdC w0 A (slB nb i nc 2) (cvs (nl.drop i)) := by have h := hS.rd.slice i nc 2 ((nl.length - i) * 2) (by omega); rw [cvs_drop, List.take_of_length_le (by rw [cvs_length]; omega)] at h; exact h
  obtain ⟨cs, hcs⟩ : ∃ cs, cs = nl.drop i := ⟨_, rfl⟩
  rw [← hcs] at hbe l5 l6 hS2
  have hcd : ∀ x ∈ cs, (0 ≤ x.term ∧ x.term ≤ 1000000000) ∧ x.data.size ≤ 4096 := fun x hx => by rw [hcs] at hx; exact hd x (List.mem_of_mem_drop hx)
  obtain ⟨pre, hpre⟩ : ∃ pre, pre = num nt ++ num nv ++ num (i : Int) ++ num ((nl.length : Int) - (i : Int)) := ⟨_, rfl⟩
  rw [← hpre] at hbe
  have lp : pre.length ≤ 40 := by rw [hpre]; simp only [List.length_append]; omega
  refine WC.exit $ WX.thenE $ WX.thenE $ WX.blockH $ tN $ wS $ WC.plan (.pre [0, 1] (.one [3, 4] 2 (.bar [] 5 (.done [6])))) rfl (by kernel_rfl) $ WPl.preC $ dv (fun g => (vfldpz fl74f0 rfl)) $ dv (fun g => (vldc pl3 rfl)) $ WD.nil $ WPl.oneE (fun g => by infer_instance) $ dv (fun g => (vfldp fl74f1 rfl)) $ dv (fun g => (vldc pl3 rfl)) $ WD.eff rfl $ clxo (pk_numC (out := num nt) [] RdC.nil rfl rfl (by simp) (by omega)) ct81 rfl fun r14 hr14 => ?_
  refine wN $ WX.br $ WPl.barC $ WD.eff rfl $ clx (by repeat' (first | with_reducible exact Sb.all | exact Sb.nil | (apply Sb.cons; focus (first | ((repeat (first | with_reducible exact Tk.here | with_reducible apply Tk.there)); done) | ((repeat (first | exact Tk.here | apply Tk.there)); done))) | apply Sb.drop)) (pk_numC (out := num nt ++ num nv) (num nt) reads rfl rfl (by omega) (by omega)) ct81 rfl fun r16 hr16 => ?_
  refine wN $ WX.brT $ WPl.finC $ dv (fun g => (vaS rfl)) $ WD.nil $ tN $ wS $ WC.plan (.pre [0, 1] (.one [3, 4, 5, 6, 7] 2 (.bar [] 8 (.done [9])))) rfl (by kernel_rfl) $ WPl.preC $ dv (fun g => (vmS rfl)) $ dv (fun g => (vmI rfl)) $ WD.nil $ WPl.oneE (fun g => by infer_instance) $ dv (fun g => (vfldp fl74f2 rfl)) $ dv (fun g => (vldc pl54 rfl)) $ dv (fun g => (vlen Tryz.underlying54 rfl)) $ dv (fun g => (vmI rfl)) $ dv (fun g => (vsub rfl rfl (by omega))) $ WD.eff rfl $ clx (by repeat' (first | with_reducible exact Sb.all | exact Sb.nil | (apply Sb.cons; focus (first | ((repeat (first | with_reducible exact Tk.here | with_reducible apply Tk.there)); done) | ((repeat (first | exact Tk.here | apply Tk.there)); done))) | apply Sb.drop)) (pk_numC (out := num nt ++ num nv ++ num (i : Int)) (num nt ++ num nv) reads rfl rfl (by simp only [List.length_append]; omega) (by omega)) ct81 rfl fun r17 hr17 => ?_
  refine wN $ WX.br $ WPl.barC $ WD.eff rfl $ clx (by repeat' (first | with_reducible exact Sb.all | exact Sb.nil | (apply Sb.cons; focus (first | ((repeat (first | with_reducible exact Tk.here | with_reducible apply Tk.there)); done) | ((repeat (first | exact Tk.here | apply Tk.there)); done))) | apply Sb.drop)) (pk_numC (out := pre) (num nt ++ num nv ++ num (i : Int)) reads rfl hpre (by simp only [List.length_append]; omega) (by omega)) ct81 rfl fun r20 hr20 => ?_
  refine wN $ WX.brT $ WPl.finC $ dv (fun g => (vaS rfl)) $ WD.nil $ tN $ wS $ wS $ wR $ sv (vfldp fl74f2 rfl) $ sv (vldc pl54 rfl) $ zI rfl $ sv (vslL Tryz.underlying54 sz89 rfl rfl (by omega) (by omega)) $ sv (vlen Tryz.underlying54 rfl) $ zI rfl $ wN $ tN $ WC.block $ ?_
  refine WC.loop (ι := ChI) (fun q => [(6, .slice q.b (pre ++ cellsB (cs.take q.i)).length q.c), (53, .int .i64 q.i)]) [(51, .slice _ _ _), (52, .int _ _)] (fun q => row q.b q.c 1 5 (u8s (pre ++ cellsB (cs.take q.i))) :: A) (fun q => q.i ≤ cs.length ∧ (pre ++ cellsB (cs.take q.i)).length ≤ q.c) (fun q => cs.length - q.i) (⟨0, r20.1, r20.2⟩) (⟨Nat.zero_le _, by simpa [cellsB] using hr20⟩) ⟨(show Value.slice r20.1 pre.length r20.2 = .slice r20.1 (pre ++ cellsB (cs.take 0)).length r20.2 from by simp [cellsB]), rfl, trivial⟩ ⟨rfl, rfl, trivial⟩ (fun w h => by rw [show pre ++ cellsB (cs.take 0) = pre by simp [cellsB]]; exact Sb.o h) ?_
  rintro ⟨k, qb, qc⟩ ⟨hk1, hk2⟩ ρh
  dsimp only at hk1 hk2 ⊢
  refine wS $ wR $ sv (vlt rfl rfl) $ wN $ tN $ wS $ ?_
  refine WC.ite rfl (fun h2 => ?_) (fun h2 => ?_)
  ·
   have hkl : k < cs.length := by omega
   obtain ⟨a, ha⟩ : ∃ a, cs[k]? = some a := ⟨_, List.getElem?_eq_getElem hkl⟩
   have hda := hcd a (List.mem_of_getElem? ha)
   have l7 := cellsB_len (l := cs.take k) fun x hx => hcd x (List.mem_of_mem_take hx)
   rw [List.length_take] at l7
   have hsn := cellsB_snoc ha
   have hag : ((cvs cs).drop (((k : Int)).toNat * 2)).take 2 = [.int .i64 a.term, .string a.data] := by rw [Int.toNat_natCast]; exact cvs_take2 ha
   have hcl := cvs_length cs
   have l8 := num_len (x := a.term) (by omega)
   have hdl : a.data.data.toList.length = a.data.size := rfl
   refine WC.skip $ tN $ wS $ WC.block $ wS $ wR $ sv (vix Tryz.underlying54 sz89 rfl rfl (by omega) (by omega) (hS2.mono ow) (by omega)) $ sv (vlda ag89 sz89 rfl (hS2.mono ow) hag rfl (by decide)) $ alz (cs := [.int .i64 0, .string ByteArray.empty]) zt89 (by rfl) fun b25 => stAp sz89 rfl rfl rfl (by intro v hv; simp only [List.mem_cons, List.not_mem_nil, or_false] at hv; rcases hv with rfl | rfl <;> rfl) rfl $ wN $ tN $ WC.plan (.pre [0, 1, 2] (.one [4, 5] 3 (.bar [] 6 (.done [7])))) rfl (by kernel_rfl) $ WPl.preC $ dv (fun g => (vmS rfl)) $ dv (fun g => (vfldpz fl89f0 rfl)) $ dv (fun g => (vldc pl3 rfl)) $ WD.nil $ WPl.oneE (fun g => by infer_instance) $ dv (fun g => (vfldp fl89f1 rfl)) $ dv (fun g => (vldc pl9 rfl)) $ WD.eff rfl $ clx (by repeat' (first | with_reducible exact Sb.all | exact Sb.nil | (apply Sb.cons; focus (first | ((repeat (first | with_reducible exact Tk.here | with_reducible apply Tk.there)); done) | ((repeat (first | exact Tk.here | apply Tk.there)); done))) | apply Sb.drop)) (pk_numC (out := pre ++ cellsB (cs.take k) ++ num a.term) (pre ++ cellsB (cs.take k)) reads rfl rfl (by simp only [List.length_append]; omega) (by omega)) ct81 rfl fun r28 hr28 => ?_
   refine wN $ WX.br $ WPl.barC $ WD.eff rfl $ clx (by repeat' (first | with_reducible exact Sb.all | exact Sb.nil | (apply Sb.cons; focus (first | ((repeat (first | with_reducible exact Tk.here | with_reducible apply Tk.there)); done) | ((repeat (first | exact Tk.here | apply Tk.there)); done))) | apply Sb.drop)) (pk_textC (out := pre ++ cellsB (cs.take (k + 1))) (pre ++ cellsB (cs.take k) ++ num a.term) reads rfl (by rw [hsn]; simp only [List.append_assoc]) (by simp only [List.length_append]; omega) (by simp only [List.length_append]; omega)) ct82 rfl fun r30 hr30 => ?_
   exact wN $ WX.brT $ WPl.finC $ dv (fun g => (vaS rfl)) $ WD.nil $ WX.blockN $ tN $ wR $ sv (vadd rfl rfl (by omega)) $ zI rfl $ wN $ WX.again (⟨k + 1, r30.1, r30.2⟩) (⟨hkl, hr30⟩) (by dsimp only; omega) ⟨rfl, rfl, trivial⟩ ⟨rfl, rfl, trivial⟩ ow
  ·
   have hk3 : k = cs.length := by omega
   subst hk3
   rw [List.take_length] at hk2 ⊢
   rw [hbe]
   exact WC.exit $ WX.thenE $ WX.thenE $ WX.blockH $ tN $ wS $ wR $ zS rfl $ yS rfl $ wN $ tN $ WC.ret $ xR rfl ((qb, qc)) (hk2) rfl ow
theorem mvsD (l : List Mh) (i : Nat) : (mvs l).drop (i * 9) = mvs (l.drop i) := by
 by_cases hi : i ≤ l.length
 ·have h1 : mvs l = mvs (l.take i) ++ mvs (l.drop i) := by unfold mvs; rw [← List.flatMap_append, List.take_append_drop]
  rw [h1, List.drop_append_of_le_length (by rw [mvs_length, List.length_take]; omega), List.drop_eq_nil_of_le (by rw [mvs_length, List.length_take]; omega), List.nil_append]
 ·rw [List.drop_eq_nil_of_le (by rw [mvs_length]; omega), List.drop_eq_nil_of_le (by omega)]; rfl
theorem mvsT (l : List Mh) (i : Nat) : (mvs l).take (i * 9) = mvs (l.take i) := by
 by_cases hi : i ≤ l.length
 ·have h1 : mvs l = mvs (l.take i) ++ mvs (l.drop i) := by unfold mvs; rw [← List.flatMap_append, List.take_append_drop]
  rw [h1, List.take_left' (by rw [mvs_length, List.length_take]; omega)]
 ·rw [List.take_of_length_le (by rw [mvs_length]; omega), List.take_of_length_le (by omega)]
theorem mvs_nine {l : List Mh} {i : Nat} {m : Mh} (h : l[i]? = some m) : ((mvs l).drop (i * 9)).take 9 = mv m := by
 rw [mvsD]
 obtain ⟨hl, rfl⟩ := List.getElem?_eq_some_iff.1 h
 rw [List.drop_eq_getElem_cons hl]
 rfl
theorem mvs_one (l : List Mh) : ∀ v ∈ mvs l, v.oneCell' = true := by
 intro v hv
 unfold mvs at hv
 obtain ⟨m, _, hm⟩ := List.mem_flatMap.1 hv
 exact mv_one m v hm
theorem mvs_app (l k : List Mh) : mvs (l ++ k) = mvs l ++ mvs k := by unfold mvs; rw [List.flatMap_append]
theorem mrowsApp {w0 w : World} : ∀ {l k : List Mh} {A : List HProp}, Own w0 (mrows l :: mrows k :: A) w → Own w0 (mrows (l ++ k) :: A) w
 | [], k, A, H => H.tail
 | m :: l, k, A, H => by
  have h1 := H.star
  have h2 := mrowsApp (l := l) (k := k) (A := row m.cs.base m.cs.cap 2 89 (cvs m.cs.xs) :: A) (h1.ix [1, 2, 0])
  exact h2.pk1.intro_star
theorem mrowsCut {w0 w : World} : ∀ {l : List Mh} {j : Nat} {m : Mh} {A : List HProp}, l[j]? = some m → Own w0 (mrows l :: A) w → Own w0 (row m.cs.base m.cs.cap 2 89 (cvs m.cs.xs) :: mrows (l.eraseIdx j) :: A) w
 | [], _, _, _, h, _ => by simp at h
 | y :: l, 0, m, A, h, H => by simp at h; subst h; exact H.star
 | y :: l, j + 1, m, A, h, H => by
  have h2 := mrowsCut (l := l) (j := j) (m := m) (by simpa using h) H.star.pk1
  exact h2.pk2.pk2.pk1.intro_star.pk1
theorem mrowsTake {w0 w : World} : ∀ {l : List Mh} (i : Nat) {A : List HProp}, Own w0 (mrows l :: A) w → Own w0 (mrows (l.take i) :: A) w
 | [], i, A, H => by rw [List.take_nil]; exact H
 | m :: l, 0, A, H => H.tail.intro_emp
 | m :: l, i + 1, A, H => by
  have h1 := mrowsTake (l := l) i H.star.pk1
  exact h1.pk1.intro_star
theorem mrowsRd {ms : List Mh} {x : Mh} (hm : mrows ms ∈ A) (hx : x ∈ ms) : RdC w0 A x.cs.base (cvs x.cs.xs) := fun w hw => by
 obtain ⟨R, hR⟩ := hw.mem hm
 clear hm hw
 induction ms generalizing R with
 | nil => cases hx
 | cons z l ih =>
  have h1 := hR.star
  rcases List.mem_cons.1 hx with rfl | hx
  ·exact RdC.of_row (A := row x.cs.base x.cs.cap 2 89 (cvs x.cs.xs) :: mrows l :: R) (List.Mem.head _) w h1
  ·exact ih hx _ h1.pk1
theorem mvs_del {ms : List Mh} {i : Nat} (hi : i < ms.length) : splice (mvs ms) (i * 9) (mvs (ms.drop (i + 1))) = mvs (ms.eraseIdx i) ++ mvs (ms.drop (ms.length - 1)) := by
 unfold splice
 rw [mvsT, mvs_length, ← Nat.add_mul, mvsD, ← mvs_app, List.eraseIdx_eq_take_drop_succ, List.length_drop]
 rw [show i + (ms.length - (i + 1)) = ms.length - 1 by omega]
theorem mvs_pre {ms : List Mh} {i : Nat} (hi : i < ms.length) (zs : List Value) : mvs (ms.eraseIdx i) <+: splice (splice (mvs ms) (i * 9) (mvs (ms.drop (i + 1)))) ((ms.length - 1) * 9) zs := by
 have hl : (mvs (ms.eraseIdx i)).length = (ms.length - 1) * 9 := by rw [mvs_length, List.length_eraseIdx_of_lt hi]
 rw [mvs_del hi]
 unfold splice
 rw [← hl, List.take_left, List.append_assoc]
 exact List.prefix_append _ _
theorem mails_delete {ms : List Mh} {b : Option Addr} {i c : Nat} (hi : i < ms.length) (hc : ms.length ≤ c) (hl : ms.length ≤ 256) :
  Fun Tryz.prog w0 25 [.slice b ms.length c, .int .i64 (i : Int), .int .i64 ((i : Int) + 1)] (row b c 9 85 (mvs ms) :: A) (Ru w0 (.slice b (ms.length - 1 : Nat) c) (row b c 9 85 (mvs (ms.eraseIdx i)) :: A)) := by
 have hml := mvs_length ms
 have hdl := mvs_length (ms.drop (i + 1))
 have hrd : RdC w0 (row b c 9 85 (mvs ms) :: A) (slB b (i + 1) c 9) (mvs (ms.drop (i + 1))) := by have h := (RdC.of_row (w0 := w0) (A := row b c 9 85 (mvs ms) :: A) (List.Mem.head _)).slice (i + 1) c 9 ((ms.length - (i + 1)) * 9) (by omega); rw [mvsD, List.take_of_length_le (by rw [mvs_length, List.length_drop]; omega)] at h; exact h
 have hdl2 : (ms.drop (i + 1)).length = ms.length - (i + 1) := List.length_drop
 refine Fun.enter Tryz.func25 rfl Tryz.ntmps25 rfl ?_
 refine wS $ wR $ yS rfl $ wN $ tN $ wS $ wR $ zS rfl $ zI rfl $ zI rfl $ zS rfl $ sv (vlen Tryz.underlying41 rfl) $ sv (vslLHM Tryz.underlying41 sz85 rfl rfl rfl rfl (by omega) (by omega) (by omega) (by omega)) $ wN $ tN $ wS $ wS $ wR $ zI rfl $ zI rfl $ sv (veq rfl rfl) $ wN $ tN $ ?_
 refine WC.ite rfl (fun h1 => ?_) (fun h1 => ?_)
 ·
  exact absurd h1 (by omega)
 ·
  exact WC.skip $ tN $ wS $ wR $ zS rfl $ sv (vlen Tryz.underlying41 rfl) $ yI rfl $ wN $ tN $ wS $ WC.plan (.bar [0, 1, 2, 3, 4, 5] 6 (.done [7])) rfl (by kernel_rfl) $ WPl.barC $ dv (fun g => (vmS rfl)) $ dv (fun g => (vmI rfl)) $ dv (fun g => (vslH Tryz.underlying41 sz85 rfl rfl (by omega) (by omega))) $ dv (fun g => (vmS rfl)) $ dv (fun g => (vmI rfl)) $ dv (fun g => (vslL Tryz.underlying41 sz85 rfl rfl (by omega) (by omega))) $ WD.eff rfl $ apo (R := A) (l := i) (vs := mvs ms) (m := ms.length - (i + 1)) (news := mvs (ms.drop (i + 1))) rfl Tryz.underlying41 zt85 rfl rfl (by omega) (by omega) (mvs_one _) hrd $ wN $ WX.brT $ WPl.finC $ dv (fun g => (vaS rfl)) $ WD.nil $ tN $ wS $ wR $ zS rfl $ zS rfl $ sv (vlen Tryz.underlying41 rfl) $ zI rfl $ sv (vw (v' := .slice (slB b (ms.length - 1) c 9) 1 (c - (ms.length - 1))) (vslLH Tryz.underlying41 sz85 rfl rfl rfl (by omega) (by omega) (by omega)) (by have e1 : ((i + (ms.length - (i + 1)) : Nat) : Int).toNat = ms.length - 1 := (by omega); have e2 : ((ms.length : Nat) : Int).toNat - (ms.length - 1) = 1 := (by omega); simp only [Int.toNat_natCast, Nat.add_zero] at e1 e2 ⊢; rw [e1, e2])) $ clr (R := A) (lo := ms.length - 1) (m := 1) rfl Tryz.underlying41 zt85 rfl rfl rfl (by rw [mvs_del hi]; simp only [List.length_append, mvs_length, List.length_drop, List.length_eraseIdx_of_lt hi]; omega) $ wN $ tN $ wS $ wR $ zS rfl $ yS rfl $ wN $ tN $ WC.ret $ xR rfl (()) (trivial) (show Value.slice b (((i : Nat) : Int).toNat + (ms.length - (i + 1))) c = Value.slice b (ms.length - 1 : Nat) c from by rw [Int.toNat_natCast, show i + (ms.length - (i + 1)) = ms.length - 1 by omega]) (fun _ h => h.row_prefix (mvs_pre hi _))
theorem dropL {w0 w : World} {A : List HProp} : ∀ (B : List HProp), Own w0 (B ++ A) w → Own w0 A w
 | [], h => h
 | _ :: B, h => dropL B h.tail
theorem tick_do {p : Nat} {x : Rn} (hx : RInv x) (hw : x.waited + 1 ≤ 9223372036854775807) :
  Fun Tryz.prog w0 146 [.agg #[], .pointer (some ⟨p, 0, none⟩)] (hnode p x :: A) (MR w0 p A (tickS x)) := by
 refine Fun.enter Tryz.func146 rfl Tryz.ntmps146 rfl ?_
 refine wS $ wR $ bxc (v := .agg _) (cs := []) rfl rfl fun b1 => yS rfl $ wN $ tN $ wS $ wR $ zP rfl $ clxo (raft_tick hx hw) ct147 rfl fun r2 hr2 => ?_
 exact yS rfl $ wN $ tN $ WC.ret $ xR rfl (r2) (hr2) rfl ow
theorem take_do {p : Nat} {x : Rn} {m : Mh} (hx : RInv x) (hml : m.cs.xs.length ≤ 9223372036854775807) (hcc : m.cs.xs.length ≤ m.cs.cap) [hR : Reads w0 A m.cs.base (cvs m.cs.xs)] :
  Fun Tryz.prog w0 137 [.agg (mv m).toArray, .pointer (some ⟨p, 0, none⟩)] (hnode p x :: A) (MR w0 p A (takeS x m.ml)) := by
 refine Fun.enter Tryz.func137 rfl Tryz.ntmps137 rfl ?_
 refine wS $ wR $ bxc (v := .agg _) (cs := [.int _ _, .int _ _, .int _ _, .int _ _, .int _ _, .int _ _, .int _ _, .bool _, .slice _ _ _]) rfl rfl fun b1 => yS rfl $ wN $ tN $ wS $ wR $ zP rfl $ sv (vfldpz fl91f0 rfl) $ sv (vldac ag85 sz85 rfl rfl (by decide)) $ clx (by repeat' (first | with_reducible exact Sb.all | exact Sb.nil | (apply Sb.cons; focus (first | ((repeat (first | with_reducible exact Tk.here | with_reducible apply Tk.there)); done) | ((repeat (first | exact Tk.here | apply Tk.there)); done))) | apply Sb.drop)) (raft_take (m := m) (hR := ⟨hR.rd.mono ow⟩) hx hml hcc) ct138 rfl fun r3 hr3 => ?_
 exact yS rfl $ wN $ tN $ WC.ret $ xR rfl (r3) (hr3) rfl ow
theorem prop_do {p bn be : Nat} {x : Rn} {d : ByteArray} {v0 v1 : Int} (hx : RInv x) (h : proposeE x d = 0) :
  Fun Tryz.prog w0 129 [.agg #[.string d, .pointer (some ⟨bn, 0, none⟩), .pointer (some ⟨be, 0, none⟩)], .pointer (some ⟨p, 0, none⟩)] (hnode p x :: cel bn [.int .i64 v0] 3 :: cel be [.int .i64 v1] 25 :: A) (MR w0 p (cel bn [.int .i64 ((x.log.length : Int) + 1)] 3 :: cel be [.int .i64 0] 25 :: A) (proposeS x d)) := by
 refine Fun.enter Tryz.func129 rfl Tryz.ntmps129 rfl ?_
 refine wS $ wR $ bxc (v := .agg _) (cs := [.string _, .pointer _, .pointer _]) rfl rfl fun b1 => yS rfl $ wN $ tN $ wS $ wR $ zP rfl $ sv (vfldpz fl79f0 rfl) $ sv (vldc pl9 rfl) $ clxo (raft_propose hx h) ct130 rfl fun r3 hr3 => ?_
 refine sv vmv $ sv (vex rfl rfl) $ sv (vex rfl rfl) $ sv (vex rfl rfl) $ yI rfl $ yS rfl $ yI rfl $ wN $ tN $ wS $ WC.plan (.pre [0, 1, 4, 6] (.one [2, 3, 5] 7 (.bar [8] 9 (.done [])))) rfl (by kernel_rfl) $ WPl.preC $ dv (fun g => (vfldp fl79f1 rfl)) $ dv (fun g => (vldc pl76 rfl)) $ dv (fun g => (vmI rfl)) $ dv (fun g => (vnil rfl)) $ WD.nil $ WPl.oneX [cel bn [.int .i64 v0] 3] (by repeat' (first | exact Spl.nil | (apply Spl.cons; focus (first | ((repeat (first | with_reducible exact Tk.here | with_reducible apply Tk.there)); done) | ((repeat (first | exact Tk.here | apply Tk.there)); done))))) (fun g => by infer_instance) ?_
 exact dv (fun g => (vfldp fl79f2 rfl)) $ dv (fun g => (vldc pl77 rfl)) $ dv (fun g => (vmI rfl)) $ WD.eff rfl $ stp (v := .int _ _) pl3 sz3 rfl rfl rfl $ wN $ WX.br $ WPl.barC $ dv (fun g => (vnil rfl)) $ WD.eff rfl $ stp (v := .int _ _) pl25 sz25 rfl rfl rfl $ wN $ WX.brT $ WPl.finC $ WD.nil $ tN $ wS $ wR $ zS rfl $ yS rfl $ wN $ tN $ WC.ret $ xR rfl (r3) (hr3) rfl ow
theorem prop_do_err {p bn be : Nat} {x : Rn} {d : ByteArray} {v0 v1 : Int} (h : proposeE x d ≠ 0) :
  Fun Tryz.prog w0 129 [.agg #[.string d, .pointer (some ⟨bn, 0, none⟩), .pointer (some ⟨be, 0, none⟩)], .pointer (some ⟨p, 0, none⟩)] (hnode p x :: cel bn [.int .i64 v0] 3 :: cel be [.int .i64 v1] 25 :: A) (MR w0 p (cel bn [.int .i64 0] 3 :: cel be [.int .i64 (proposeE x d)] 25 :: A) (x, [])) := by
 refine Fun.enter Tryz.func129 rfl Tryz.ntmps129 rfl ?_
 refine wS $ wR $ bxc (v := .agg _) (cs := [.string _, .pointer _, .pointer _]) rfl rfl fun b1 => yS rfl $ wN $ tN $ wS $ wR $ zP rfl $ sv (vfldpz fl79f0 rfl) $ sv (vldc pl9 rfl) $ clxo (raft_propose_err h) ct130 rfl fun r3 hr3 => ?_
 refine sv vmv $ sv (vex rfl rfl) $ sv (vex rfl rfl) $ sv (vex rfl rfl) $ yI rfl $ yS rfl $ yI rfl $ wN $ tN $ wS $ WC.plan (.pre [0, 1, 4, 6] (.one [2, 3, 5] 7 (.bar [8] 9 (.done [])))) rfl (by kernel_rfl) $ WPl.preC $ dv (fun g => (vfldp fl79f1 rfl)) $ dv (fun g => (vldc pl76 rfl)) $ dv (fun g => (vmI rfl)) $ dv (fun g => (vnil rfl)) $ WD.nil $ WPl.oneX [cel bn [.int .i64 v0] 3] (by repeat' (first | exact Spl.nil | (apply Spl.cons; focus (first | ((repeat (first | with_reducible exact Tk.here | with_reducible apply Tk.there)); done) | ((repeat (first | exact Tk.here | apply Tk.there)); done))))) (fun g => by infer_instance) ?_
 exact dv (fun g => (vfldp fl79f2 rfl)) $ dv (fun g => (vldc pl77 rfl)) $ dv (fun g => (vmI rfl)) $ WD.eff rfl $ stp (v := .int _ _) pl3 sz3 rfl rfl rfl $ wN $ WX.br $ WPl.barC $ dv (fun g => (vnil rfl)) $ WD.eff rfl $ stp (v := .int _ _) pl25 sz25 rfl rfl rfl $ wN $ WX.brT $ WPl.finC $ WD.nil $ tN $ wS $ wR $ zS rfl $ yS rfl $ wN $ tN $ WC.ret $ xR rfl ((none, 0, [])) (⟨rfl, Nat.le_refl _⟩) rfl (fun w h => no_mails (Sb.o h))
theorem nptrs_at {l : List ME} {j : Nat} {e : ME} (h : l[j]? = some e) : (nptrC (l.map ME.q))[(((j : Int) + 1) - 1).toNat]? = some (.pointer (some ⟨e.q, 0, none⟩)) := by
 rw [show ((j : Int) + 1) - 1 = (j : Int) by omega]
 exact nptrC_at (by rw [List.getElem?_map, h]; rfl)
theorem putM_same {S : CS} {j : Nat} {m : Mg} (h : S.ms[j]? = some m) : putM S j m = S := by
 obtain ⟨hl, rfl⟩ := List.getElem?_eq_some_iff.1 h
 unfold putM
 rw [List.set_getElem_self]
theorem c_step_low {p : Nat} {S : CS} {i : Int} {t : TypeId} {v : Value} (hi : i < 1) :
  Fun Tryz.prog w0 21 [.pointer (some ⟨p, 0, none⟩), .int .i64 i, .iface t v] (hc p S :: A) (Ru w0 (.bool false) (hc p S :: A)) := by
 refine Fun.enter Tryz.func21 rfl Tryz.ntmps21 rfl ?_
 refine wS $ wR $ yB rfl $ wN $ tN $ wS $ ?_
 refine WC.cutS [(36, .bool (decide (True)))] [(0, .pointer _), (1, .int _ _), (2, .iface _ _)] ⟨rfl, rfl, rfl, trivial⟩ ?_ fun ρh => ?_
 ·
  exact wR $ zI rfl $ sv (vT (vlt rfl rfl) (by omega)) $ zB rfl $ sng rfl $ sng rfl $ sng rfl $ sng rfl $ sng rfl $ sng rfl $ sng rfl $ uT rfl $ zB rfl $ sng rfl $ sng rfl $ sng rfl $ sng rfl $ sng rfl $ sng rfl $ sng rfl $ sng rfl $ sng rfl $ sng rfl $ sng rfl $ sng rfl $ uT rfl $ wN $ xM () trivial ⟨bTa, trivial⟩ ⟨rfl, rfl, rfl, trivial⟩ ow
 refine WC.tt rfl ?_
 exact wS $ wR $ yB rfl $ wN $ tN $ WC.ret $ tR $ xR rfl (()) (trivial) rfl ow
theorem c_step_high {p : Nat} {S : CS} {i : Int} {t : TypeId} {v : Value} (h1 : 1 ≤ i) (hi : (S.ms.length : Int) < i) :
  Fun Tryz.prog w0 21 [.pointer (some ⟨p, 0, none⟩), .int .i64 i, .iface t v] (hc p S :: A) (Ru w0 (.bool false) (hc p S :: A)) := by
 refine Fun.ex (fun w h => hc_open h) ?_
 intro b hb
 have hbl := hb.len.1
 refine Fun.enter Tryz.func21 rfl Tryz.ntmps21 rfl ?_
 refine wS $ wR $ yB rfl $ wN $ tN $ wS $ ?_
 refine WC.cutS [(36, .bool (decide (True)))] [(0, .pointer _), (1, .int _ _), (2, .iface _ _)] ⟨rfl, rfl, rfl, trivial⟩ ?_ fun ρh => ?_
 ·
  exact wR $ zI rfl $ sv (vF (vlt rfl rfl) (by omega)) $ zB rfl $ svg rfl (vmI rfl) $ svg rfl (vmP rfl) $ svg rfl (vnil rfl) $ svg rfl (vfldpz fl43f0 rfl) $ svg rfl (vldc pl40 rfl) $ svg rfl (vlen Tryz.underlying40 rfl) $ svg rfl (vT (vgt rfl rfl) (by omega)) $ uF rfl $ zB rfl $ sng rfl $ sng rfl $ sng rfl $ sng rfl $ sng rfl $ sng rfl $ sng rfl $ sng rfl $ sng rfl $ sng rfl $ sng rfl $ sng rfl $ uT rfl $ wN $ xM () trivial ⟨bTa, trivial⟩ ⟨rfl, rfl, rfl, trivial⟩ ow
 refine WC.tt rfl ?_
 exact wS $ wR $ yB rfl $ wN $ tN $ WC.ret $ tR $ xR rfl (()) (trivial) rfl (fun w h => hc_mk hb (Sb.o h))
theorem c_step_nil {p j : Nat} {S : CS} {m : Mg} {t : TypeId} {v : Value} (hl5 : S.ms.length ≤ 5) (hj : S.ms[j]? = some m) (hn : m.node = none) :
  Fun Tryz.prog w0 21 [.pointer (some ⟨p, 0, none⟩), .int .i64 ((j : Int) + 1), .iface t v] (hc p S :: A) (Ru w0 (.bool false) (hc p S :: A)) := by
 refine Fun.ex (fun w h => hc_open h) ?_
 intro b hb
 have hbl := hb.len.1
 obtain ⟨e, he, hem⟩ := hb.at_ hj
 subst hem
 have hjl : j < b.l.length := by by_cases hh : j < b.l.length; exact hh; rw [List.getElem?_eq_none (by omega)] at he; cases he
 refine Fun.ex (fun w h => (hman_down hn (cL_out he h)).elim fun jo h => ⟨jo, True.intro, h⟩) ?_
 intro jo _
 have hpt := nptrs_at he
 have hpl : 0 < (nptrC (b.l.map ME.q)).length := by rw [nptrC_length, List.length_map]; omega
 refine Fun.enter Tryz.func21 rfl Tryz.ntmps21 rfl ?_
 refine wS $ wR $ yB rfl $ wN $ tN $ wS $ ?_
 refine WC.cutS [(36, .bool (decide (True)))] [(0, .pointer _), (1, .int _ _), (2, .iface _ _)] ⟨rfl, rfl, rfl, trivial⟩ ?_ fun ρh => ?_
 ·
  exact wR $ zI rfl $ sv (vF (vlt rfl rfl) (by omega)) $ zB rfl $ svg rfl (vmI rfl) $ svg rfl (vmP rfl) $ svg rfl (vnil rfl) $ svg rfl (vfldpz fl43f0 rfl) $ svg rfl (vldc pl40 rfl) $ svg rfl (vlen Tryz.underlying40 rfl) $ svg rfl (vF (vgt rfl rfl) (by omega)) $ uF rfl $ zB rfl $ svg rfl (vmP rfl) $ svg rfl (vnil rfl) $ svg rfl (vfldpz fl43f0 rfl) $ svg rfl (vldc pl40 rfl) $ svg rfl (vmI rfl) $ svg rfl (vsub rfl rfl (by omega)) $ svg rfl (vix1 Tryz.underlying40 sz44 rfl rfl (by omega) (by omega) reads hpl) $ svg rfl (vldr pl44 rfl hpt) $ svg rfl (vnil rfl) $ svg rfl (vfldp fl50f1 rfl) $ svg rfl (vldc pl47 rfl) $ svg rfl (vpeqT Tryz.underlying47 rfl rfl) $ uF rfl $ wN $ xM () trivial ⟨bTa, trivial⟩ ⟨rfl, rfl, rfl, trivial⟩ ow
 refine WC.tt rfl ?_
 exact wS $ wR $ yB rfl $ wN $ tN $ WC.ret $ tR $ xR rfl (()) (trivial) rfl (fun w h => hc_mk (by have h2 := hb.set (m := e.m) he; rwa [putM_same hj] at h2) (cL_in he (hman_mkD hn (Sb.o h))))
theorem stOf_iff {x y : Rn} : stOf y = stOf x ↔ y.term = x.term ∧ y.vote = x.vote ∧ y.log = x.log := by
 unfold stOf
 simp
def DoF (w0 : World) (fd : FuncId) (v : Value) (A A' : List HProp) (f : Rn → Rn × List Ml) (x : Rn) : Prop :=
 ∀ (np : Nat) (B : List HProp), Fun Tryz.prog w0 fd [v, .pointer (some ⟨np, 0, none⟩)] (hnode np x :: (B ++ A)) (MR w0 np (B ++ A') (f x))
theorem c_step_up {w0 : World} {A A' : List HProp} {p j K : Nat} {S : CS} {m : Mg} {x : Rn} {n id : Int} {t : TypeId} {v : Value} {fd : FuncId} {f : Rn → Rn × List Ml} (hl5 : S.ms.length ≤ 5) (hml : S.mails.length ≤ 256) (hj : S.ms[j]? = some m) (hn : m.node = some x)
  (hm : MgOk n id K m) (hK : K ≤ 505) (hn5 : n ≤ 5) (hy : RInv (f x).1) (hyn : (f x).1.n = n) (hw : Wr x.log (f x).1.log)
  (hmt : methT Tryz.prog t "watershed/council.do" fd false = true) (hct : callT Tryz.prog fd = true) (hdo : DoF w0 fd v A A' f x) :
  Fun Tryz.prog w0 21 [.pointer (some ⟨p, 0, none⟩), .int .i64 ((j : Int) + 1), .iface t v] (hc p S :: A) (Ru w0 (.bool (Go.Council.stepC j f S).2) (hc p (Go.Council.stepC j f S).1 :: A')) := by
 refine Fun.ex (fun w h => hc_open h) ?_
 intro b hb
 have hbl := hb.len.1
 have hbm := hb.len.2
 have hbc := hb.mc
 obtain ⟨e, he, hem⟩ := hb.at_ hj
 have hjl : j < b.l.length := by by_cases hh : j < b.l.length; exact hh; rw [List.getElem?_eq_none (by omega)] at he; cases he
 obtain ⟨g1, g2, g3, g4, g5⟩ := hm.up x hn
 have hst : Go.Council.stepC j f S = (⟨S.ms.set j (stepM x (f x).1 m).1, if (stepM x (f x).1 m).2 = true then sendM S.mails (f x).2 else S.mails⟩, (stepM x (f x).1 m).2) := by unfold Go.Council.stepC; rw [hj]; dsimp only; rw [hn]
 refine Fun.ex (fun w h => (hman_up (by rw [hem]; exact hn) (cL_out he h)).elim fun i h => ⟨i, True.intro, h⟩) ?_
 rintro ⟨np, jp⟩ _
 dsimp only
 have hpt := nptrs_at he
 have hpl : 0 < (nptrC (b.l.map ME.q)).length := by rw [nptrC_length, List.length_map]; omega
 rw [hem]
 obtain ⟨y, out, hfx⟩ : ∃ y out, f x = (y, out) := ⟨_, _, rfl⟩
 rw [hfx] at hy hyn hw hst
 dsimp only at hy hyn hw hst
 have hdo2 : ∀ (np : Nat) (B : List HProp), Fun Tryz.prog w0 fd [v, .pointer (some ⟨np, 0, none⟩)] (hnode np x :: (B ++ A)) (MR w0 np (B ++ A') (y, out)) := fun np B => hfx ▸ hdo np B
 have hlx := g2.log
 have hly := hy.log
 have hrec := rec_of hm hn hy (by omega) hw
 have hyv : 0 ≤ y.vote ∧ y.vote ≤ 5 := ⟨hy.vote.1, Int.le_trans hy.vote.2 (by omega)⟩
 have hdk := hm.deeds
 have hln := hm.len
 have hrl := hrec.len
 have hcs : ∀ c ∈ y.log, (0 ≤ c.term ∧ c.term ≤ 1000000000) ∧ c.data.size ≤ 4096 := fun c hc => by have h1 := rises_mem hy.rise c hc; have h2 := hy.term; exact ⟨⟨by omega, by omega⟩, h1.2.2.2⟩
 refine Fun.enter Tryz.func21 rfl Tryz.ntmps21 rfl ?_
 refine wS $ wR $ yB rfl $ wN $ tN $ wS $ ?_
 refine WC.cutS [(36, .bool (decide (False)))] [(0, .pointer _), (1, .int _ _), (2, .iface _ _)] ⟨rfl, rfl, rfl, trivial⟩ ?_ fun ρh => ?_
 ·
  exact wR $ zI rfl $ sv (vF (vlt rfl rfl) (by omega)) $ zB rfl $ svg rfl (vmI rfl) $ svg rfl (vmP rfl) $ svg rfl (vnil rfl) $ svg rfl (vfldpz fl43f0 rfl) $ svg rfl (vldc pl40 rfl) $ svg rfl (vlen Tryz.underlying40 rfl) $ svg rfl (vF (vgt rfl rfl) (by omega)) $ uF rfl $ zB rfl $ svg rfl (vmP rfl) $ svg rfl (vnil rfl) $ svg rfl (vfldpz fl43f0 rfl) $ svg rfl (vldc pl40 rfl) $ svg rfl (vmI rfl) $ svg rfl (vsub rfl rfl (by omega)) $ svg rfl (vix1 Tryz.underlying40 sz44 rfl rfl (by omega) (by omega) reads hpl) $ svg rfl (vldr pl44 rfl hpt) $ svg rfl (vnil rfl) $ svg rfl (vfldp fl50f1 rfl) $ svg rfl (vldc pl47 rfl) $ svg rfl (vpeqF Tryz.underlying47 rfl rfl) $ uF rfl $ wN $ xM () trivial ⟨bFa, trivial⟩ ⟨rfl, rfl, rfl, trivial⟩ ow
 refine WC.ff rfl ?_
 refine WC.skip $ tN $ wS $ wR $ zP rfl $ uN rfl $ sv (vfldpz fl43f0 rfl) $ sv (vldc pl40 rfl) $ zI rfl $ sv (vsub rfl rfl (by omega)) $ sv (vix1 Tryz.underlying40 sz44 rfl rfl (by omega) (by omega) reads hpl) $ sv (vldr pl44 rfl hpt) $ sv (vaP rfl) $ wN $ tN $ wS $ wR $ zP rfl $ uN rfl $ sv (vfldp fl50f1 rfl) $ sv (vldc pl47 rfl) $ clxo (raft_stable g2) ct46 rfl fun r13 hr13 => ?_
 refine alz (cs := [.int .i64 0, .int .i64 0, .slice none 0 0]) zt74 (by rfl) fun b14 => stAp sz74 rfl rfl rfl (by intro v hv; simp only [List.mem_cons, List.not_mem_nil, or_false] at hv; rcases hv with rfl | rfl | rfl <;> rfl) rfl $ wN $ tN $ wS $ WC.plan (.bar [0, 1, 2, 3, 4, 5, 6, 7] 8 (.done [9])) rfl (by kernel_rfl) $ WPl.barC $ dv (fun g => (vmE rfl)) $ dv (fun g => (vmP rfl)) $ dv (fun g => (vnil rfl)) $ dv (fun g => (vfldp fl50f1 rfl)) $ dv (fun g => (vldc pl47 rfl)) $ dv (fun g => (vfnm rfl)) $ dv (fun g => (vnilm hmt rfl)) $ dv (fun g => (vmE rfl)) $ WD.eff rfl $ cli (A' := hnode np x :: row r13.1 r13.2 2 89 (cvs x.log) :: cel b14 (scells x.term x.vote r13.1 x.log r13.2) 74 :: cel e.q (mcell e.dk (some ⟨np, 0, none⟩) (some ⟨jp, 0, none⟩)) 50 :: pdisk e.dk m.st :: cel jp (jcells e.dk lnm m.rs.length false) 141 :: cL1 p j b A) (by repeat' (first | with_reducible exact Sb.all | exact Sb.nil | (apply Sb.cons; focus (first | ((repeat (first | with_reducible exact Tk.here | with_reducible apply Tk.there)); done) | ((repeat (first | exact Tk.here | apply Tk.there)); done))) | apply Sb.drop)) hmt (show Fun Tryz.prog w0 fd _ _ (MR w0 np (row r13.1 r13.2 2 89 (cvs x.log) :: cel b14 (scells x.term x.vote r13.1 x.log r13.2) 74 :: cel e.q (mcell e.dk (some ⟨np, 0, none⟩) (some ⟨jp, 0, none⟩)) 50 :: pdisk e.dk m.st :: cel jp (jcells e.dk lnm m.rs.length false) 141 :: cL1 p j b A') (y, out)) from hdo2 np [row r13.1 r13.2 2 89 (cvs x.log), cel b14 (scells x.term x.vote r13.1 x.log r13.2) 74, cel e.q (mcell e.dk (some ⟨np, 0, none⟩) (some ⟨jp, 0, none⟩)) 50, pdisk e.dk m.st, cel jp (jcells e.dk lnm m.rs.length false) 141, cel p (ccell b) 43, row b.lb b.lc 1 44 (nptrC (b.l.map ME.q)), hmans (b.l.eraseIdx j), row b.mb b.mc 9 85 (mvs b.ms), mrows b.ms]) hct rfl rfl fun r17 hr17 => ?_
 dsimp only at hr17 ⊢
 refine wN $ WX.brT $ WPl.finC $ dv (fun g => (vaS rfl)) $ WD.nil $ tN $ wS $ wR $ zP rfl $ uN rfl $ sv (vfldp fl50f1 rfl) $ sv (vldc pl47 rfl) $ clxo (raft_stable hy) ct46 rfl fun r19 hr19 => ?_
 refine alz (cs := [.int .i64 0, .int .i64 0, .slice none 0 0]) zt74 (by rfl) fun b20 => stAp sz74 rfl rfl rfl (by intro v hv; simp only [List.mem_cons, List.not_mem_nil, or_false] at hv; rcases hv with rfl | rfl | rfl <;> rfl) rfl $ wN $ tN $ ?_
 refine WC.cutv (ι := Unit) (fun i => []) [(0, .pointer _), (9, .slice _ _ _)] (fun i => row r17.1 r17.2.1 9 85 (mvs r17.2.2) :: mrows r17.2.2 :: hman e.q e.dk (stepM x y m).1 :: cL1 p j b A') (fun i => (stepM x y m).2 = true) ⟨rfl, rfl, trivial⟩ ?_ ?_
 ·
  refine WC.cutS [(83, .bool (decide (¬ stOf y = stOf x)))] [(0, .pointer _), (7, .pointer _), (8, .pointer _), (9, .slice _ _ _), (10, .pointer _)] ⟨rfl, rfl, rfl, rfl, rfl, trivial⟩ ?_ fun ρh => ?_
  ·
   refine wR $ sv (vfldpz fl74f0 rfl) $ sv (vldc pl3 rfl) $ sv (vfldpz fl74f0 rfl) $ sv (vldc pl3 rfl) $ svs (vne rfl rfl) (fun q1 => ?_) (fun q1 => ?_)
   ·
    exact zB rfl $ sng rfl $ sng rfl $ sng rfl $ sng rfl $ sng rfl $ uT rfl $ zB rfl $ sng rfl $ sng rfl $ sng rfl $ sng rfl $ sng rfl $ sng rfl $ uT rfl $ wN $ xM () trivial ⟨bT (fun h => q1 (congrArg St.term h)), trivial⟩ ⟨rfl, rfl, rfl, rfl, rfl, trivial⟩ ow
   ·
    refine zB rfl $ svg rfl (vfldp fl74f1 rfl) $ svg rfl (vldc pl3 rfl) $ svg rfl (vfldp fl74f1 rfl) $ svg rfl (vldc pl3 rfl) $ svsg rfl (vne rfl rfl) (fun q2 => ?_) (fun q2 => ?_)
    ·
     exact uF rfl $ zB rfl $ sng rfl $ sng rfl $ sng rfl $ sng rfl $ sng rfl $ sng rfl $ uT rfl $ wN $ xM () trivial ⟨bT (fun h => q2 (congrArg St.vote h)), trivial⟩ ⟨rfl, rfl, rfl, rfl, rfl, trivial⟩ ow
    ·
     refine uF rfl $ zB rfl $ svg rfl (vfldp fl74f2 rfl) $ svg rfl (vldc pl54 rfl) $ svg rfl (vfldp fl74f2 rfl) $ svg rfl (vldc pl54 rfl) $ gy rfl $ clxo (cells_equal (by omega)) ct52 rfl fun r28 hr28 => ?_
     exact svg rfl (vnot rfl) $ uF rfl $ wN $ xM () trivial ⟨bB (by rw [stOf_iff]; simp [Decidable.not_not.1 q1, Decidable.not_not.1 q2]), trivial⟩ ⟨rfl, rfl, rfl, rfl, rfl, trivial⟩ ow
  refine WC.ite rfl (fun h2 => ?_) (fun h2 => ?_)
  ·
   have hstep : stepM x y m = saveS (chg (stOf x) (stOf y)) y m := if_neg h2
   have hl1 : (chg (stOf x) (stOf y)).bytes.length ≤ 1048576 := by omega
   refine wS $ WC.plan (.pre [4, 5] (.one [0, 1, 2, 3] 6 (.bar [] 7 (.done [8])))) rfl (by kernel_rfl) $ WPl.preC $ dv (fun g => (vldac ag74 sz74 rfl rfl (by decide))) $ dv (fun g => (vldac ag74 sz74 rfl rfl (by decide))) $ WD.nil $ WPl.oneE (fun g => by infer_instance) $ dv (fun g => (vmP rfl)) $ dv (fun g => (vnil rfl)) $ dv (fun g => (vfldp fl50f2 rfl)) $ dv (fun g => (vldc pl48 rfl)) $ WD.eff rfl $ clxo (c_change (old := stOf x) (now := stOf y) hlx hly hr19 hy.term hyv hcs) ct54 rfl fun r32 hr32 => ?_
   refine wN $ WX.br $ WPl.barC $ WD.eff rfl $ clx (by repeat' (first | with_reducible exact Sb.all | exact Sb.nil | (apply Sb.cons; focus (first | ((repeat (first | with_reducible exact Tk.here | with_reducible apply Tk.there)); done) | ((repeat (first | exact Tk.here | apply Tk.there)); done))) | apply Sb.drop)) (journal_add_ok (rec := (chg (stOf x) (stOf y)).bytes) reads rfl hl1 lnm_len ⟨hdk.1, by omega⟩ ⟨by omega, by omega⟩) ct53 rfl fun r33 hr33 => ?_
   refine wN $ WX.brT $ WPl.finC $ dv (fun g => (vne rfl rfl)) $ WD.nil $ tN $ ?_
   refine WC.ite rfl (fun h3 => ?_) (fun h3 => ?_)
   ·
    have hsv : saveS (chg (stOf x) (stOf y)) y m = (⟨(addP lnm (chg (stOf x) (stOf y)).bytes m.st).1, none, if onDisk (addP lnm (chg (stOf x) (stOf y)).bytes m.st).1 = m.rs.length + 1 then m.rs ++ [chg (stOf x) (stOf y)] else m.rs⟩, false) := if_neg h3
    rw [hst, hstep, hsv]
    exact wS $ wR $ zP rfl $ uN rfl $ sv (vfldp fl50f1 rfl) $ stp (v := .pointer _) pl47 sz47 rfl rfl rfl $ wN $ tN $ wS $ wR $ yB rfl $ wN $ tN $ WC.ret $ tR $ xR rfl (()) (trivial) rfl (fun w h => hc_mk (hb.set he) (cL_in he (hman_mkD (A := cL1 p j b A') (m := ⟨(addP lnm (chg (stOf x) (stOf y)).bytes m.st).1, none, if onDisk (addP lnm (chg (stOf x) (stOf y)).bytes m.st).1 = m.rs.length + 1 then m.rs ++ [chg (stOf x) (stOf y)] else m.rs⟩) (jo := some ⟨jp, 0, none⟩) rfl (Sb.o h))))
   ·
    have hz := Decidable.not_not.1 h3
    have hsv : saveS (chg (stOf x) (stOf y)) y m = (⟨(addP lnm (chg (stOf x) (stOf y)).bytes m.st).1, some y, m.rs ++ [chg (stOf x) (stOf y)]⟩, true) := if_pos hz
    rw [hstep, hsv]
    exact WC.skip $ xM (()) (rfl) trivial ⟨rfl, rfl, trivial⟩ (fun w h => (hman_mkU (A := row r17.1 r17.2.1 9 85 (mvs r17.2.2) :: mrows r17.2.2 :: cL1 p j b A') (m := ⟨(addP lnm (chg (stOf x) (stOf y)).bytes m.st).1, some y, m.rs ++ [chg (stOf x) (stOf y)]⟩) (np := np) (jp := jp) rfl (by have h4 : Own w0 (cel jp (jcells e.dk lnm (if (addP lnm (chg (stOf x) (stOf y)).bytes m.st).2 = 0 then (m.rs.length : Int) + 1 else m.rs.length) (decide ((addP lnm (chg (stOf x) (stOf y)).bytes m.st).2 = 20))) 141 :: _) w := Sb.o h; rw [if_pos hz, hz] at h4; rw [List.length_append]; exact Sb.o h4)).ix [1, 2, 0])
  ·
   have hstep : stepM x y m = (⟨m.st, some y, m.rs⟩, true) := if_pos (Decidable.not_not.1 h2)
   rw [hstep]
   exact WC.skip $ xM (()) (rfl) trivial ⟨rfl, rfl, trivial⟩ (fun w h => (hman_mkU (A := row r17.1 r17.2.1 9 85 (mvs r17.2.2) :: mrows r17.2.2 :: cL1 p j b A') (m := ⟨m.st, some y, m.rs⟩) (np := np) (jp := jp) rfl (Sb.o h)).ix [1, 2, 0])
 ·
  intro i hi ρh
  obtain ⟨m2, bb, hm2⟩ : ∃ m2 bb, stepM x y m = (m2, bb) := ⟨_, _, rfl⟩
  rw [hm2] at hst hi ⊢
  dsimp only at hst hi ⊢
  subst hi
  rw [if_pos rfl] at hst
  rw [hst]
  have hm1 := mvs_length b.ms
  have hm2 := mvs_length (r17.2.2.take (256 - b.ms.length))
  have htl : (r17.2.2.take (256 - b.ms.length)).length = min (256 - b.ms.length) r17.2.2.length := List.length_take
  refine wS $ wR $ zP rfl $ uN rfl $ sv (vfldp fl43f1 rfl) $ sv (vldc pl41 rfl) $ sv (vlen Tryz.underlying41 rfl) $ sv (vsub rfl rfl (by omega)) $ yI rfl $ wN $ tN $ wS $ WC.plan (.pre [1, 2, 3, 4, 5, 6, 7, 8, 9, 10, 11] (.one [0] 12 (.bar [13, 14] 15 (.done [])))) rfl (by kernel_rfl) $ WPl.preC $ dv (fun g => (vmP rfl)) $ dv (fun g => (vnil rfl)) $ dv (fun g => (vfldp fl43f1 rfl)) $ dv (fun g => (vldc pl41 rfl)) $ dv (fun g => (vmS rfl)) $ dv (fun g => (vmS rfl)) $ dv (fun g => (vlen Tryz.underlying41 rfl)) $ dv (fun g => (vmI rfl)) $ dv (fun g => (vmax rfl rfl)) $ dv (fun g => (vmin rfl rfl)) $ dv (fun g => (vw (v' := .slice r17.1 (r17.2.2.take (256 - b.ms.length)).length r17.2.1) (vslH Tryz.underlying41 sz85 rfl rfl (by omega) (by omega)) (iv' (by rw [List.length_take]; omega)))) $ WD.nil $ WPl.oneX [row b.mb b.mc 9 85 (mvs b.ms)] (by repeat' (first | exact Spl.nil | (apply Spl.cons; focus (first | ((repeat (first | with_reducible exact Tk.here | with_reducible apply Tk.there)); done) | ((repeat (first | exact Tk.here | apply Tk.there)); done))))) (fun g => by infer_instance) ?_
  refine dv (fun g => (vmP rfl)) $ WD.eff rfl $ pm ow $ ap (vs := mvs b.ms) (news := mvs (r17.2.2.take (256 - b.ms.length))) rfl Tryz.underlying41 zt85 rfl rfl rfl (by omega) (by omega) (mvs_one _) (by rw [← mvsT]; exact RdC.take reads _) (by simp only [maxLen]; omega) (by omega) fun base41 c41 hc41 => ?_
  refine wN $ WX.br $ WPl.barC $ dv (fun g => (vnil rfl)) $ dv (fun g => (vfldp fl43f1 rfl)) $ WD.eff rfl $ stp (v := .slice _ _ _) pl41 sz41 rfl rfl rfl $ wN $ WX.brT $ WPl.finC $ WD.nil $ tN $ wS $ wR $ yB rfl $ wN $ tN $ WC.ret $ xR rfl (()) (trivial) rfl (fun w h => ?_)
  obtain ⟨tk, htk⟩ : ∃ tk, tk = r17.2.2.take (256 - b.ms.length) := ⟨_, rfl⟩
  have h2 : Own w0 (mrows r17.2.2 :: _) w := Sb.o h
  have h3 := mrowsTake (256 - b.ms.length) h2
  rw [← htk] at h3
  have h4 : Own w0 (mrows b.ms :: mrows tk :: _) w := Sb.o h3
  have h5 := mrowsApp h4
  refine hc_mk (b := { b with l := b.l.set j ⟨e.q, e.dk, m2⟩, ms := b.ms ++ tk, mb := base41, mc := c41 }) ⟨(hb.set (m := m2) he).l, by show (b.ms ++ tk).map Mh.ml = sendM S.mails out; rw [List.map_append, hb.ms, htk, List.map_take, hr17.1, hbm]; rfl, by show (b.ms ++ tk).length ≤ c41; rw [List.length_append, htk]; exact hc41, (hb.set (m := m2) he).lc⟩ ?_
  refine cL_in (b := { b with ms := b.ms ++ tk, mb := base41, mc := c41 }) he ?_
  show Own w0 (hman e.q e.dk m2 :: cel p [.slice b.lb b.l.length b.lc, .slice base41 (b.ms ++ tk).length c41] 43 :: row b.lb b.lc 1 44 (nptrC (b.l.map ME.q)) :: hmans (b.l.eraseIdx j) :: row base41 c41 9 85 (mvs (b.ms ++ tk)) :: mrows (b.ms ++ tk) :: A') w
  rw [mvs_app, List.length_append]
  exact Sb.o h5
end Go.Proofs.YtigjompojlhomaaGreat
end
section
set_option linter.unusedVariables false
set_option linter.unusedSimpArgs false
set_option maxRecDepth 4000
namespace Go.Proofs.YtigjompojlhomaaGreat
open Go.Sl Go.Pack Go.RowKit
variable {w0 : World} {A : List HProp}
def rtext (bs : List UInt8) : Option (List UInt8 × List UInt8) := match take bs with
 | none => none
 | some (n, k) => if n < 0 ∨ ((bs.drop k).length : Int) < n then none else some ((bs.drop k).take n.toNat, (bs.drop k).drop n.toNat)
def rstate (r : Nat) (x : Option (List UInt8)) : HProp := preader r (x.getD []) x.isNone
theorem pack_rtext {r : Nat} {bs : List UInt8} (hb : bs.length ≤ 140737488355328) :
  Fun Tryz.prog w0 41 [.pointer (some ⟨r, 0, none⟩)] (preader r bs false :: A)
   (Ru w0 (.string ⟨(((rtext bs).map (·.1)).getD []).toArray⟩) (rstate r ((rtext bs).map (·.2)) :: A)) := by
 have hN := pack_rnum (w0 := w0) (A := A) (r := r) (bs := bs) (bad := false) hb
 rcases ht : take bs with _ | ⟨n, k⟩
 ·have hrt : rtext bs = none := by unfold rtext; rw [ht]
  rw [hrt]
  simp only [ht, Bool.false_eq_true, if_false, Option.map_none, Option.getD_none] at hN
  refine Fun.enter Tryz.func41 rfl Tryz.ntmps41 rfl ?_
  refine wS $ wR $ sv (vaT rfl) $ wN $ tN $ wS $ wR $ zP rfl $ cl hN ct39 rfl fun _ _ => yI rfl $ wN $ tN $ ?_
  refine WC.ex (fun w h => preader_open h) ?_
  rintro ⟨base, c⟩ hc
  exact wS $ wS $ wR $ zP rfl $ sv (vpeqF Tryz.underlying109 rfl rfl) $ zB rfl $ svg rfl (vmP rfl) $ svg rfl (vnil rfl) $ svg rfl (vfld fl143f1 rfl) $ svg rfl (vldc pl4 rfl) $ uF rfl $ wN $ tN $ WC.tt rfl $ wS $ wR $ sv (vaT rfl) $ wN $ tN $ WC.ret $ tR $ xR rfl () trivial rfl (fun w h => preader_mk hc h)
 ·simp only [ht, Bool.false_eq_true, if_false, Option.map_some, Option.getD_some] at hN
  have hrd : ∃ z, rdn 0 0 bs = some (z, k) ∧ n = zag z := by
   unfold take at ht
   cases h : rdn 0 0 bs with
   | none => simp [h] at ht
   | some p => obtain ⟨z, k'⟩ := p; simp [h] at ht; exact ⟨z, by simp [ht.2], ht.1.symm⟩
  obtain ⟨z, hz, hn⟩ := hrd
  have hzl := (rdn_lt bs 0 0 (by simp) (by omega) _ hz).1
  have hnb : -9223372036854775808 ≤ n ∧ n ≤ 9223372036854775807 := by rw [hn]; unfold zag; split <;> omega
  refine Fun.enter Tryz.func41 rfl Tryz.ntmps41 rfl ?_
  refine wS $ wR $ sv (vaT rfl) $ wN $ tN $ wS $ wR $ zP rfl $ cl hN ct39 rfl fun _ _ => yI rfl $ wN $ tN $ ?_
  refine WC.ex (fun w h => preader_open h) ?_
  rintro ⟨base, c⟩ hc
  dsimp only at hc ⊢
  refine wS $ wS $ wR $ zP rfl $ sv (vpeqF Tryz.underlying109 rfl rfl) $ zB rfl $ svg rfl (vmP rfl) $ svg rfl (vnil rfl) $ svg rfl (vfld fl143f1 rfl) $ svg rfl (vldc pl4 rfl) $ uF rfl $ wN $ tN $ WC.ff rfl $ WC.skip $ tN $ wS $ ?_
  generalize hds : bs.drop k = ds at *
  refine WC.cut0 [(25, .bool (decide (n < 0 ∨ (ds.length : Int) < n)))] [(0, .pointer _), (3, .int _ _)] (cel r [.slice base ds.length c, .bool false] 143 :: own base 5 (u8s ds) :: A) ⟨rfl, rfl, trivial⟩ ?_ fun ρh => ?_
  ·refine wR $ zI rfl $ svs (vlt rfl rfl) (fun q3 => ?_) (fun q3 => ?_)
   ·exact zB rfl $ sng rfl $ sng rfl $ sng rfl $ sng rfl $ sng rfl $ sng rfl $ sng rfl $ uT rfl $ wN $ xM () trivial ⟨bT (by omega), trivial⟩ ⟨rfl, rfl, trivial⟩ (fun _ h => h)
   ·exact zB rfl $ svg rfl (vmI rfl) $ svg rfl (vmP rfl) $ svg rfl (vnil rfl) $ svg rfl (vfld fl143f0 rfl) $ svg rfl (vldc pl108 rfl) $ svg rfl (vlen Tryz.underlying108 rfl) $ svg rfl (vgt rfl rfl) $ uF rfl $ wN $ xM () trivial ⟨bI (by omega), trivial⟩ ⟨rfl, rfl, trivial⟩ (fun _ h => h)
  refine WC.ite rfl (fun h2 => ?_) (fun h2 => ?_)
  ·have hrt : rtext bs = none := by unfold rtext; rw [ht]; simp only [hds]; rw [if_pos h2]
   rw [hrt]
   exact wS $ wR $ zP rfl $ cl (pack_fail.perm (fun w h => preader_mk hc h)) ct73 rfl fun _ _ => wN $ tN $ wS $ wR $ sv (vaT rfl) $ wN $ tN $ WC.ret $ tR $ xR rfl () trivial rfl (fun _ h => h)
  ·have hrt : rtext bs = some (ds.take n.toNat, ds.drop n.toNat) := by unfold rtext; rw [ht]; simp only [hds]; rw [if_neg h2]
   rw [hrt]
   have h0 : 0 ≤ n := by omega
   have h1 : n ≤ ds.length := by omega
   have hlt : (ds.take n.toNat).length = n.toNat := by simp; omega
   have hstr : Reads w0 (cel r [.slice base ds.length c, .bool false] 143 :: own base 5 (u8s ds) :: A) base (u8s (ds.take n.toNat)) := ⟨by
    have := (reads (w0 := w0) (A := cel r [.slice base ds.length c, .bool false] 143 :: own base 5 (u8s ds) :: A) (base := base)).take n.toNat
    rwa [u8s_take] at this⟩
   refine WC.skip $ tN $ wS $ wR $ zP rfl $ uN rfl $ sv (vfld fl143f0 rfl) $ sv (vldc pl108 rfl) $ zI rfl $ sv (vslH Tryz.underlying108 sz5 rfl rfl h0 (by omega)) $ sv (vstr Tryz.underlying108 Tryz.underlying5 Tryz.underlying9 rfl hstr.rd hlt.symm) $ sv (vaT rfl) $ wN $ tN $ wS $ wR $ zP rfl $ zP rfl $ uN rfl $ sv (vfld fl143f0 rfl) $ sv (vldc pl108 rfl) $ zI rfl $ sv (vslL Tryz.underlying108 sz5 rfl rfl h0 h1) $ uN rfl $ sv (vfld fl143f0 rfl) $ stc (v := .slice _ _ _) pl108 sz108 rfl rfl rfl $ wN $ tN $ wS $ wR $ sv (vmT rfl) $ sv (vaT rfl) $ wN $ tN $ WC.ret $ xR rfl () trivial rfl (fun w h => ?_)
   have h2 := (h.pk1.own_slice n.toNat c (fun hci => List.drop_eq_nil_of_le (by simp; omega))).pk1
   rw [u8s_drop] at h2
   have hl : ds.length - n.toNat = (ds.drop n.toNat).length := by simp
   rw [hl] at h2
   exact preader_mk (by simp; omega) h2
theorem pack_rtext_bad {r : Nat} {bs : List UInt8} (hb : bs.length ≤ 140737488355328) :
  Fun Tryz.prog w0 41 [.pointer (some ⟨r, 0, none⟩)] (preader r bs true :: A)
   (Ru w0 (.string ByteArray.empty) (preader r bs true :: A)) := by
 have hN := pack_rnum (w0 := w0) (A := A) (r := r) (bs := bs) (bad := true) hb
 simp only [if_true] at hN
 refine Fun.enter Tryz.func41 rfl Tryz.ntmps41 rfl ?_
 refine wS $ wR $ sv (vaT rfl) $ wN $ tN $ wS $ wR $ zP rfl $ cl (hN) ct39 rfl fun _ _ => ?_
 refine WL.ex (fun w h => preader_open h) ?_
 rintro ⟨base, c⟩ hc
 dsimp only at hc ⊢
 refine yI rfl $ wN $ tN $ wS $ ?_
 refine WC.cut0 [(14, .bool (decide (True)))] [(0, .pointer _), (3, .int _ _)] (cel r [.slice base bs.length c, .bool true] 143 :: own base 5 (u8s bs) :: A) ⟨rfl, rfl, trivial⟩ ?_ fun ρh => ?_
 ·
  exact wR $ zP rfl $ sv (vpeqF Tryz.underlying109 rfl rfl) $ zB rfl $ svg rfl (vmP rfl) $ svg rfl (vnil rfl) $ svg rfl (vfld fl143f1 rfl) $ svg rfl (vldc pl4 rfl) $ uF rfl $ wN $ xM () trivial ⟨bT trivial, trivial⟩ ⟨rfl, rfl, trivial⟩ (fun _ h => h)
 refine WC.tt rfl ?_
 exact wS $ wR $ sv (vaT rfl) $ wN $ tN $ WC.ret $ tR $ xR rfl (()) (trivial) rfl (fun w h => preader_mk hc h)
theorem pack_bad {r : Nat} {bs : List UInt8} {bad : Bool} :
  Fun Tryz.prog w0 40 [.pointer (some ⟨r, 0, none⟩)] (preader r bs bad :: A) (Ru w0 (.bool bad) (preader r bs bad :: A)) := by
 refine Fun.ex (fun w h => preader_open h) ?_
 rintro ⟨base, c⟩ hc
 dsimp only at hc ⊢
 refine Fun.enter Tryz.func40 rfl Tryz.ntmps40 rfl ?_
 refine wS $ wR $ yB rfl $ wN $ tN $ ?_
 refine WC.cut0 [(2, .bool bad)] [] (cel r [.slice base bs.length c, .bool bad] 143 :: own base 5 (u8s bs) :: A) trivial ?_ fun ρh => ?_
 ·
  exact wR $ zP rfl $ sv (vpneT Tryz.underlying109 rfl rfl) $ zB rfl $ svg rfl (vmP rfl) $ svg rfl (vnil rfl) $ svg rfl (vfld fl143f1 rfl) $ svg rfl (vldc pl4 rfl) $ uT rfl $ yB rfl $ wN $ xM () trivial ⟨rfl, trivial⟩ trivial (fun _ h => h)
 exact WC.ret $ xR rfl (()) (trivial) rfl (fun w h => preader_mk hc h)
theorem rd_take {base : Option Addr} {bs : List UInt8} (h : RdC w0 A base (u8s bs)) (m : Nat) : RdC w0 A base (u8s (bs.take m)) := by
 have := h.take m
 rwa [u8s_take] at this
end Go.Proofs.YtigjompojlhomaaGreat
end
section
set_option linter.unusedVariables false
set_option linter.unusedSimpArgs false
set_option maxRecDepth 4000
namespace Go.Proofs.YtigjompojlhomaaGreat
open Go.Sl Go.RowKit Go.Pack
variable {w0 : World} {A : List HProp}
theorem ref_sum {base : Option Addr} {c : Nat} {bs : List UInt8} [hR : Reads w0 A base (u8s bs)] (hb : bs.length ≤ 140737488355328) :
  Fun Tryz.prog w0 108 [.slice base bs.length c] A (Ru w0 (.int .u32 (sum bs)) A) := by
 refine Fun.enter Tryz.func108 rfl Tryz.ntmps108 rfl ?_
 refine wS $ wR $ yI rfl $ wN $ tN $ wS $ wR $ yI rfl $ wN $ tN $ wS $ wS $ wR $ yI rfl $ wN $ tN $ WC.block $ ?_
 refine WC.loop (ι := Nat) (fun i => [(3, .int .u32 (crc (BitVec.allOnes 32) (bs.take i)).toNat), (4, .int .i64 i)]) [(0, .slice _ _ _)] (fun i => A) (fun i => i ≤ bs.length) (fun i => bs.length - i) (0) (by omega) ⟨iv (by simp [crc]), rfl, trivial⟩ ⟨rfl, trivial⟩ (fun _ h => h) ?_
 intro i hi ρh
 refine wS $ wS $ wR $ zI rfl $ zS rfl $ sv (vlen Tryz.underlying108 rfl) $ sv (vlt rfl rfl) $ wN $ tN $ ?_
 refine WC.ite rfl (fun h1 => ?_) (fun h1 => ?_)
 ·
  have h1' : i < bs.length := by omega
  generalize hr : crc (BitVec.allOnes 32) (bs.take i) = r
  refine WC.skip $ tN $ wS $ WC.block $ wS $ wR $ yI rfl $ wN $ tN $ WC.block $ ?_
  refine WC.loop (ι := Nat) (fun k => [(3, .int .u32 (refbits r bs[i] k).toNat), (5, .int .i64 k)]) [(0, .slice _ _ _), (4, .int _ _)] (fun k => A) (fun k => k ≤ 8) (fun k => 8 - k) (0) (by omega) ⟨iv (by rw [refbits_zero]), rfl, trivial⟩ ⟨rfl, rfl, trivial⟩ (fun _ h => h) ?_
  intro k hk ρh2
  refine wS $ wS $ wR $ zI rfl $ sv (vlt rfl rfl) $ wN $ tN $ ?_
  refine WC.ite rfl (fun h2 => ?_) (fun h2 => ?_)
  ·
   have hk8 : k < 8 := by omega
   have hbit := bit_raw bs[i] k hk8
   have hlt := (refbits r bs[i] k).isLt
   have hm1 : ((refbits r bs[i] k).toNat : Int).tmod 2 = (((refbits r bs[i] k).toNat % 2 : Nat) : Int) := by rw [Int.tmod_eq_emod_of_nonneg (by omega)]; omega
   have hm2 : ((bs[i].toNat >>> k : Nat) : Int).tmod 2 = (((bs[i].toNat >>> k) % 2 : Nat) : Int) := by generalize bs[i].toNat >>> k = m; rw [Int.tmod_eq_emod_of_nonneg (by omega)]; omega
   have hd : IntKind.u32.wrap (((refbits r bs[i] k).toNat : Int).tdiv 2) = ((refbits r bs[i] k >>> 1).toNat : Int) := by
    rw [Int.tdiv_eq_ediv_of_nonneg (by omega), IntKind.wrap_u32, BitVec.toNat_ushiftRight]; omega
   refine WC.skip $ tN $ wS $ WC.block $ wS $ wR $ zI rfl $ sv (vrem rfl rfl (by decide)) $ zS rfl $ zI rfl $ sv (vixb Tryz.underlying108 sz5 rfl rfl (by omega) (by omega) (by omega)) $ sv (vldb pl5 rfl h1') $ zI rfl $ sv (vshr rfl rfl (by omega)) $ sv (vcv is5 Tryz.underlying171 rfl) $ sv (vrem rfl rfl (by decide)) $ sv (vne rfl rfl) $ yB rfl $ wN $ tN $ wS $ wR $ zI rfl $ sv (vquo rfl rfl (by decide)) $ yI rfl $ wN $ tN $ wS $ wR $ zB rfl $ wN $ tN $ ?_
   refine WC.ite rfl (fun h3 => ?_) (fun h3 => ?_)
   ·
    rw [hbit, hm1, hm2] at h3
    have hs := refbits_succ r bs[i] k
    rw [if_pos (by omega)] at hs
    exact wR $ zI rfl $ sv (vxor rfl rfl) $ yI rfl $ wN $ WX.blockN $ tN $ wR $ zI rfl $ sv (vadd rfl rfl (by omega)) $ yI rfl $ wN $ WX.again (k + 1) (by omega) (by omega) ⟨iv (by rw [hs, hd]; exact Pack.u32_xor _ poly), rfl, trivial⟩ ⟨rfl, rfl, trivial⟩ (fun _ h => h)
   ·
    rw [hbit, hm1, hm2] at h3
    have hs := refbits_succ r bs[i] k
    rw [if_neg (by omega), BitVec.xor_zero] at hs
    exact WC.skip $ WX.blockN $ tN $ wR $ zI rfl $ sv (vadd rfl rfl (by omega)) $ yI rfl $ wN $ WX.again (k + 1) (by omega) (by omega) ⟨iv (by rw [hs, hd]), rfl, trivial⟩ ⟨rfl, rfl, trivial⟩ (fun _ h => h)
  ·
   have hk8 : k = 8 := by omega
   subst hk8
   exact WC.exit $ WX.thenE $ WX.thenE $ WX.blockH $ WX.blockN $ tN $ wR $ zI rfl $ sv (vadd rfl rfl (by omega)) $ yI rfl $ wN $ WX.again (i + 1) (by omega) (by omega) ⟨iv (by rw [List.take_succ_eq_append_getElem h1', crc_snoc, hr, refbits_eight]), rfl, trivial⟩ ⟨rfl, trivial⟩ (fun _ h => h)
 ·
  have hi' : i = bs.length := by omega
  subst hi'
  exact WC.exit $ WX.thenE $ WX.thenE $ WX.blockH $ tN $ wS $ wR $ zI rfl $ sv (vcom rfl) $ yI rfl $ wN $ tN $ WC.ret $ xR rfl (()) (trivial) (iv (by rw [List.take_length]; exact com_raw _)) (fun _ h => h)
end Go.Proofs.YtigjompojlhomaaGreat
end
section
set_option linter.unusedVariables false
set_option linter.unusedSimpArgs false
set_option maxRecDepth 4000
namespace Go.Proofs.YtigjompojlhomaaGreat
open Go.Sl Go.Pack Go.RowKit
variable {w0 : World} {A : List HProp}
theorem ref_num {x : Int} (hx : -9223372036854775808 ≤ x ∧ x ≤ 9223372036854775807) :
  Fun Tryz.prog w0 88 [.int .i64 x] A
   (Ret w0 (fun i : Option Addr × Nat => (num x).length ≤ i.2) (fun i => .slice i.1 (num x).length i.2) (fun i => row i.1 i.2 1 5 (u8s (num x)) :: A)) := by
 have hz := zig_lt hx
 have hn := leb_len10 hz
 refine Fun.enter Tryz.func88 rfl Tryz.ntmps88 rfl ?_
 refine wS $ wR $ yS rfl $ wN $ tN $ wS $ wR $ yI rfl $ wN $ tN $ wS $ wS $ wR $ zI rfl $ sv (vge rfl rfl) $ wN $ tN $ ?_
 refine WC.ite rfl (fun h1 => ?_) (fun h1 => ?_)
 ·
  refine wR $ zI rfl $ sv (vcv is3 Tryz.underlying144 rfl) $ sv (vmulr rfl rfl) $ yI rfl $ wN $ tN $ wS $ wR $ yS rfl $ wN $ tN $ wS $ WC.block $ ?_
  refine WC.loop (ι := Nat × List UInt8 × Option Addr × Nat) (fun i => [(3, .int .u64 i.1), (4, .slice i.2.2.1 i.2.1.length i.2.2.2)]) [] (fun i => row i.2.2.1 i.2.2.2 1 5 (u8s i.2.1) :: A) (fun i => i.2.1 ++ leb i.1 = leb (zig x)) (fun i => i.1) ((zig x, [], none, 0)) (rfl) ⟨iv (ref_zig_pos hx h1), rfl, trivial⟩ trivial (fun w h => h.intro_row_nil) ?_
  rintro ⟨z, out, base', c'⟩ hi ρh
  dsimp only at hi ⊢
  have hlen : out.length + (leb z).length ≤ 10 := by rw [← List.length_append, hi]; exact hn
  have hpos := leb_pos z
  have hzl : z < 18446744073709551616 ∨ True := .inr trivial
  refine wS $ wS $ wR $ zI rfl $ sv (vge rfl rfl) $ wN $ tN $ ?_
  refine WC.ite rfl (fun h2 => ?_) (fun h2 => ?_)
  ·
   have h3 := leb_ge (z := z) (by omega)
   refine WC.skip $ tN $ WC.block $ wS $ wR $ zS rfl $ zI rfl $ sv (vrem rfl rfl (by decide)) $ sv (vaddr rfl rfl) $ sv (vcv is144 Tryz.underlying5 rfl) $ ap1 (v := .int _ _) Tryz.underlying108 zt5 rfl (fun _ => rfl) (fun _ => rfl) rfl rfl rfl (by simp) (by simp only [maxLen]; omega) (by omega) fun _ base10 c10 hc10 => yS rfl $ wN $ tN $ wR $ zI rfl $ sv (vquo rfl rfl (by decide)) $ yI rfl $ wN $ WX.blockN $ WX.again ((z / 128, out ++ [UInt8.ofNat (z % 128 + 128)], base10, c10)) (by simp only; rw [List.append_assoc, List.singleton_append, ← h3]; exact hi) (by simp only; omega) ⟨iv (ref_quo (by have : z ≤ zig x := (leb_sub hi); omega)), by simp only [List.length_append]; rfl, trivial⟩ trivial (fun w h => ?_)
   rw [ref_more] at h
   have e : u8s out ++ [u8v (UInt8.ofNat (z % 128 + 128))] = u8s (out ++ [UInt8.ofNat (z % 128 + 128)]) := by simp [u8s]
   rw [e] at h
   exact h
  ·
   have h3 := leb_lt (z := z) (by omega)
   refine WC.exit $ WX.thenE $ WX.thenE $ WX.blockH $ tN $ wS $ wR $ zS rfl $ zI rfl $ sv (vcv is144 Tryz.underlying5 rfl) $ ap1 (v := .int _ _) Tryz.underlying108 zt5 rfl (fun _ => rfl) (fun _ => rfl) rfl rfl rfl (by simp) (by simp only [maxLen]; omega) (by omega) fun _ base14 c14 hc14 => yS rfl $ wN $ tN $ wS $ wR $ zS rfl $ yS rfl $ wN $ tN $ WC.ret $ xR rfl ((base14, c14)) (by unfold num; rw [← hi, h3, List.length_append, List.length_singleton]; dsimp only; omega) (by unfold num; rw [← hi, h3, List.length_append]; rfl) (fun w h => ?_)
   rw [byte_last z (by omega)] at h
   have e : u8s out ++ [u8v (UInt8.ofNat z)] = u8s (num x) := by unfold num; rw [← hi, h3]; simp [u8s]
   rw [e] at h
   exact h
 ·
  refine wR $ zI rfl $ sv (vadd rfl rfl (by omega)) $ sv (vneg rfl) $ sv (vcv is3 Tryz.underlying144 rfl) $ sv (vmulr rfl rfl) $ sv (vaddr rfl rfl) $ yI rfl $ wN $ tN $ wS $ wR $ yS rfl $ wN $ tN $ wS $ WC.block $ ?_
  refine WC.loop (ι := Nat × List UInt8 × Option Addr × Nat) (fun i => [(3, .int .u64 i.1), (4, .slice i.2.2.1 i.2.1.length i.2.2.2)]) [] (fun i => row i.2.2.1 i.2.2.2 1 5 (u8s i.2.1) :: A) (fun i => i.2.1 ++ leb i.1 = leb (zig x) ∧ i.1 < 18446744073709551616) (fun i => i.1) ((zig x, [], none, 0)) (⟨rfl, hz⟩) ⟨iv (ref_zig_neg hx h1), rfl, trivial⟩ trivial (fun w h => h.intro_row_nil) ?_
  rintro ⟨z, out, base', c'⟩ ⟨hi, hzl⟩ ρh
  dsimp only at hi hzl ⊢
  have hlen : out.length + (leb z).length ≤ 10 := by rw [← List.length_append, hi]; exact hn
  have hpos := leb_pos z
  refine wS $ wS $ wR $ zI rfl $ sv (vge rfl rfl) $ wN $ tN $ ?_
  refine WC.ite rfl (fun h3 => ?_) (fun h3 => ?_)
  ·
   have h3 := leb_ge (z := z) (by omega)
   refine WC.skip $ tN $ WC.block $ wS $ wR $ zS rfl $ zI rfl $ sv (vrem rfl rfl (by decide)) $ sv (vaddr rfl rfl) $ sv (vcv is144 Tryz.underlying5 rfl) $ ap1 (v := .int _ _) Tryz.underlying108 zt5 rfl (fun _ => rfl) (fun _ => rfl) rfl rfl rfl (by simp) (by simp only [maxLen]; omega) (by omega) fun _ base10 c10 hc10 => yS rfl $ wN $ tN $ wR $ zI rfl $ sv (vquo rfl rfl (by decide)) $ yI rfl $ wN $ WX.blockN $ WX.again ((z / 128, out ++ [UInt8.ofNat (z % 128 + 128)], base10, c10)) (⟨by simp only; rw [List.append_assoc, List.singleton_append, ← h3]; exact hi, by simp only; omega⟩) (by simp only; omega) ⟨iv (ref_quo hzl), by simp only [List.length_append]; rfl, trivial⟩ trivial (fun w h => ?_)
   rw [ref_more] at h
   have e : u8s out ++ [u8v (UInt8.ofNat (z % 128 + 128))] = u8s (out ++ [UInt8.ofNat (z % 128 + 128)]) := by simp [u8s]
   rw [e] at h
   exact h
  ·
   have h3 := leb_lt (z := z) (by omega)
   refine WC.exit $ WX.thenE $ WX.thenE $ WX.blockH $ tN $ wS $ wR $ zS rfl $ zI rfl $ sv (vcv is144 Tryz.underlying5 rfl) $ ap1 (v := .int _ _) Tryz.underlying108 zt5 rfl (fun _ => rfl) (fun _ => rfl) rfl rfl rfl (by simp) (by simp only [maxLen]; omega) (by omega) fun _ base14 c14 hc14 => yS rfl $ wN $ tN $ wS $ wR $ zS rfl $ yS rfl $ wN $ tN $ WC.ret $ xR rfl ((base14, c14)) (by unfold num; rw [← hi, h3, List.length_append, List.length_singleton]; dsimp only; omega) (by unfold num; rw [← hi, h3, List.length_append]; rfl) (fun w h => ?_)
   rw [byte_last z (by omega)] at h
   have e : u8s out ++ [u8v (UInt8.ofNat z)] = u8s (num x) := by unfold num; rw [← hi, h3]; simp [u8s]
   rw [e] at h
   exact h
theorem ref_text {s : ByteArray} (hs : s.size ≤ 140737488351232) :
  Fun Tryz.prog w0 89 [.string s] A
   (Ret w0 (fun i : Option Addr × Nat => (text s.data.toList).length ≤ i.2) (fun i => .slice i.1 (text s.data.toList).length i.2) (fun i => row i.1 i.2 1 5 (u8s (text s.data.toList)) :: A)) := by
 have hx : -9223372036854775808 ≤ (s.size : Int) ∧ (s.size : Int) ≤ 9223372036854775807 := by omega
 have hn := num_len hx
 have hz : s.data.toList.length = s.size := by simp
 refine Fun.enter Tryz.func89 rfl Tryz.ntmps89 rfl ?_
 refine wS $ wR $ yS rfl $ wN $ tN $ wS $ wR $ sv (vmT rfl) $ sv (vlens Tryz.underlying9 rfl) $ cl (ref_num hx) ct88 rfl fun r _ => yS rfl $ wN $ tN $ wS $ wR $ zS rfl $ sv (vmT rfl) $ aps Tryz.underlying108 (.inl Tryz.underlying9) zt5 rfl rfl rfl (by simp) (by simp only [maxLen]; omega) (by omega) fun base' c' hc' => yS rfl $ wN $ tN $ wS $ wR $ zS rfl $ yS rfl $ wN $ tN $ WC.ret $ xR rfl ((base', c')) (by unfold text; rw [List.length_append, hz]; dsimp only; omega) (by unfold text; rw [List.length_append, hz]; rfl) (fun w h => ?_)
 have e : u8s (num (s.size : Int)) ++ u8s s.data.toList = u8s (text s.data.toList) := by unfold text; rw [hz]; simp [u8s]
 rw [e] at h
 exact h
end Go.Proofs.YtigjompojlhomaaGreat
end
