/-
  Layer 19: answers; a mail, whatever it is.
-/
import Derived.Test.YtekoilhjlofncaaRaftFed
import Derived.Test.YtekoilhjlofncaaRaftMay
set_option linter.unusedVariables false
set_option linter.unusedSimpArgs false
set_option maxRecDepth 4000
namespace Go.Proofs.Ytekoilhjlofncaa
open Go.Sl Go.RowKit Go.Raft

theorem upd_same {f : Int → Int} {k v : Int} : upd f k v k = v := if_pos rfl
theorem upd_other {f : Int → Int} {k v j : Int} (h : j ≠ k) : upd f k v j = f j := if_neg h
theorem peers_put {w0 w : World} {nx mt nx' mt' : Int → Int} {A : List HProp} {ps : List (Int × Nat)} {j pb : Nat} {k a b : Int} (hj : ps[j]? = some (k, pb)) (hn : (ps.map Prod.fst).Nodup) (ha : nx' k = a) (hb : mt' k = b) (hc : ∀ i, i ≠ k → nx' i = nx i ∧ mt' i = mt i)
    (H : Own w0 (cel pb [.int .i64 a, .int .i64 b] 93 :: peersC nx mt (ps.eraseIdx j) :: A) w) : Own w0 (peersC nx' mt' ps :: A) w := by
  subst ha; subst hb
  exact peers_in (q := (k, pb)) hj hn hc H
theorem raft_answered_no {w0 : World} {A : List HProp} {p : Nat} {x : Rn} {m : Mh} (h : m.term ≠ x.term ∨ x.role ≠ 2 ∨ (x.log.length : Int) < m.index) :
    Fun Try.prog w0 48 [.pointer (some ⟨p, 0, none⟩), .agg (mv m).toArray] (hnode p x :: A) (MR w0 p A (answeredS x m.ml)) := by
  refine Fun.ex (fun w h => hnode_open h) ?_
  rintro ⟨base, c, vv, pv⟩ hc
  dsimp only at hc ⊢
  have ht : answeredS x m.ml = (x, []) := if_pos h
  unfold MR
  rw [ht]
  refine Fun.enter Try.func48 rfl Try.ntmps48 rfl ?_
  refine WC.seq <| WC.region <| bxc (v := .agg _) (cs := [.int _ _, .int _ _, .int _ _, .int _ _, .int _ _, .int _ _, .int _ _, .bool _, .slice _ _ _]) rfl rfl fun b1 => sv (vaS rfl) <| WL.nil <| WX.thenN <| WC.seq <| ?_
  refine WC.cut0 [(29, .bool (decide (m.term ≠ x.term ∨ x.role ≠ 2 ∨ (x.log.length : Int) < m.index)))] [(0, .pointer _), (3, _)] (cel b1 (mv m) 28 :: cel p (ncells x base c vv pv) 76 :: row base c 2 39 (cvs x.log) :: extraC x vv pv :: A) ⟨rfl, rfl, trivial⟩ ?_ fun ρh => ?_
  · -- raft.go:231
    refine WC.draws rfl (by kernel_rfl) <| qv (vfld fl28f3 rfl) <| qv (vldc pl3 rfl) <| qv (vmP rfl) <| qv (vnil rfl) <| qv (vfld fl76f2 rfl) <| qv (vldc pl3 rfl) <| qvs (vne rfl rfl) (fun q1 => ?_) (fun q1 => ?_)
    ·
      exact qv (vmB rfl) <| qng rfl <| qng rfl <| qng rfl <| qng rfl <| qng rfl <| qv (vpkt rfl) <| qv (vmB rfl) <| qng rfl <| qng rfl <| qng rfl <| qng rfl <| qng rfl <| qng rfl <| qng rfl <| qng rfl <| qv (vpkt rfl) <| WQ.nil <| WX.mid () trivial ⟨bT (by first | omega | simp_all | grind), trivial⟩ ⟨rfl, rfl, trivial⟩ (fun _ h => h)
    ·
      refine qv (vmB rfl) <| qvg rfl (vmP rfl) <| qvg rfl (vnil rfl) <| qvg rfl (vfld fl76f5 rfl) <| qvg rfl (vldc pl3 rfl) <| qvsg rfl (vne rfl rfl) (fun q2 => ?_) (fun q2 => ?_)
      ·
        exact qv (vpkf rfl) <| qv (vmB rfl) <| qng rfl <| qng rfl <| qng rfl <| qng rfl <| qng rfl <| qng rfl <| qng rfl <| qng rfl <| qv (vpkt rfl) <| WQ.nil <| WX.mid () trivial ⟨bT (by first | omega | simp_all | grind), trivial⟩ ⟨rfl, rfl, trivial⟩ (fun _ h => h)
      ·
        exact qv (vpkf rfl) <| qv (vmB rfl) <| qvg rfl (vfld fl28f4 rfl) <| qvg rfl (vldc pl3 rfl) <| qvg rfl (vmP rfl) <| qvg rfl (vnil rfl) <| qvg rfl (vfld fl76f4 rfl) <| qvg rfl (vldc pl22 rfl) <| qvg rfl (vlen Try.underlying22 rfl) <| qvg rfl (vgt rfl rfl) <| qv (vpkf rfl) <| WQ.nil <| WX.mid () trivial ⟨bI (by first | omega | simp_all | grind), trivial⟩ ⟨rfl, rfl, trivial⟩ (fun _ h => h)
  refine WC.ite rfl (fun h1 => ?_) (fun h1 => ?_)
  · -- then
    exact WC.seq <| WC.region <| sv (vaS rfl) <| WL.nil <| WX.thenN <| WC.ret <| WX.thenR <| WX.ret1 rfl ((none, 0, [])) (⟨rfl, Nat.le_refl _⟩) rfl (fun w h => no_mails (hnode_mk hc h.tail))
  · -- else
    exact absurd h h1
structure AI where
  base : Option Addr
  c : Nat
  vv : Value
  m : Nat
  ps : List (Int × Nat)
  j : Nat
  pb : Nat
theorem ans_open {w0 w : World} {A : List HProp} {p : Nat} {x : Rn} {k : Int} (hr : x.role = 2) (hk : k ∈ others x) (H : Own w0 (hnode p x :: A) w) :
    ∃ i : AI, (x.log.length ≤ i.c ∧ i.ps.map Prod.fst = others x ∧ i.ps[i.j]? = some (k, i.pb)) ∧ Own w0 (cel i.pb [.int .i64 (x.nx k), .int .i64 (x.mt k)] 93 :: cel p (ncells x i.base i.c i.vv (.map (some i.m))) 76 :: row i.base i.c 2 39 (cvs x.log) :: mp (.int .i64) i.m (pents i.ps) :: peersC x.nx x.mt (i.ps.eraseIdx i.j) :: A) w := by
  obtain ⟨⟨base, c, vv, m, ps⟩, ⟨hc, hps⟩, h1⟩ := hnode_open2 hr H
  obtain ⟨j, pb, hj⟩ := peer_at hps hk
  exact ⟨⟨base, c, vv, m, ps, j, pb⟩, ⟨hc, hps, hj⟩, (peers_out hj h1.pk3).ix [0, 2, 3, 4, 1]⟩
def badY (x : Rn) (m : Mh) : Rn := { x with nx := upd x.nx m.fr (max (x.mt m.fr + 1) (min (m.index + 1) (x.nx m.fr - 1))) }
def okY (x : Rn) (m : Mh) : Rn := { x with mt := upd x.mt m.fr (max (x.mt m.fr) m.index), nx := upd x.nx m.fr (max (x.mt m.fr) m.index + 1) }
theorem ans_bad {x : Rn} {m : Mh} (h : ¬ (m.term ≠ x.term ∨ x.role ≠ 2 ∨ (x.log.length : Int) < m.index)) (ho : m.ok = false) : answeredS x m.ml = (badY x m, [feedM (badY x m) m.fr]) := by
  exact (if_neg (show ¬ (m.ml.term ≠ x.term ∨ x.role ≠ 2 ∨ (x.log.length : Int) < m.ml.index) from h)).trans (if_pos (show m.ml.ok = false from ho))
theorem ans_ok {x : Rn} {m : Mh} (h : ¬ (m.term ≠ x.term ∨ x.role ≠ 2 ∨ (x.log.length : Int) < m.index)) (ho : ¬ m.ok = false) : answeredS x m.ml = if (x.log.length : Int) < max (x.mt m.fr) m.index + 1 then (countS (okY x m), []) else (countS (okY x m), [feedM (countS (okY x m)) m.fr]) := by
  exact (if_neg (show ¬ (m.ml.term ≠ x.term ∨ x.role ≠ 2 ∨ (x.log.length : Int) < m.ml.index) from h)).trans (if_neg (show ¬ m.ml.ok = false from ho))
theorem raft_answered_bad {w0 : World} {A : List HProp} {p : Nat} {x : Rn} {m : Mh} (hx : RInv x) (hko : m.fr ∈ others x) (h : ¬ (m.term ≠ x.term ∨ x.role ≠ 2 ∨ (x.log.length : Int) < m.index)) (hi : 0 ≤ m.index) (ho : m.ok = false) :
    Fun Try.prog w0 48 [.pointer (some ⟨p, 0, none⟩), .agg (mv m).toArray] (hnode p x :: A) (MR w0 p A (answeredS x m.ml)) := by
  have hr : x.role = 2 := by omega
  refine Fun.ex (fun w h => ans_open hr hko h) ?_
  rintro ⟨base, c, vv, mm, ps, j, pb⟩ ⟨hc, hps, hj⟩
  dsimp only at hc hps hj ⊢
  have hl := hx.log
  have hpe := hx.peers hr m.fr
  have hnd : (ps.map Prod.fst).Nodup := by rw [hps]; exact oth_nodup
  unfold MR
  rw [ans_bad h ho]
  refine Fun.enter Try.func48 rfl Try.ntmps48 rfl ?_
  refine WC.seq <| WC.region <| bxc (v := .agg _) (cs := [.int _ _, .int _ _, .int _ _, .int _ _, .int _ _, .int _ _, .int _ _, .bool _, .slice _ _ _]) rfl rfl fun b1 => sv (vaS rfl) <| WL.nil <| WX.thenN <| WC.seq <| ?_
  refine WC.cut0 [(29, .bool (decide (m.term ≠ x.term ∨ x.role ≠ 2 ∨ (x.log.length : Int) < m.index)))] [(0, .pointer _), (3, _)] (cel b1 (mv m) 28 :: cel pb [.int .i64 (x.nx m.fr), .int .i64 (x.mt m.fr)] 93 :: cel p (ncells x base c vv (.map (some mm))) 76 :: row base c 2 39 (cvs x.log) :: mp (.int .i64) mm (pents ps) :: peersC x.nx x.mt (ps.eraseIdx j) :: A) ⟨rfl, rfl, trivial⟩ ?_ fun ρh => ?_
  · -- raft.go:231
    refine WC.draws rfl (by kernel_rfl) <| qv (vfld fl28f3 rfl) <| qv (vldc pl3 rfl) <| qv (vmP rfl) <| qv (vnil rfl) <| qv (vfld fl76f2 rfl) <| qv (vldc pl3 rfl) <| qvs (vne rfl rfl) (fun q1 => ?_) (fun q1 => ?_)
    ·
      exact qv (vmB rfl) <| qng rfl <| qng rfl <| qng rfl <| qng rfl <| qng rfl <| qv (vpkt rfl) <| qv (vmB rfl) <| qng rfl <| qng rfl <| qng rfl <| qng rfl <| qng rfl <| qng rfl <| qng rfl <| qng rfl <| qv (vpkt rfl) <| WQ.nil <| WX.mid () trivial ⟨bT (by first | omega | simp_all | grind), trivial⟩ ⟨rfl, rfl, trivial⟩ (fun _ h => h)
    ·
      refine qv (vmB rfl) <| qvg rfl (vmP rfl) <| qvg rfl (vnil rfl) <| qvg rfl (vfld fl76f5 rfl) <| qvg rfl (vldc pl3 rfl) <| qvsg rfl (vne rfl rfl) (fun q2 => ?_) (fun q2 => ?_)
      ·
        exact qv (vpkf rfl) <| qv (vmB rfl) <| qng rfl <| qng rfl <| qng rfl <| qng rfl <| qng rfl <| qng rfl <| qng rfl <| qng rfl <| qv (vpkt rfl) <| WQ.nil <| WX.mid () trivial ⟨bT (by first | omega | simp_all | grind), trivial⟩ ⟨rfl, rfl, trivial⟩ (fun _ h => h)
      ·
        exact qv (vpkf rfl) <| qv (vmB rfl) <| qvg rfl (vfld fl28f4 rfl) <| qvg rfl (vldc pl3 rfl) <| qvg rfl (vmP rfl) <| qvg rfl (vnil rfl) <| qvg rfl (vfld fl76f4 rfl) <| qvg rfl (vldc pl22 rfl) <| qvg rfl (vlen Try.underlying22 rfl) <| qvg rfl (vgt rfl rfl) <| qv (vpkf rfl) <| WQ.nil <| WX.mid () trivial ⟨bI (by first | omega | simp_all | grind), trivial⟩ ⟨rfl, rfl, trivial⟩ (fun _ h => h)
  refine WC.ite rfl (fun h1 => ?_) (fun h1 => ?_)
  · -- then
    exact absurd h1 h
  · -- else
    refine WC.skip <| WX.thenN <| WC.seq <| WC.draws rfl (by kernel_rfl) <| qv (vmP rfl) <| qv (vnil rfl) <| qv (vfld fl76f11 rfl) <| qv (vldc pl74 rfl) <| qv (vfld fl28f1 rfl) <| qv (vldc pl3 rfl) <| qv (vlk Try.underlying74 Try.underlying3 rfl rfl rfl (pents_at hj)) <| qv (vaP rfl) <| WQ.nil <| WX.thenN <| WC.seq <| WC.seq <| WC.region <| sv (vfld fl28f7 rfl) <| sv (vldc pl4 rfl) <| sv (vnot rfl) <| WL.nil <| WX.thenN <| ?_
    refine WC.iteb rfl (fun h2 => ?_) (fun h2 => ?_)
    · -- then
      exact WC.seq <| WC.plan (.bar [0, 1, 2, 3, 4, 5, 6, 7, 8, 9, 10, 11, 12, 13, 14, 15, 16, 17] 18 (.done [])) rfl (by kernel_rfl) <| WPl.bar (trivial) <| dv (fun g => (vmP rfl)) <| dv (fun g => (vmP rfl)) <| dv (fun g => (vnil rfl)) <| dv (fun g => (vfld fl93f1 rfl)) <| dv (fun g => (vldc pl3 rfl)) <| dv (fun g => (vadd rfl rfl (by omega))) <| dv (fun g => (vfld fl28f4 rfl)) <| dv (fun g => (vldc pl3 rfl)) <| dv (fun g => (vadd rfl rfl (by omega))) <| dv (fun g => (vmP rfl)) <| dv (fun g => (vnil rfl)) <| dv (fun g => (vfld fl93f0 rfl)) <| dv (fun g => (vldc pl3 rfl)) <| dv (fun g => (vsub rfl rfl (by omega))) <| dv (fun g => (vmin rfl rfl)) <| dv (fun g => (vmax rfl rfl)) <| dv (fun g => (vnil rfl)) <| dv (fun g => (vfld fl93f0 rfl)) <| WD.eff rfl <| pm (fun _ h => h.pk1) <| stc (v := .int _ _) pl3 sz3 rfl rfl rfl <| WL.nil <| WX.brT <| WPl.fin (trivial) <| WD.nil <| WX.thenN <| WC.seq <| WC.region <| sv (vmP rfl) <| sv (vfld fl28f1 rfl) <| sv (vldc pl3 rfl) <| pm (fun _ h => (peers_put (nx' := (badY x m).nx) (mt' := (badY x m).mt) hj hnd upd_same rfl (fun i hi => ⟨upd_other hi, rfl⟩) h.pk5.pk1).pk4.pk4.pk4) <| cl (raft_feed (x := badY x m) (q := (m.fr, pb)) hl hc (by show 1 ≤ upd _ _ _ _ ∧ upd _ _ _ _ ≤ (x.log.length : Int) + 1; rw [upd_same]; omega) hj) ct60 rfl fun i21 hi21 => bslA (v := .agg _) (cs := mv (feedH (badY x m) m.fr i21)) Try.underlying43 zt28 rfl rfl rfl (by decide) (by decide) fun b22 =>sv (vaS rfl) <| WL.nil <| WX.thenN <| WC.ret <| WX.thenR <| WX.ret1 rfl ((some ⟨b22, 0, none⟩, 1, [feedH (badY x m) m.fr i21])) (⟨rfl, Nat.le_refl _⟩) rfl (fun w h => ((hnode_mk2 (x := badY x m) hr hc hps ((one_mail h).ix [2, 3, 4, 5, 0, 1])).ix [3, 1, 2, 0]).tail)
    · -- else
      exact absurd h2 (by rw [ho]; decide)
theorem raft_answered_ok {w0 : World} {A : List HProp} {p : Nat} {x : Rn} {m : Mh} (hx : RInv x) (hko : m.fr ∈ others x) (h : ¬ (m.term ≠ x.term ∨ x.role ≠ 2 ∨ (x.log.length : Int) < m.index)) (hi : 0 ≤ m.index) (ho : ¬ m.ok = false) :
    Fun Try.prog w0 48 [.pointer (some ⟨p, 0, none⟩), .agg (mv m).toArray] (hnode p x :: A) (MR w0 p A (answeredS x m.ml)) := by
  have hr : x.role = 2 := by omega
  refine Fun.ex (fun w h => ans_open hr hko h) ?_
  rintro ⟨base, c, vv, mm, ps, j, pb⟩ ⟨hc, hps, hj⟩
  dsimp only at hc hps hj ⊢
  have hl := hx.log
  have hn := hx.n
  have hcm := hx.commit
  have hpe := hx.peers hr m.fr
  have hnd : (ps.map Prod.fst).Nodup := by rw [hps]; exact oth_nodup
  have hnx : (okY x m).nx m.fr = max (x.mt m.fr) m.index + 1 := upd_same
  unfold MR
  rw [ans_ok h ho]
  refine Fun.enter Try.func48 rfl Try.ntmps48 rfl ?_
  refine WC.seq <| WC.region <| bxc (v := .agg _) (cs := [.int _ _, .int _ _, .int _ _, .int _ _, .int _ _, .int _ _, .int _ _, .bool _, .slice _ _ _]) rfl rfl fun b1 => sv (vaS rfl) <| WL.nil <| WX.thenN <| WC.seq <| ?_
  refine WC.cut0 [(29, .bool (decide (m.term ≠ x.term ∨ x.role ≠ 2 ∨ (x.log.length : Int) < m.index)))] [(0, .pointer _), (3, _)] (cel b1 (mv m) 28 :: cel pb [.int .i64 (x.nx m.fr), .int .i64 (x.mt m.fr)] 93 :: cel p (ncells x base c vv (.map (some mm))) 76 :: row base c 2 39 (cvs x.log) :: mp (.int .i64) mm (pents ps) :: peersC x.nx x.mt (ps.eraseIdx j) :: A) ⟨rfl, rfl, trivial⟩ ?_ fun ρh => ?_
  · -- raft.go:231
    refine WC.draws rfl (by kernel_rfl) <| qv (vfld fl28f3 rfl) <| qv (vldc pl3 rfl) <| qv (vmP rfl) <| qv (vnil rfl) <| qv (vfld fl76f2 rfl) <| qv (vldc pl3 rfl) <| qvs (vne rfl rfl) (fun q1 => ?_) (fun q1 => ?_)
    ·
      exact qv (vmB rfl) <| qng rfl <| qng rfl <| qng rfl <| qng rfl <| qng rfl <| qv (vpkt rfl) <| qv (vmB rfl) <| qng rfl <| qng rfl <| qng rfl <| qng rfl <| qng rfl <| qng rfl <| qng rfl <| qng rfl <| qv (vpkt rfl) <| WQ.nil <| WX.mid () trivial ⟨bT (by first | omega | simp_all | grind), trivial⟩ ⟨rfl, rfl, trivial⟩ (fun _ h => h)
    ·
      refine qv (vmB rfl) <| qvg rfl (vmP rfl) <| qvg rfl (vnil rfl) <| qvg rfl (vfld fl76f5 rfl) <| qvg rfl (vldc pl3 rfl) <| qvsg rfl (vne rfl rfl) (fun q2 => ?_) (fun q2 => ?_)
      ·
        exact qv (vpkf rfl) <| qv (vmB rfl) <| qng rfl <| qng rfl <| qng rfl <| qng rfl <| qng rfl <| qng rfl <| qng rfl <| qng rfl <| qv (vpkt rfl) <| WQ.nil <| WX.mid () trivial ⟨bT (by first | omega | simp_all | grind), trivial⟩ ⟨rfl, rfl, trivial⟩ (fun _ h => h)
      ·
        exact qv (vpkf rfl) <| qv (vmB rfl) <| qvg rfl (vfld fl28f4 rfl) <| qvg rfl (vldc pl3 rfl) <| qvg rfl (vmP rfl) <| qvg rfl (vnil rfl) <| qvg rfl (vfld fl76f4 rfl) <| qvg rfl (vldc pl22 rfl) <| qvg rfl (vlen Try.underlying22 rfl) <| qvg rfl (vgt rfl rfl) <| qv (vpkf rfl) <| WQ.nil <| WX.mid () trivial ⟨bI (by first | omega | simp_all | grind), trivial⟩ ⟨rfl, rfl, trivial⟩ (fun _ h => h)
  refine WC.ite rfl (fun h1 => ?_) (fun h1 => ?_)
  · -- then
    exact absurd h1 h
  · -- else
    refine WC.skip <| WX.thenN <| WC.seq <| WC.draws rfl (by kernel_rfl) <| qv (vmP rfl) <| qv (vnil rfl) <| qv (vfld fl76f11 rfl) <| qv (vldc pl74 rfl) <| qv (vfld fl28f1 rfl) <| qv (vldc pl3 rfl) <| qv (vlk Try.underlying74 Try.underlying3 rfl rfl rfl (pents_at hj)) <| qv (vaP rfl) <| WQ.nil <| WX.thenN <| WC.seq <| WC.seq <| WC.region <| sv (vfld fl28f7 rfl) <| sv (vldc pl4 rfl) <| sv (vnot rfl) <| WL.nil <| WX.thenN <| ?_
    refine WC.iteb rfl (fun h2 => ?_) (fun h2 => ?_)
    · -- then
      exact absurd (by simpa using h2) ho
    · -- else
      refine WC.skip <| WX.thenN <| WC.seq <| WC.plan (.bar [0, 1, 2, 3, 4, 5, 6, 7, 8, 9] 10 (.done [])) rfl (by kernel_rfl) <| WPl.bar (trivial) <| dv (fun g => (vmP rfl)) <| dv (fun g => (vmP rfl)) <| dv (fun g => (vnil rfl)) <| dv (fun g => (vfld fl93f1 rfl)) <| dv (fun g => (vldc pl3 rfl)) <| dv (fun g => (vfld fl28f4 rfl)) <| dv (fun g => (vldc pl3 rfl)) <| dv (fun g => (vmax rfl rfl)) <| dv (fun g => (vnil rfl)) <| dv (fun g => (vfld fl93f1 rfl)) <| WD.eff rfl <| pm (fun _ h => h.pk1) <| stc (v := .int _ _) pl3 sz3 rfl rfl rfl <| WL.nil <| WX.brT <| WPl.fin (trivial) <| WD.nil <| WX.thenN <| WC.seq <| WC.region <| sv (vmP rfl) <| sv (vmP rfl) <| sv (vnil rfl) <| sv (vfld fl93f1 rfl) <| sv (vldc pl3 rfl) <| sv (vadd rfl rfl (by omega)) <| sv (vnil rfl) <| sv (vfld fl93f0 rfl) <| stc (v := .int _ _) pl3 sz3 rfl rfl rfl <| WL.nil <| WX.thenN <| WC.seq <| WC.region <| sv (vmP rfl) <| pm (fun _ h => (peers_put (nx' := (okY x m).nx) (mt' := (okY x m).mt) hj hnd upd_same upd_same (fun i hi => ⟨upd_other hi, upd_other hi⟩) h.pk5.pk1).pk4.pk4.pk4) <| cl (raft_count (x := okY x m) ⟨by show 0 ≤ x.n; omega, by show x.n ≤ 5; omega⟩ hl hcm.1 hps) ct52 rfl fun _ _ => WL.nil <| WX.thenN <| WC.seq <| WC.seq <| WC.draws rfl (by kernel_rfl) <| qv (vmP rfl) <| qv (vnil rfl) <| qv (vfld fl93f0 rfl) <| qv (vld pl3 rfl (CellC.of_peers (nx := (okY x m).nx) (mt := (okY x m).mt) (ps := ps) (v := .int .i64 (max (x.mt m.fr) m.index + 1)) (by simp) hj (by rw [← hnx]; rfl))) <| qv (vmP rfl) <| qv (vnil rfl) <| qv (vfld fl76f4 rfl) <| qv (vldc pl22 rfl) <| qv (vlen Try.underlying22 rfl) <| qv (vgt rfl rfl) <| WQ.nil <| WX.thenN <| ?_
      refine WC.ite rfl (fun h3 => ?_) (fun h3 => ?_)
      · -- then
        rw [if_pos (by have h4 : (x.log.length : Int) < max (x.mt m.fr) m.index + 1 := h3; exact h4)]
        exact WC.seq <| WC.region <| sv (vaS rfl) <| WL.nil <| WX.thenN <| WC.ret <| WX.thenR <| WX.ret1 rfl ((none, 0, [])) (⟨rfl, Nat.le_refl _⟩) rfl (fun w h => no_mails (((hnode_mk2 (x := countS (okY x m)) hr hc hps h).pk1).tail))
      · -- else
        rw [if_neg (by have h4 : ¬ (x.log.length : Int) < max (x.mt m.fr) m.index + 1 := h3; exact h4)]
        exact WC.skip <| WX.thenN <| WC.seq <| WC.region <| sv (vmP rfl) <| sv (vfld fl28f1 rfl) <| sv (vldc pl3 rfl) <| cl (raft_feed (x := countS (okY x m)) (q := (m.fr, pb)) hl hc (by show 1 ≤ (okY x m).nx m.fr ∧ (okY x m).nx m.fr ≤ (x.log.length : Int) + 1; rw [hnx]; omega) hj) ct60 rfl fun i34 hi34 => bslA (v := .agg _) (cs := mv (feedH (countS (okY x m)) m.fr i34)) Try.underlying43 zt28 rfl rfl rfl (by decide) (by decide) fun b35 =>sv (vaS rfl) <| WL.nil <| WX.thenN <| WC.ret <| WX.ret1 rfl ((some ⟨b35, 0, none⟩, 1, [feedH (countS (okY x m)) m.fr i34])) (⟨rfl, Nat.le_refl _⟩) rfl (fun w h => ((hnode_mk2 (x := countS (okY x m)) hr hc hps ((one_mail h).ix [2, 3, 4, 5, 0, 1])).ix [3, 1, 2, 0]).tail)
theorem raft_answered {w0 : World} {A : List HProp} {p : Nat} {x : Rn} {m : Mh} (hx : RInv x) (hko : m.fr ∈ others x) (hi : 0 ≤ m.index) :
    Fun Try.prog w0 48 [.pointer (some ⟨p, 0, none⟩), .agg (mv m).toArray] (hnode p x :: A) (MR w0 p A (answeredS x m.ml)) := by
  by_cases h : m.term ≠ x.term ∨ x.role ≠ 2 ∨ (x.log.length : Int) < m.index
  · exact raft_answered_no h
  · by_cases ho : m.ok = false
    · exact raft_answered_bad hx hko h hi ho
    · exact raft_answered_ok hx hko h hi ho
end Go.Proofs.Ytekoilhjlofncaa
