/-
  Layer 19: how far the log is committed.
-/
import Derived.Test.YtekoilhjlofncaaRaftSpecC
set_option linter.unusedVariables false
set_option linter.unusedSimpArgs false
set_option maxRecDepth 4000
namespace Go.Proofs.Ytekoilhjlofncaa
open Go.Sl Go.RowKit Go.Raft

def cntK (x : Rn) (p : Int) (ks : List Int) : Int := 1 + ((ks.filter fun k => decide (p ≤ x.mt k)).length : Int)
theorem cntK_cons {x : Rn} {p k : Int} {ks : List Int} : cntK x p (k :: ks) = if p ≤ x.mt k then cntK x p ks + 1 else cntK x p ks := by
  unfold cntK
  rw [List.filter_cons]
  by_cases h : p ≤ x.mt k
  · simp [h]; omega
  · simp [h]
theorem cntK_all {x : Rn} {p : Int} {ks : List Int} (hn : ks.Nodup) (h : ∀ k, k ∈ ks ↔ k ∈ others x) : cntK x p ks = haveC x p := by
  have hp : ks.Perm (others x) := (List.perm_ext_iff_of_nodup hn oth_nodup).2 h
  unfold cntK haveC
  rw [(hp.filter _).length_eq]
theorem countP_succ {x : Rn} {k : Nat} (h : x.commit < (k : Int) + 1 ∧ atT x.log ((k : Int) + 1) = x.term) : countP x (k + 1) = if x.n < 2 * haveC x ((k : Int) + 1) then (k : Int) + 1 else countP x k := by
  rw [countP, if_pos h]
theorem countP_stop {x : Rn} : ∀ {k : Nat}, ¬ (x.commit < (k : Int) ∧ atT x.log (k : Int) = x.term) → countP x k = x.commit
  | 0, _ => rfl
  | k + 1, h => by rw [countP, if_neg (by simpa using h)]
theorem sub_len' {α : Type} {ns l : List α} (hn : ns.Nodup) (hs : ∀ n ∈ ns, n ∈ l) : ns.length ≤ l.length := hn.length_le_of_subset hs
theorem raft_count {w0 : World} {R : List HProp} {p c m : Nat} {base : Option Addr} {vv : Value} {x : Rn} {ps : List (Int × Nat)} (hn : 0 ≤ x.n ∧ x.n ≤ 5) (hl : x.log.length ≤ 10000) (h0 : 0 ≤ x.commit) (hps : ps.map Prod.fst = others x) :
    Fun Try.prog w0 52 [.pointer (some ⟨p, 0, none⟩)] (cel p (ncells x base c vv (.map (some m))) 76 :: row base c 2 39 (cvs x.log) :: mp (.int .i64) m (pents ps) :: peersC x.nx x.mt ps :: R)
      (Ret w0 (fun _ : Unit => True) (fun _ => .tuple #[]) (fun _ => cel p (ncells (countS x) base c vv (.map (some m))) 76 :: row base c 2 39 (cvs x.log) :: mp (.int .i64) m (pents ps) :: peersC x.nx x.mt ps :: R)) := by
  refine Fun.enter Try.func52 rfl Try.ntmps52 rfl ?_
  refine WC.seq <| WC.region <| sv (vmP rfl) <| sv (vnil rfl) <| sv (vfld fl76f4 rfl) <| sv (vldc pl22 rfl) <| sv (vlen Try.underlying22 rfl) <| sv (vaI rfl) <| WL.nil <| WX.thenN <| WC.block <| ?_
  refine WC.loop (ι := Nat) (fun i => [(2, .int .i64 (i : Nat))]) [(0, .pointer _)] (fun i => cel p (ncells x base c vv (.map (some m))) 76 :: row base c 2 39 (cvs x.log) :: mp (.int .i64) m (pents ps) :: peersC x.nx x.mt ps :: R) (fun i => i ≤ x.log.length ∧ countP x i = countP x x.log.length) (fun i => i) (x.log.length) (⟨Nat.le_refl _, rfl⟩) ⟨rfl, trivial⟩ ⟨rfl, trivial⟩ (fun _ h => h) ?_
  intro i hi ρh
  refine WC.seq <| ?_
  refine WC.cut0 [(26, .bool (decide (x.commit < (i : Int) ∧ atT x.log i = x.term)))] [(0, .pointer _), (2, .int _ _)] (cel p (ncells x base c vv (.map (some m))) 76 :: row base c 2 39 (cvs x.log) :: mp (.int .i64) m (pents ps) :: peersC x.nx x.mt ps :: R) ⟨rfl, rfl, trivial⟩ ?_ fun ρh => ?_
  · -- raft.go:92
    refine WC.draws rfl (by kernel_rfl) <| qv (vmI rfl) <| qv (vmP rfl) <| qv (vnil rfl) <| qv (vfld fl76f7 rfl) <| qv (vldc pl3 rfl) <| qvs (vgt rfl rfl) (fun q1 => ?_) (fun q1 => ?_)
    ·
      exact qv (vmB rfl) <| qvg rfl (vmP rfl) <| qvg rfl (vmI rfl) <| qclg rfl (Fun.quiet (raft_at (x := x) (base := base) (c := c) (vv := vv) (pv := .map (some m)) hl)) ct39 rfl <| qvg rfl (vmP rfl) <| qvg rfl (vnil rfl) <| qvg rfl (vfld fl76f2 rfl) <| qvg rfl (vldc pl3 rfl) <| qvg rfl (veq rfl rfl) <| qv (vpkt rfl) <| WQ.nil <| WX.mid () trivial ⟨bI (by first | omega | simp_all | grind), trivial⟩ ⟨rfl, rfl, trivial⟩ (fun _ h => h)
    ·
      exact qv (vmB rfl) <| qng rfl <| qng rfl <| qng rfl <| qng rfl <| qng rfl <| qng rfl <| qng rfl <| qng rfl <| qv (vpkf rfl) <| WQ.nil <| WX.mid () trivial ⟨bF (by first | omega | simp_all | grind), trivial⟩ ⟨rfl, rfl, trivial⟩ (fun _ h => h)
  refine WC.ite rfl (fun h1 => ?_) (fun h1 => ?_)
  · -- then
    obtain ⟨k, rfl⟩ : ∃ k, i = k + 1 := by
      cases i with
      | zero => exact absurd h1.1 (by omega)
      | succ k => exact ⟨k, rfl⟩
    refine WC.skip <| WX.thenN <| WC.seq <| WC.block <| WC.seq <| WC.region <| sv (vaI rfl) <| WL.nil <| WX.thenN <| WC.seq <| WC.seq <| WC.region <| sv (vmP rfl) <| sv (vnil rfl) <| sv (vfld fl76f11 rfl) <| sv (vldc pl74 rfl) <| pm (fun _ h => h.pk2) <| rgm Try.underlying74 rfl fun it6 => WL.nil <| WX.thenN <| WC.block <| ?_
    refine WC.loop (ι := List Int) (fun ks => [(3, .int .i64 (cntK x ((k + 1 : Nat) : Int) ks))]) [(0, .pointer _), (2, .int _ _), (33, _)] (fun ks => mr (.int .i64) m (pents ps) it6 (ks.map (Value.int .i64)) :: cel p (ncells x base c vv (.map (some m))) 76 :: row base c 2 39 (cvs x.log) :: peersC x.nx x.mt ps :: R) (fun ks => ks.Nodup ∧ ∀ k ∈ ks, k ∈ others x) (fun ks => (others x).length - ks.length) ([]) (⟨by simp, by simp⟩) ⟨rfl, trivial⟩ ⟨rfl, rfl, rfl, trivial⟩ (fun _ h => h) ?_
    intro ks hks ρh
    have hcb : 0 ≤ cntK x ((k + 1 : Nat) : Int) ks ∧ cntK x ((k + 1 : Nat) : Int) ks ≤ 6 := by
      have h2 := List.length_filter_le (fun j => decide (((k + 1 : Nat) : Int) ≤ x.mt j)) ks
      have h3 := sub_len' hks.1 (l := others x) hks.2
      have h4 := oth_len (id := x.id) (n := x.n.toNat)
      unfold others at h3; unfold cntK; omega
    refine WC.seq <| WC.region <| nxm rfl (fun k7 v7 hk7 hv7 => ?_) (fun hall7 => ?_)
    ·
      obtain ⟨q, hq, hqe⟩ := List.mem_map.1 hk7
      cases hqe
      obtain ⟨j, hj⟩ := List.mem_iff_getElem?.1 hq
      have hqn : q.1 ∉ ks := fun h => hv7 (List.mem_map.2 ⟨_, h, rfl⟩)
      have hqo : q.1 ∈ others x := by rw [← hps]; exact List.mem_map.2 ⟨q, hq, rfl⟩
      have hmu : (others x).length - (q.1 :: ks).length < (others x).length - ks.length := by
        have := sub_len' (List.nodup_cons.2 ⟨hqn, hks.1⟩) (l := others x) (fun n hn => by rcases List.mem_cons.1 hn with rfl | hn; exact hqo; exact hks.2 n hn)
        simp only [List.length_cons] at this ⊢
        omega
      have hRk : (q.1 :: ks).Nodup ∧ ∀ k ∈ q.1 :: ks, k ∈ others x := ⟨List.nodup_cons.2 ⟨hqn, hks.1⟩, fun n hn => by rcases List.mem_cons.1 hn with rfl | hn; exact hqo; exact hks.2 n hn⟩
      refine sv (vex rfl rfl) <| WL.nil <| WX.thenN <| WC.seq <| ?_
      refine WC.tt rfl ?_
      refine WC.skip <| WX.thenN <| WC.block <| WC.seq <| WC.region <| sv (ven rfl hk7) <| sv (vex rfl rfl) <| sv (vaP rfl) <| WL.nil <| WX.thenN <| WC.seq <| WC.region <| sv (vmP rfl) <| sv (vnil rfl) <| sv (vfld fl93f1 rfl) <| sv (vld pl3 rfl (CellC.of_peers (nx := x.nx) (mt := x.mt) (ps := ps) (by simp) hj rfl)) <| sv (vmI rfl) <| sv (vge rfl rfl) <| WL.nil <| WX.thenN <| ?_
      refine WC.ite rfl (fun h3 => ?_) (fun h3 => ?_)
      · -- then
        exact WC.region <| sv (vmI rfl) <| sv (vadd rfl rfl (by omega)) <| sv (vaI rfl) <| WL.nil <| WX.blockN <| WX.again (q.1 :: ks) (hRk) (hmu) ⟨iv (by rw [cntK_cons, if_pos h3]), trivial⟩ ⟨rfl, rfl, rfl, trivial⟩ (fun _ h => h)
      · -- else
        exact WC.skip <| WX.blockN <| WX.again (q.1 :: ks) (hRk) (hmu) ⟨iv (by rw [cntK_cons, if_neg h3]), trivial⟩ ⟨rfl, rfl, rfl, trivial⟩ (fun _ h => h)
    ·
      have hall : cntK x ((k + 1 : Nat) : Int) ks = haveC x ((k : Int) + 1) := by
        have := cntK_all (x := x) (p := ((k + 1 : Nat) : Int)) hks.1 (fun n => ⟨hks.2 n, fun hn => by
          rw [← hps] at hn
          obtain ⟨q, hq, rfl⟩ := List.mem_map.1 hn
          have := hall7 _ (List.mem_map.2 ⟨q, hq, rfl⟩)
          simpa using this⟩)
        rw [this]; congr 1
      have hcs := countP_succ (x := x) (k := k) (by simpa using h1)
      refine sv (vex rfl rfl) <| WL.nil <| WX.thenN <| WC.seq <| ?_
      refine WC.ff rfl ?_
      refine WC.exit <| WX.thenE <| WX.thenE <| WX.blockH <| WX.thenN <| WC.seq <| WC.region <| sv (vmP rfl) <| sv (vmI rfl) <| pm (fun _ h => h.mr_mp.pk1) <| cl (raft_most (x := x) (base := base) (c := c) (vv := vv) (pv := .map (some m)) hn) ct61 rfl fun _ _ => WL.nil <| WX.thenN <| ?_
      refine WC.ite rfl (fun h5 => ?_) (fun h5 => ?_)
      · -- then
        refine WC.seq <| WC.region <| sv (vmP rfl) <| sv (vmI rfl) <| sv (vnil rfl) <| sv (vfld fl76f7 rfl) <| stc (v := .int _ _) pl3 sz3 rfl rfl rfl <| WL.nil <| WX.thenN <| WC.ret <| WX.blockR <| WX.thenR <| WX.thenR <| WX.blockR <| WX.ret0 rfl (()) (trivial) rfl (fun w h => ?_)
        rw [hall] at h5
        rw [if_pos h5, hi.2] at hcs
        have e : (countS x).commit = ((k + 1 : Nat) : Int) := by show countP x x.log.length = _; rw [hcs]; rfl
        unfold ncells
        rw [e]
        exact h.ix [0, 2, 1]
      · -- else
        exact WC.skip <| WX.blockN <| WX.thenN <| WC.region <| sv (vmI rfl) <| sv (vsub rfl rfl (by omega)) <| sv (vaI rfl) <| WL.nil <| WX.again (k) (⟨by omega, by rw [← hi.2, hcs, if_neg (by rw [← hall]; exact h5)]⟩) (by omega) ⟨iv (by omega), trivial⟩ ⟨rfl, trivial⟩ (fun w h => h.ix [0, 2, 1])
  · -- else
    refine WC.exit <| WX.thenE <| WX.thenE <| WX.blockH <| WX.end0 rfl (()) (trivial) rfl (fun w h => ?_)
    have e : (countS x).commit = x.commit := by show countP x x.log.length = _; rw [← hi.2]; exact countP_stop h1
    unfold ncells
    rw [e]
    exact h
end Go.Proofs.Ytekoilhjlofncaa
